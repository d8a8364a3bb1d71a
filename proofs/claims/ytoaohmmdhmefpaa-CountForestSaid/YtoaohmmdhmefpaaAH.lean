/- Ax, part H: forgetting and freezing, at heaps that are written out; calls that only look. -/
import Derived.Test.YtoaohmmdhmefpaaAG
namespace Go.Ax
open Go.RowKit

section
variable {P : Program} {B : Fr} {w0 w w' : World} {ρ : Ren} {h : Heap} {fr : Nat → Prop} {r : Nat → Option Nat}

/-- A world in which all that was there is as it was. -/
theorem Sim.moved (s : Sim B w0 ρ h w) {F : Nat → Prop} (k : Kept ⟨w.heap.size, F⟩ w w') : Sim B w0 ρ h w' := by
  have same : ∀ i, i < w.heap.size → w'.heap[i]? = w.heap[i]? := fun i hi => k.block i (.inl hi)
  refine ⟨s.below.trans ⟨k.os, k.tape, k.output, k.size, fun i hi => same i (hi.elim (fun q => Nat.lt_of_lt_of_le q s.le) (s.fle i))⟩, Nat.le_trans s.le k.size, fun i hi => Nat.lt_of_lt_of_le (s.fle i hi) k.size,
    fun i b hi => let ⟨d1, d2, d3⟩ := s.dom i b hi; ⟨d1, Nat.lt_of_lt_of_le d2 k.size, d3⟩,
    fun i c m hi => let ⟨b, h1, h2⟩ := s.row i c m hi; ⟨b, h1, h2.mono (.refl _) (same _ (s.dom _ _ h1).2.1)⟩,
    fun i es hi => let ⟨b, h1, h2⟩ := s.map i es hi; ⟨b, h1, h2.mono (.refl _) (same _ (s.dom _ _ h1).2.1)⟩, s.inj,
    fun j cc hj => let ⟨el, f, q⟩ := s.cold j cc hj; ⟨el, f, (same j (s.coldLt hj)).trans q⟩, s.apart, s.coldF⟩

/-- Results that hold no address. -/
def grd : Value → Bool
  | .tuple vs => vs.size != 1 && vs.toList.all ground
  | v => ground v

theorem grd_rel {ρ' : Ren} {v v' : Value} (hg : grd v = true) (hr : Rel ρ v v') : Rel ρ' v v' := by
  have one : ∀ {v v' : Value}, ground v = true → Rel ρ v v' → Rel ρ' v v' := fun {v v'} hg hr => by
    have := ground_eq hr hg
    subst this
    unfold ground at hg
    split at hg
    · exact .bool _
    · exact .int _ _
    · exact .str _
    · rename_i cs
      refine .agg cs cs rfl fun i p q => ?_
      have := List.all_eq_true.1 hg cs[i] (by simp)
      split at this
      · rename_i b e; rw [e]; exact .bool _
      · rename_i b c e; rw [e]; exact .int _ _
      · rename_i b e; rw [e]; exact .str _
      · cases this
    · cases hg
  unfold grd at hg
  split at hg
  · rename_i vs
    simp only [Bool.and_eq_true, bne_iff_ne, ne_eq] at hg
    cases hr with
    | any v => exact absurd rfl hg.1
    | tuple cs cs' h1 h2 => exact .tuple vs cs' h1 fun i p q => one (List.all_eq_true.1 hg.2 vs[i] (by simp)) (h2 i p q)
  · exact one hg hr

/-- A call that only looks at what there is, and answers with numbers: things are as frozen to it. -/
theorem acall_bor {f : FuncId} {args args2 : List Value} {Q : Value → Heap → Prop} (ga : GvL (fun _ => True) (fun _ => none) h args2 args)
    (hc : acall P f args2 [] fun v _ => grd v = true ∧ Q v h) : acall P f args h Q := by
  refine ⟨hc.1, fun B w0 ρ w args' s hr => ?_⟩
  have s2 : Sim ⟨w.heap.size, fun _ => False⟩ w (gcRen (fun _ => True) (fun _ => none) h ρ w) [] w := by
    refine ⟨.refl _ _, Nat.le_refl _, fun _ q => q.elim, fun i b hi => ?_, fun i c m hi => ?_, fun i es hi => ?_, fun i j bi bj _ hi => ?_, fun k cc hk => ?_, fun k cc i b _ hi => ?_, fun _ _ _ q => q.elim⟩
    · cases hi
    · simp at hi
    · simp at hi
    · cases hi
    · unfold gcRen at hk
      dsimp only at hk
      cases q : ρ.frz k with
      | some c0 => rw [q] at hk; cases hk; exact s.cold k _ q
      | none =>
        rw [q] at hk
        dsimp only at hk
        split at hk
        · split at hk
          · rename_i c0 el f hw; cases hk; exact ⟨el, f, hw⟩
          · cases hk
        · cases hk
    · cases hi
  refine (hc.2 _ _ _ w args' s2 (ga.rel s hr)).mono ?_
  rintro e w' ⟨ρ', v, v', h', h1, rfl, h3, h4, h5, h6⟩
  exact ⟨ρ, v, v', h, .refl _, rfl, grd_rel h5 h3, s.moved h4.below, h6⟩

/-- Values that speak of nothing that is turned. -/
inductive Cl : Value → Prop
  | plain (v : Value) (hv : plainV v = true) : Cl v
  | und : Cl und
  | agg (cs : Array Value) (h : ∀ x ∈ cs.toList, Cl x) : Cl (.agg cs)
  | tuple (cs : Array Value) (h0 : cs.size ≠ 1) (h : ∀ x ∈ cs.toList, Cl x) : Cl (.tuple cs)
  | func (fn : Fn) (xs cs : Array Value) (hf : realFn fn = true) (h1 : ∀ x ∈ xs.toList, Cl x) (h2 : ∀ x ∈ cs.toList, Cl x) : Cl (.func fn xs cs)
  | iface (t : TypeId) (v : Value) (h : Cl v) : Cl (.iface t v)
  | lit (es : Array Value) (h : ∀ e ∈ es.toList, ∀ x ∈ cellsOf e, Cl x) : Cl (.func (.yield 0) #[] es)
  | plit (cs : Array Value) (h : ∀ x ∈ cs.toList, Cl x) : Cl (.func (.yield 1) #[] cs)

theorem Gv.cl {v : Value} (hc : Cl v) : Gv fr r h v v := by
  induction hc with
  | plain v hv => exact .plain v hv
  | und => exact .und _
  | agg cs _ ih => exact .agg cs cs rfl fun i p _ => ih _ (by simp)
  | tuple cs h0 _ ih => exact .tuple cs cs h0 rfl fun i p _ => ih _ (by simp)
  | func fn xs cs hf _ _ ih1 ih2 => exact .func fn xs xs cs cs hf rfl rfl (fun i p _ => ih1 _ (by simp)) fun i p _ => ih2 _ (by simp)
  | iface t v _ ih => exact .iface t v v ih
  | lit es _ ih => exact .litL es es rfl (fun _ _ _ => rfl) fun i j p _ p2 _ => ih es[i] (by simp) _ (List.getElem_mem p2)
  | plit cs _ ih => exact .litP cs cs rfl fun i p _ => ih _ (by simp)

theorem GvL.cl : ∀ {vs : List Value}, (∀ v ∈ vs, Cl v) → GvL fr r h vs vs
  | [], _ => trivial
  | v :: vs, e => ⟨.cl (e v (by simp)), GvL.cl fun x hx => e x (by simp [hx])⟩

theorem Cl.int (k : IntKind) (n : Int) : Cl (.int k n) := .plain _ rfl
theorem Cl.bool (b : Bool) : Cl (.bool b) := .plain _ rfl
theorem Cl.str (s : ByteArray) : Cl (.string s) := .plain _ rfl
theorem Cl.nilS : Cl (.slice none 0 0) := .plain _ rfl
theorem Cl.lit' {es : List Value} (h : ∀ e ∈ es, ∀ x ∈ cellsOf e, Cl x) : Cl (Go.Ax.lit es) := .lit _ (by simpa using h)
theorem Cl.plit' {es : List Value} (h : ∀ x ∈ es, Cl x) : Cl (Go.Ax.plit es) := .plit _ (by simpa using h)
theorem Cl.cells {v : Value} (hc : Cl v) (hk : okVal v = true) : ∀ x ∈ cellsOf v, Cl x := by
  cases hc with
  | agg cs h => exact h
  | und => cases hk
  | tuple cs h0 h => cases hk
  | plain v hv => intro x hx; unfold cellsOf at hx; split at hx <;> first | (cases hv; done) | (simp at hx; subst hx; exact .plain _ hv)
  | func fn xs cs hf h1 h2 => intro x hx; simp [cellsOf] at hx; subst hx; exact .func fn xs cs hf h1 h2
  | iface t v h => intro x hx; simp [cellsOf] at hx; subst hx; exact .iface t v h
  | lit es h => intro x hx; simp [cellsOf] at hx; subst hx; exact .lit es h
  | plit es h => intro x hx; simp [cellsOf] at hx; subst hx; exact .plit es h
/-- Elements that are closed make a closed slice. -/
theorem Cl.lits {es : List Value} (h : ∀ e ∈ es, okVal e = true ∧ Cl e) : Cl (Go.Ax.lit es) := Cl.lit' fun e he x hx => (h e he).2.cells (h e he).1 x hx

/-- A row is frozen whose cells are closed. -/
theorem Gv.frz {es : List Value} {i off sz cap len : Nat} {c : List Value} {m : Md} (e : fr i) (hi : h[i]? = some (.row c m)) (hs : 0 < sz)
    (hz : ∀ e ∈ es, (cellsOf e).length = sz) (hc : (c.drop off).take (len * sz) = es.flatMap cellsOf) (hl : len = es.length) (hcl : ∀ e ∈ es, ∀ x ∈ cellsOf e, Cl x) :
    Gv fr r h (lit es) (.slice (some ⟨i, off, none⟩) len cap) := by
  subst hl
  have hlen := flat_len hz
  by_cases h0 : es.length = 0
  · have : es = [] := List.length_eq_zero_iff.1 h0
    subst this
    exact .lit0 _ _
  have hb : off + es.length * sz ≤ c.length := by
    have := congrArg List.length hc
    rw [hlen, List.length_take, List.length_drop] at this
    have h1 : 0 < es.length * sz := Nat.mul_pos (by omega) hs
    omega
  refine .frzS es.toArray i off sz cap c m e hi hs (fun k p => by simpa using hz es[k] (by simp)) (by simpa using hb) fun k j p q q2 => ?_
  have hp : k < es.length := by simpa using p
  have hq : j < (cellsOf es[k]).length := by simpa using q
  have hlt : k * sz + j < es.length * sz := by
    have h1 : (k + 1) * sz ≤ es.length * sz := Nat.mul_le_mul_right _ hp
    have h2 := hz es[k] (by simp)
    rw [Nat.succ_mul] at h1; omega
  have hx : c[off + (k * sz + j)] = (cellsOf es[k])[j] := by
    have h1 : ((c.drop off).take (es.length * sz))[k * sz + j]? = some c[off + (k * sz + j)] := by
      rw [List.getElem?_take, if_pos hlt, List.getElem?_drop, List.getElem?_eq_getElem q2]
    rw [hc] at h1
    have p' : k * sz + j < (es.flatMap cellsOf).length := by omega
    obtain ⟨r1, r2, r3⟩ := flat_get hs hz (k * sz + j) p'
    have e1 : (k * sz + j) / sz = k := by
      have := hz es[k] (by simp)
      rw [Nat.mul_comm, Nat.mul_add_div hs, Nat.div_eq_of_lt (by omega)]; simp
    have e2 : (k * sz + j) % sz = j := by
      have := hz es[k] (by simp)
      rw [Nat.mul_comm, Nat.mul_add_mod, Nat.mod_eq_of_lt (by omega)]
    rw [List.getElem?_eq_getElem p', r3] at h1
    simp only [e1, e2, Option.some.injEq] at h1
    exact h1.symm
  rw [hx]
  have : (cellsOf es.toArray[k])[j] = (cellsOf es[k])[j] := rfl
  rw [this]
  exact .cl (hcl es[k] (by simp) _ (List.getElem_mem hq))

/-- .. whose elements have one cell. -/
theorem Gv.frz1 {es : List Value} {i cap len : Nat} {m : Md} (e : fr i) (hi : h[i]? = some (.row es m)) (hl : len = es.length)
    (hz : ∀ e ∈ es, cellsOf e = [e] ∧ Cl e) : Gv fr r h (lit es) (.slice (some ⟨i, 0, none⟩) len cap) :=
  Gv.frz (sz := 1) e hi (by omega) (fun e he => by rw [(hz e he).1]; rfl) (by subst hl; simp [flat_one fun e he => (hz e he).1]) hl fun e he x hx => by
    rw [(hz e he).1] at hx; simp at hx; subst hx; exact (hz x he).2

/-- New names: the first ones as they are, then these. -/
def rOf (n0 : Nat) (ls : List Nat) (j : Nat) : Option Nat := if j < n0 then some j else (ls[j - n0]?).map (n0 + ·)
/-- All others are frozen. -/
def frOf (n0 : Nat) (ls : List Nat) (i : Nat) : Prop := n0 ≤ i ∧ ¬ (i - n0) ∈ ls

def EsG (fr : Nat → Prop) (r : Nat → Option Nat) (h : Heap) : List (Value × Value) → List (Value × Value) → Prop
  | [], [] => True
  | x :: xs, y :: ys => x.1 = y.1 ∧ Gv fr r h x.2 y.2 ∧ EsG fr r h xs ys
  | _, _ => False
theorem EsG.length : ∀ {xs ys : List (Value × Value)}, EsG fr r h xs ys → xs.length = ys.length
  | [], [], _ => rfl
  | _ :: _, _ :: _, e => by simp [EsG.length e.2.2]
  | [], _ :: _, e => e.elim
  | _ :: _, [], e => e.elim
theorem EsG.get : ∀ {xs ys : List (Value × Value)}, EsG fr r h xs ys → ∀ {k : Nat} {x y : Value × Value}, xs[k]? = some x → ys[k]? = some y → x.1 = y.1 ∧ Gv fr r h x.2 y.2
  | _ :: _, _ :: _, e, 0, x, y, hx, hy => by simp at hx hy; subst hx; subst hy; exact ⟨e.1, e.2.1⟩
  | _ :: _, _ :: _, e, k + 1, x, y, hx, hy => EsG.get e.2.2 (k := k) (by simpa using hx) (by simpa using hy)
  | [], _, _, _, x, y, hx, _ => by simp at hx

def objG (fr : Nat → Prop) (r : Nat → Option Nat) (h : Heap) : AObj → AObj → Prop
  | .row c2 m2, .row c m => GvL fr r h c2 c ∧ m2 = m
  | .map e2, .map e => EsG fr r h e2 e
  | .dead, _ => True
  | _, _ => False

def tailG (fr : Nat → Prop) (r : Nat → Option Nat) (h t : Heap) : Heap → List Nat → Prop
  | [], [] => True
  | o2 :: t2, i :: ls => (o2 = .dead ∨ ∃ o, t[i]? = some o ∧ objG fr r h o2 o) ∧ tailG fr r h t t2 ls
  | _, _ => False
theorem tailG.length {t : Heap} : ∀ {t2 : Heap} {ls : List Nat}, tailG fr r h t t2 ls → t2.length = ls.length
  | [], [], _ => rfl
  | _ :: _, _ :: _, e => by simp [tailG.length e.2]
  | [], _ :: _, e => e.elim
  | _ :: _, [], e => e.elim
theorem tailG.get {t : Heap} : ∀ {t2 : Heap} {ls : List Nat}, tailG fr r h t t2 ls → ∀ {k : Nat} {o2 : AObj}, t2[k]? = some o2 → ∃ i, ls[k]? = some i ∧ (o2 = .dead ∨ ∃ o, t[i]? = some o ∧ objG fr r h o2 o)
  | _ :: _, i :: _, e, 0, o2, hx => by simp at hx; subst hx; exact ⟨i, rfl, e.1⟩
  | _ :: _, _ :: _, e, k + 1, o2, hx => by
    obtain ⟨i, h1, h2⟩ := tailG.get e.2 (k := k) (by simpa using hx)
    exact ⟨i, by simpa using h1, h2⟩
  | [], _, _, _, o2, hx => by simp at hx

theorem nodup_at : ∀ {ls : List Nat}, ls.Nodup → ∀ {j k i : Nat}, ls[j]? = some i → ls[k]? = some i → j = k
  | [], _, j, _, i, hj, _ => by simp at hj
  | x :: ls, hn, 0, 0, i, _, _ => rfl
  | x :: ls, hn, 0, k + 1, i, hj, hk => by
    simp at hj hk; subst hj
    exact absurd (List.mem_of_getElem? hk) (List.nodup_cons.1 hn).1
  | x :: ls, hn, j + 1, 0, i, hj, hk => by
    simp at hj hk; subst hk
    exact absurd (List.mem_of_getElem? hj) (List.nodup_cons.1 hn).1
  | x :: ls, hn, j + 1, k + 1, i, hj, hk => by
    rw [nodup_at (List.nodup_cons.1 hn).2 (j := j) (k := k) (i := i) (by simpa using hj) (by simpa using hk)]

/-- Of the first heap 'a' is what it has become, 'a2' what it is to be. -/
theorem gh_pre {h0 a a2 t t2 : Heap} {ls : List Nat} (ha : a.length = h0.length) (ha2 : a2.length = h0.length) (hn : ls.Nodup)
    (hp : ∀ (j : Nat) (o2 : AObj), a2[j]? = some o2 → (a[j]? = some o2 ∧ h0[j]? = some o2) ∨ ∃ o, a[j]? = some o ∧ objG (frOf h0.length ls) (rOf h0.length ls) (a ++ t) o2 o)
    (hg : tailG (frOf h0.length ls) (rOf h0.length ls) (a ++ t) t t2 ls) : Gh h0 (frOf h0.length ls) (rOf h0.length ls) (a ++ t) (a2 ++ t2) := by
  have hl := hg.length
  have lo : ∀ {j : Nat}, j < h0.length → rOf h0.length ls j = some j := fun {j} hj => by unfold rOf; rw [if_pos hj]
  have nfr : ∀ {j : Nat}, j < h0.length → ¬ frOf h0.length ls j := fun {j} hj q => by have := q.1; omega
  have hi : ∀ {k i : Nat}, ls[k]? = some i → rOf h0.length ls (h0.length + k) = some (h0.length + i) := fun {k i} hk => by
    unfold rOf; rw [if_neg (by omega), Nat.add_sub_cancel_left, hk]; rfl
  have nfi : ∀ {k i : Nat}, ls[k]? = some i → ¬ frOf h0.length ls (h0.length + i) := fun {k i} hk q => by
    have := q.2; rw [Nat.add_sub_cancel_left] at this; exact this (List.mem_of_getElem? hk)
  have tget : ∀ {i : Nat} {o : AObj}, t[i]? = some o → (a ++ t)[h0.length + i]? = some o := fun {i o} hx => by
    rw [List.getElem?_append_right (by omega), ha, Nat.add_sub_cancel_left]; exact hx
  have split : ∀ {j : Nat} {o2 : AObj}, (a2 ++ t2)[j]? = some o2 → (j < h0.length ∧ a2[j]? = some o2) ∨ o2 = .dead ∨ ∃ k i o, j = h0.length + k ∧ ls[k]? = some i ∧ t[i]? = some o ∧ objG (frOf h0.length ls) (rOf h0.length ls) (a ++ t) o2 o := fun {j o2} hx => by
    by_cases q : j < h0.length
    · rw [List.getElem?_append_left (by omega)] at hx; exact .inl ⟨q, hx⟩
    · rw [List.getElem?_append_right (by omega), ha2] at hx
      obtain ⟨i, h1, h2 | ⟨o, h2, h3⟩⟩ := hg.get hx
      · exact .inr (.inl h2)
      · exact .inr (.inr ⟨j - h0.length, i, o, by omega, h1, h2, h3⟩)
  have aget : ∀ {j : Nat} {o : AObj}, j < h0.length → a[j]? = some o → (a ++ t)[j]? = some o := fun {j o} hj hx => by
    rw [List.getElem?_append_left (by omega)]; exact hx
  refine ⟨fun j hj => lo hj, by simp; omega, fun j i e => ?_, fun j c2 m2 hj => ?_, fun j es2 hj => ?_, fun j k i hj hk _ _ => ?_⟩
  · by_cases q : j < h0.length
    · simp; omega
    · unfold rOf at e
      rw [if_neg q] at e
      obtain ⟨x, h1, _⟩ := Option.map_eq_some_iff.1 e
      have := (List.getElem?_eq_some_iff.1 h1).1
      simp; omega
  · rcases split hj with ⟨q, hx⟩ | hd | ⟨k, i, o, rfl, h1, h2, h3⟩
    · rcases hp j _ hx with ⟨e1, e2⟩ | ⟨o, e1, e2⟩
      · exact ⟨j, c2, m2, lo q, aget q e1, rfl, .inr ⟨rfl, m2, e2⟩, .inl rfl, fun z => absurd z (nfr q)⟩
      · cases o with
        | row c m => exact ⟨j, c, m, lo q, aget q e1, e2.1.length, .inl fun k x y hx hy => e2.1.get hx hy, .inl e2.2, fun z => absurd z (nfr q)⟩
        | map es => exact e2.elim
        | dead => exact e2.elim
    · cases hd
    · cases o with
      | row c m => exact ⟨h0.length + i, c, m, hi h1, tget h2, h3.1.length, .inl fun k x y hx hy => h3.1.get hx hy, .inl h3.2, fun z => absurd z (nfi h1)⟩
      | map es => exact h3.elim
      | dead => exact h3.elim
  · rcases split hj with ⟨q, hx⟩ | hd | ⟨k, i, o, rfl, h1, h2, h3⟩
    · rcases hp j _ hx with ⟨e1, e2⟩ | ⟨o, e1, e2⟩
      · exact ⟨j, es2, lo q, nfr q, aget q e1, rfl, .inr ⟨rfl, e2⟩⟩
      · cases o with
        | map es => exact ⟨j, es, lo q, nfr q, aget q e1, EsG.length e2, .inl fun k x y hx hy => EsG.get e2 hx hy⟩
        | row c m => exact e2.elim
        | dead => exact e2.elim
    · cases hd
    · cases o with
      | map es => exact ⟨h0.length + i, es, hi h1, nfi h1, tget h2, EsG.length h3, .inl fun k x y hx hy => EsG.get h3 hx hy⟩
      | row c m => exact h3.elim
      | dead => exact h3.elim
  · unfold rOf at hj hk
    split at hj <;> split at hk
    · rw [← hk] at hj; exact Option.some.inj hj
    · cases hj
      obtain ⟨x, h1, h2⟩ := Option.map_eq_some_iff.1 hk
      omega
    · cases hk
      obtain ⟨x, h1, h2⟩ := Option.map_eq_some_iff.1 hj
      omega
    · obtain ⟨x, h1, h2⟩ := Option.map_eq_some_iff.1 hj
      obtain ⟨y, h3, h4⟩ := Option.map_eq_some_iff.1 hk
      have : x = y := by omega
      subst this
      have := nodup_at hn h1 h3
      omega

/-- The first heap is as it was. -/
theorem gh_app {h0 t t2 : Heap} (ls : List Nat) (hn : ls.Nodup) (hg : tailG (frOf h0.length ls) (rOf h0.length ls) (h0 ++ t) t t2 ls) :
    Gh h0 (frOf h0.length ls) (rOf h0.length ls) (h0 ++ t) (h0 ++ t2) :=
  gh_pre rfl rfl hn (fun _ _ e => .inl ⟨e, e⟩) hg

/-- At the end of a call that leaves the heap as it was. -/
theorem gcV_end {h0 t : Heap} {Q : Value → Heap → Prop} {v v2 : Value} (g : Gv (frOf h0.length []) (rOf h0.length []) (h0 ++ t) v2 v) (hq : Q v2 h0) : gcV h0 Q v (h0 ++ t) := by
  have := gh_app (h0 := h0) (t := t) (t2 := []) [] (by simp) trivial
  rw [List.append_nil] at this
  exact .inr ⟨_, _, v2, h0, this, g, hq⟩
theorem gcV_same {h0 h : Heap} {Q : Value → Heap → Prop} {v : Value} (hq : Q v h) : gcV h0 Q v h :=
  .inl hq
/-- At a loop. -/
theorem gcL_app {h0 t : Heap} {F : List Value → Heap → Prop} {vs : List Value} (t2 : Heap) (ls : List Nat) (hn : ls.Nodup) (vs2 : List Value)
    (hg : tailG (frOf h0.length ls) (rOf h0.length ls) (h0 ++ t) t t2 ls) (gv : GvL (frOf h0.length ls) (rOf h0.length ls) (h0 ++ t) vs2 vs) (hf : F vs2 (h0 ++ t2)) : gcL h0 F vs (h0 ++ t) :=
  .inr ⟨_, _, vs2, _, gh_app ls hn hg, gv, hf⟩
theorem gcL_same {h0 h : Heap} {F : List Value → Heap → Prop} {vs : List Value} (hf : F vs h) : gcL h0 F vs h := .inl hf

end
end Go.Ax
