/- Ax, part G: what is no longer needed is forgotten; what is no longer turned is frozen; names are given anew. -/
import Derived.Test.YtoaohmmdhmefpaaA16
namespace Go.Ax
open Go.RowKit

/-- A new abstract value for an old one: 'r' tells the old name of each new one, 'fr' the old names that are frozen. -/
inductive Gv (fr : Nat → Prop) (r : Nat → Option Nat) (h : Heap) : Value → Value → Prop
  | und (v : Value) : Gv fr r h und v
  | plain (v : Value) (hv : plainV v = true) : Gv fr r h v v
  | ptr (j i off : Nat) (e : r j = some i) : Gv fr r h (.pointer (some ⟨j, off, none⟩)) (.pointer (some ⟨i, off, none⟩))
  | slice (j i off len cap : Nat) (e : r j = some i) : Gv fr r h (.slice (some ⟨j, off, none⟩) len cap) (.slice (some ⟨i, off, none⟩) len cap)
  | map (j i : Nat) (e : r j = some i) : Gv fr r h (.map (some j)) (.map (some i))
  | iface (t : TypeId) (v v' : Value) (e : Gv fr r h v v') : Gv fr r h (.iface t v) (.iface t v')
  | func (fn : Fn) (xs xs' cs cs' : Array Value) (hf : realFn fn = true) (h1 : xs.size = xs'.size) (h2 : cs.size = cs'.size)
      (h3 : ∀ (i : Nat) (p : i < xs.size) (q : i < xs'.size), Gv fr r h xs[i] xs'[i])
      (h4 : ∀ (i : Nat) (p : i < cs.size) (q : i < cs'.size), Gv fr r h cs[i] cs'[i]) : Gv fr r h (.func fn xs cs) (.func fn xs' cs')
  | agg (cs cs' : Array Value) (h1 : cs.size = cs'.size)
      (h2 : ∀ (i : Nat) (p : i < cs.size) (q : i < cs'.size), Gv fr r h cs[i] cs'[i]) : Gv fr r h (.agg cs) (.agg cs')
  | tuple (cs cs' : Array Value) (h0 : cs.size ≠ 1) (h1 : cs.size = cs'.size)
      (h2 : ∀ (i : Nat) (p : i < cs.size) (q : i < cs'.size), Gv fr r h cs[i] cs'[i]) : Gv fr r h (.tuple cs) (.tuple cs')
  | litL (es es' : Array Value) (h1 : es.size = es'.size) (h2 : ∀ (i : Nat) (p : i < es.size) (q : i < es'.size), (cellsOf es[i]).length = (cellsOf es'[i]).length)
      (h3 : ∀ (i j : Nat) (p : i < es.size) (q : i < es'.size) (p2 : j < (cellsOf es[i]).length) (q2 : j < (cellsOf es'[i]).length), Gv fr r h (cellsOf es[i])[j] (cellsOf es'[i])[j]) :
      Gv fr r h (.func (.yield 0) #[] es) (.func (.yield 0) #[] es')
  | litP (cs cs' : Array Value) (h1 : cs.size = cs'.size) (h2 : ∀ (i : Nat) (p : i < cs.size) (q : i < cs'.size), Gv fr r h cs[i] cs'[i]) :
      Gv fr r h (.func (.yield 1) #[] cs) (.func (.yield 1) #[] cs')
  | lit0 (a : Option Addr) (cap : Nat) : Gv fr r h (.func (.yield 0) #[] #[]) (.slice a 0 cap)
  | emp : Gv fr r h (.func (.yield 2) #[] #[]) (.func (.yield 2) #[] #[])
  | litE : Gv fr r h (.func (.yield 0) #[] #[]) (.func (.yield 2) #[] #[])
  | frzS (es : Array Value) (i off sz cap : Nat) (c : List Value) (m : Md) (e : fr i) (hi : h[i]? = some (.row c m)) (hs : 0 < sz)
      (hz : ∀ (k : Nat) (p : k < es.size), (cellsOf es[k]).length = sz) (hb : off + es.size * sz ≤ c.length)
      (hr : ∀ (k j : Nat) (p : k < es.size) (q : j < (cellsOf es[k]).length) (q2 : off + (k * sz + j) < c.length), Gv fr r h (cellsOf es[k])[j] c[off + (k * sz + j)]) :
      Gv fr r h (.func (.yield 0) #[] es) (.slice (some ⟨i, off, none⟩) es.size cap)
  | frzP (cs : Array Value) (i off : Nat) (c : List Value) (m : Md) (e : fr i) (hi : h[i]? = some (.row c m)) (hb : off + cs.size ≤ c.length)
      (hr : ∀ (j : Nat) (p : j < cs.size) (q : off + j < c.length), Gv fr r h cs[j] c[off + j]) : Gv fr r h (.func (.yield 1) #[] cs) (.pointer (some ⟨i, off, none⟩))

/-- A new heap for an old one. The names of the first heap stay as they are. -/
structure Gh (h0 : Heap) (fr : Nat → Prop) (r : Nat → Option Nat) (h h2 : Heap) : Prop where
  same : ∀ j, j < h0.length → r j = some j
  len : h0.length ≤ h2.length
  rng : ∀ j i, r j = some i → j < h2.length
  row : ∀ (j : Nat) (c2 : List Value) (m2 : Md), h2[j]? = some (.row c2 m2) → ∃ (i : Nat) (c : List Value) (m : Md), r j = some i ∧ h[i]? = some (.row c m) ∧ c2.length = c.length ∧
    ((∀ (k : Nat) (x y : Value), c2[k]? = some x → c[k]? = some y → Gv fr r h x y) ∨ (c2 = c ∧ ∃ m0, h0[j]? = some (.row c m0))) ∧ (m2 = m ∨ m2 = .ro) ∧ (fr i → m2 = .ro)
  map : ∀ (j : Nat) (es2 : List (Value × Value)), h2[j]? = some (.map es2) → ∃ (i : Nat) (es : List (Value × Value)), r j = some i ∧ ¬ fr i ∧ h[i]? = some (.map es) ∧ es2.length = es.length ∧
    ((∀ (k : Nat) (x y : Value × Value), es2[k]? = some x → es[k]? = some y → x.1 = y.1 ∧ Gv fr r h x.2 y.2) ∨ (es2 = es ∧ h0[j]? = some (.map es)))
  inj : ∀ j k i, r j = some i → r k = some i → live h2 j → live h2 k → j = k

section
variable {P : Program} {B : Fr} {w0 w : World} {ρ ρ0 : Ren} {h h2 : Heap} {fr : Nat → Prop} {r : Nat → Option Nat} {h0 : Heap}

open Classical in
/-- The names behind. -/
noncomputable def gcRen (fr : Nat → Prop) (r : Nat → Option Nat) (h : Heap) (ρ : Ren) (w : World) : Ren :=
  ⟨fun j => (r j).bind fun i => ρ i, fun k => match ρ.frz k with
    | some cc => some cc
    | none => if ∃ i b c m, fr i ∧ h[i]? = some (.row c m) ∧ ρ i = some b ∧ b.block = k then
        (match w.heap[k]? with | some (.cells cc _ _) => some cc | _ => none) else none⟩

theorem gcRen_frz (i : Nat) (b : Bind) (c : List Value) (m : Md) (s : Sim B w0 ρ h w) (e : fr i) (hi : h[i]? = some (.row c m)) (hb : ρ i = some b) {cc : Array Value} {el : TypeId} {f : Nat × Nat}
    (hw : w.heap[b.block]? = some (.cells cc el f)) : (gcRen fr r h ρ w).frz b.block = some cc := by
  unfold gcRen
  dsimp only
  cases q : ρ.frz b.block with
  | some cc' =>
    obtain ⟨el', f', q'⟩ := s.cold _ _ q
    rw [hw] at q'; cases q'; rfl
  | none =>
    dsimp only
    rw [if_pos ⟨i, b, c, m, e, hi, hb, rfl⟩, hw]

theorem gc_rel (s : Sim B w0 ρ h w) {v2 v : Value} (g : Gv fr r h v2 v) : ∀ {v' : Value}, Rel ρ v v' → Rel (gcRen fr r h ρ w) v2 v' := by
  have cell : ∀ {i : Nat} {b : Bind} {c : List Value} {m : Md}, h[i]? = some (.row c m) → ρ i = some b → RowOk B ρ w b c m := fun {i b c m} hi hb => by
    obtain ⟨b', h1, h2⟩ := s.row _ _ _ hi
    rw [hb] at h1; cases h1; exact h2
  induction g with
  | und v => intro v' _; exact .any v'
  | plain v hv =>
    intro v' hr
    have e : v' = v := by
      unfold plainV at hv
      split at hv <;> first
        | (cases hr <;> rfl)
        | (cases hv; done)
    subst e
    exact Rel.eq_plain hv
  | ptr j i off e =>
    intro v' hr
    cases hr with
    | ptr i off b hb => exact .ptr j off b (by show (r j).bind _ = _; rw [e]; exact hb)
  | slice j i off len cap e =>
    intro v' hr
    cases hr with
    | slice i off len cap cap' b a' hb hl hc ha => exact .slice j off len cap cap' b a' (by show (r j).bind _ = _; rw [e]; exact hb) hl hc ha
  | map j i e =>
    intro v' hr
    cases hr with
    | map i b hb => exact .map j b (by show (r j).bind _ = _; rw [e]; exact hb)
  | iface t v v' _ ih =>
    intro x hr
    cases hr with
    | iface t v v' hh => exact .iface t _ _ (ih hh)
  | func fn xs xs' cs cs' hf h1 h2 _ _ ih3 ih4 =>
    intro x hr
    cases hr with
    | func fn xs2 xs2' cs2 cs2' hf' k1 k2 k3 k4 =>
      exact .func fn _ _ _ _ hf (h1.trans k1) (h2.trans k2) (fun i p q => ih3 i p (h1 ▸ p) (k3 i (h1 ▸ p) q)) (fun i p q => ih4 i p (h2 ▸ p) (k4 i (h2 ▸ p) q))
    | lit0 => cases hf
    | empS => cases hf
    | litS => cases hf
    | litP => cases hf
  | emp =>
    intro x hr
    cases hr with
    | func fn xs xs' cs cs' hf => cases hf
    | empS a cap => exact .empS a cap
  | litE =>
    intro x hr
    cases hr with
    | func fn xs xs' cs cs' hf => cases hf
    | empS a cap => exact .lit0 _ _ (fun h => by cases h)
  | agg cs cs' h1 _ ih =>
    intro x hr
    cases hr with
    | agg cs2 cs2' k1 k2 => exact .agg _ _ (h1.trans k1) fun i p q => ih i p (h1 ▸ p) (k2 i (h1 ▸ p) q)
  | tuple cs cs' h0 h1 _ ih =>
    intro x hr
    cases hr with
    | tuple cs2 cs2' k1 k2 => exact .tuple _ _ (h1.trans k1) fun i p q => ih i p (h1 ▸ p) (k2 i (h1 ▸ p) q)
    | any v => exact absurd h1 h0
  | litL es es' h1 h2 _ ih =>
    intro x hr
    cases hr with
    | func fn xs xs' cs cs' hf => cases hf
    | lit0 a cap h0 =>
      have : es = #[] := Array.size_eq_zero_iff.1 h1
      subst this
      exact .lit0 a cap h0
    | litS es' b off sz cap cc hf hl hs hz hb hr =>
      have := Rel.litS (ρ := gcRen fr r h ρ w) es b off sz cap cc (by unfold gcRen; dsimp only; rw [hf]) (by omega) hs (fun i p => (h2 i p (h1 ▸ p)).trans (hz i (h1 ▸ p))) (by rw [h1]; exact hb)
        (fun i j p q rr => ih i j p (h1 ▸ p) q (h2 i p (h1 ▸ p) ▸ q) (hr i j (h1 ▸ p) (h2 i p (h1 ▸ p) ▸ q) rr))
      rw [h1] at this
      exact this
  | litP cs cs' h1 _ ih =>
    intro x hr
    cases hr with
    | func fn xs xs' cs cs' hf => cases hf
    | litP cs' b off cc hf hb hr =>
      exact .litP cs b off cc (by unfold gcRen; dsimp only; rw [hf]) (by rw [h1]; exact hb) fun j p rr => ih j p (h1 ▸ p) (hr j (h1 ▸ p) rr)
  | lit0 a cap =>
    intro x hr
    cases hr with
    | sliceNil => exact .lit0 _ _ (fun _ => rfl)
    | slice i off len cap cap' b a' hb hl hc ha => exact .lit0 _ _ (fun h => by cases h)
  | frzS es i off sz cap c m e hi hs hz hb _ ih =>
    intro x hr
    generalize hA : es.size = A at hr
    cases hr with
    | slice i off len cap cap' b a' hbb hl hc ha =>
      subst hA
      by_cases h0 : es.size = 0
      · have : es = #[] := Array.size_eq_zero_iff.1 h0
        subst this
        exact .lit0 _ _ (fun h => by cases h)
      · have hok := cell hi hbb
        obtain ⟨cc, el, f, q1, q2, q3, _⟩ := hok.lies
        have hlen := hok.len
        have ha' : a' = ⟨b.block, b.base + off, none⟩ := by
          rcases ha with q | q
          · exact q
          · omega
        subst ha'
        have hbn : b.base + b.n ≤ cc.size := by
          have := Nat.le_add_right (b.base + b.n) (b.extra * b.size); omega
        refine .litS es b.block (b.base + off) sz cap' cc (gcRen_frz i b c m s e hi hbb q1) (by omega) hs hz (by omega) fun k j p q rr => ?_
        have hlt : k * sz + j < es.size * sz := by
          have h1 : (k + 1) * sz ≤ es.size * sz := Nat.mul_le_mul_right _ p
          have h2 := hz k p
          rw [Nat.succ_mul] at h1; omega
        have hj : off + (k * sz + j) < c.length := by omega
        refine ih k j p q hj ?_
        obtain ⟨y, hy, hr'⟩ := q3 (off + (k * sz + j)) _ (List.getElem?_eq_getElem hj)
        have e3 : b.base + off + (k * sz + j) = b.base + (off + (k * sz + j)) := by omega
        have h1 := Array.getElem?_eq_getElem rr
        have h2 : cc[b.base + off + (k * sz + j)]? = some y := by rw [e3]; exact hy
        rw [Option.some.inj (h1.symm.trans h2)]; exact hr'
  | frzP cs i off c m e hi hb _ ih =>
    intro x hr
    cases hr with
    | ptr i off b hbb =>
      have hok := cell hi hbb
      obtain ⟨cc, el, f, q1, q2, q3, _⟩ := hok.lies
      have hlen := hok.len
      have hbn : b.base + b.n ≤ cc.size := by
        have := Nat.le_add_right (b.base + b.n) (b.extra * b.size); omega
      refine .litP cs b.block (b.base + off) cc (gcRen_frz i b c m s e hi hbb q1) (by omega) fun j p rr => ?_
      have hj : off + j < c.length := by omega
      refine ih j p hj ?_
      obtain ⟨y, hy, hr'⟩ := q3 (off + j) _ (List.getElem?_eq_getElem hj)
      have e3 : b.base + off + j = b.base + (off + j) := by omega
      have h1 := Array.getElem?_eq_getElem rr
      have h2 : cc[b.base + off + j]? = some y := by rw [e3]; exact hy
      rw [Option.some.inj (h1.symm.trans h2)]; exact hr'

/-- A heap that speaks of its own alone. -/
structure Own (ρ : Ren) (h : Heap) : Prop where
  dom : ∀ i b, ρ i = some b → i < h.length
  row : ∀ (j : Nat) (c : List Value) (m : Md), h[j]? = some (.row c m) → ∀ x ∈ c, ∃ y, Rel ρ x y
  map : ∀ (j : Nat) (es : List (Value × Value)), h[j]? = some (.map es) → ∀ x ∈ es, ∃ y, Rel ρ x.2 y

theorem Sim.own (s : Sim B w0 ρ h w) : Own ρ h := by
  refine ⟨fun i b hi => (s.dom i b hi).1, fun j c m hj x hx => ?_, fun j es hj x hx => ?_⟩
  · obtain ⟨b, h1, h2⟩ := s.row j c m hj
    obtain ⟨cc, el, f, _, _, h3, _⟩ := h2.lies
    obtain ⟨k, hk, rfl⟩ := List.mem_iff_getElem.1 hx
    obtain ⟨y, _, hr⟩ := h3 k _ (List.getElem?_eq_getElem hk)
    exact ⟨y, hr⟩
  · obtain ⟨b, h1, h2⟩ := s.map j es hj
    obtain ⟨ents, clock, _, _, h3⟩ := h2.lies
    obtain ⟨k, hk, rfl⟩ := List.mem_iff_getElem.1 hx
    obtain ⟨e, _, _, _, hr⟩ := h3 k _ (List.getElem?_eq_getElem hk)
    exact ⟨e.val, hr⟩

/-- What speaks of old names alone stays. -/
theorem Rel.keep {ρ2 : Ren} (hle : ∀ i b0 b, ρ0 i = some b0 → ρ i = some b → ρ2 i = some b) (hf : ∀ k cc, ρ.frz k = some cc → ρ2.frz k = some cc) {x y0 : Value} (h : Rel ρ0 x y0) : ∀ {y : Value}, Rel ρ x y → Rel ρ2 x y := by
  induction h with
  | any v => intro y hr; exact .any y
  | bool b => intro y hr; cases hr; exact .bool b
  | int k n => intro y hr; cases hr; exact .int k n
  | str s => intro y hr; cases hr; exact .str s
  | ptrNil => intro y hr; cases hr; exact .ptrNil
  | ptr i off b h => intro y hr; cases hr with | ptr i off b' h' => exact .ptr i off b' (hle i b b' h h')
  | sliceNil => intro y hr; cases hr; exact .sliceNil
  | slice i off len cap cap' b a' h hl hc ha => intro y hr; cases hr with | slice i off len cap cap2 b' a2 h' hl' hc' ha' => exact .slice i off len cap cap2 b' a2 (hle i b b' h h') hl' hc' ha'
  | mapNil => intro y hr; cases hr; exact .mapNil
  | map i b h => intro y hr; cases hr with | map i b' h' => exact .map i b' (hle i b b' h h')
  | nilFunc => intro y hr; cases hr; exact .nilFunc
  | nilIface => intro y hr; cases hr; exact .nilIface
  | iface t v v' _ ih => intro y hr; cases hr with | iface t v v2 h' => exact .iface t v v2 (ih h')
  | func fn xs xs' cs cs' hfn h1 h2 _ _ ih3 ih4 =>
    intro y hr
    cases hr with
    | func fn xs xs2 cs cs2 hfn' k1 k2 k3 k4 => exact .func fn xs xs2 cs cs2 hfn k1 k2 (fun i p q => ih3 i p (h1 ▸ p) (k3 i p q)) (fun i p q => ih4 i p (h2 ▸ p) (k4 i p q))
    | lit0 => cases hfn
    | empS => cases hfn
    | litS => cases hfn
    | litP => cases hfn
  | agg cs cs' h1 _ ih => intro y hr; cases hr with | agg cs cs2 k1 k2 => exact .agg cs cs2 k1 fun i p q => ih i p (h1 ▸ p) (k2 i p q)
  | tuple cs cs' h1 _ ih =>
    intro y hr
    cases hr with
    | any v => exact .any _
    | tuple cs cs2 k1 k2 => exact .tuple cs cs2 k1 fun i p q => ih i p (h1 ▸ p) (k2 i p q)
  | empS a cap =>
    intro y hr
    cases hr with
    | func fn xs xs' cs cs' hf' => cases hf'
    | empS a cap => exact .empS a cap
  | lit0 a cap _ =>
    intro y hr
    cases hr with
    | func fn xs xs' cs cs' hf' => cases hf'
    | lit0 a cap h0 => exact .lit0 a cap h0
    | litS es b off sz cap cc h hl hs hz hb hr => exact .litS _ b off sz cap cc (hf _ _ h) hl hs hz hb fun i j p => absurd p (by simp)
  | litS es b off sz cap cc h hl hs hz hb _ ih =>
    intro y hr
    cases hr with
    | func fn xs xs' cs cs' hf' => cases hf'
    | lit0 a cap h0 => exact .lit0 a cap h0
    | litS es b' off' sz' cap' cc' h' hl' hs' hz' hb' hr' =>
      refine .litS es b' off' sz' cap' cc' (hf _ _ h') hl' hs' hz' hb' fun i j p q r => ih i j p q ?_ (hr' i j p q r)
      have h1 : (i + 1) * sz ≤ es.size * sz := Nat.mul_le_mul_right _ p
      have h2 := hz i p
      rw [Nat.succ_mul] at h1; omega
  | litP cs b off cc h hb _ ih =>
    intro y hr
    cases hr with
    | func fn xs xs' cs cs' hf' => cases hf'
    | litP cs b' off' cc' h' hb' hr' => exact .litP cs b' off' cc' (hf _ _ h') hb' fun j p r => ih j p (by omega) (hr' j p r)

/-- The world stands for the new heap too. -/
theorem gc_sim (s : Sim B w0 ρ h w) (ow : Own ρ0 h0) (g : Gh h0 fr r h h2) : Sim B w0 (gcRen fr r h ρ w) h2 w := by
  have bnd : ∀ {j : Nat} {b : Bind}, (gcRen fr r h ρ w) j = some b → ∃ i, r j = some i ∧ ρ i = some b := fun {j b} e => Option.bind_eq_some_iff.1 e
  have frz : ∀ {k : Nat} {cc : Array Value}, (gcRen fr r h ρ w).frz k = some cc → ρ.frz k = some cc ∨ ∃ i b c m, fr i ∧ h[i]? = some (.row c m) ∧ ρ i = some b ∧ b.block = k ∧ ∃ el f, w.heap[k]? = some (.cells cc el f) := fun {k cc} e => by
    unfold gcRen at e
    dsimp only at e
    cases q : ρ.frz k with
    | some c0 => rw [q] at e; exact .inl e
    | none =>
      rw [q] at e
      dsimp only at e
      split at e
      · rename_i hh
        obtain ⟨i, b, c, m, e1, e2, e3, e4⟩ := hh
        split at e
        · rename_i c0 el f hw
          cases e
          exact .inr ⟨i, b, c, m, e1, e2, e3, e4, el, f, hw⟩
        · cases e
      · cases e
  have live_old : ∀ {j : Nat}, live h2 j → ∃ i, r j = some i ∧ live h i ∧ (isRo h i → isRo h2 j) ∧ (fr i → isRo h2 j) := fun {j} ⟨o, ho, hd⟩ => by
    cases o with
    | row c2 m2 =>
      obtain ⟨i, c, m, e1, e2, _, _, e5, e6⟩ := g.row j c2 m2 ho
      refine ⟨i, e1, ⟨_, e2, by simp⟩, fun ⟨c', hc'⟩ => ?_, fun q => ⟨c2, by rw [ho, e6 q]⟩⟩
      rw [e2] at hc'; cases hc'
      rcases e5 with q | q <;> exact ⟨c2, by rw [ho, q]⟩
    | map es2 =>
      obtain ⟨i, es, e1, e0, e2, _⟩ := g.map j es2 ho
      exact ⟨i, e1, ⟨_, e2, by simp⟩, fun ⟨c', hc'⟩ => (by rw [e2] at hc'; cases hc'), fun q => absurd q e0⟩
    | dead => exact absurd rfl hd
  have keep : ∀ {x y0 y : Value}, Rel ρ0 x y0 → Rel ρ x y → Rel (gcRen fr r h ρ w) x y := fun {x y0 y} h1 h2 =>
    Rel.keep (fun i b0 b hi hb => by show (r i).bind _ = _; rw [g.same i (ow.dom i b0 hi)]; exact hb) (fun k cc hk => by unfold gcRen; dsimp only; rw [hk]) h1 h2
  refine ⟨s.below, s.le, s.fle, fun j b hj => ?_, fun j c2 m2 hj => ?_, fun j es2 hj => ?_, fun j k bj bk hne hj hk hbl lj lk => ?_, fun k cc hk => ?_, fun k cc j b hk hj lj => ?_, fun k cc hk => ?_⟩
  · obtain ⟨i, e1, e2⟩ := bnd hj
    exact ⟨g.rng j i e1, (s.dom _ _ e2).2⟩
  · obtain ⟨i, c, m, e1, e2, e3, e4, e5, e6⟩ := g.row j c2 m2 hj
    obtain ⟨b, q1, q2⟩ := s.row i c m e2
    refine ⟨b, by show (r j).bind _ = _; rw [e1]; exact q1, ?_⟩
    obtain ⟨cc, el, f, l1, l2, l3, l4⟩ := q2.lies
    have mm : ∀ {p : Md → Prop}, p m → p .ro → p m2 := fun {p} a b => by rcases e5 with q | q <;> rw [q] <;> assumption
    refine ⟨e3.trans q2.len, ⟨cc, el, f, l1, l2, fun k x hx => ?_, fun hne => ?_⟩, fun hne => ?_, ?_, ?_, mm (p := fun m => m = .exact → b.base = 0) q2.zero (fun q => by cases q)⟩
    · have hlt : k < c.length := by have := (List.getElem?_eq_some_iff.1 hx).1; omega
      obtain ⟨y, hy, hr⟩ := l3 k _ (List.getElem?_eq_getElem hlt)
      rcases e4 with e4 | ⟨rfl, m0, hm0⟩
      · exact ⟨y, hy, gc_rel s (e4 k x _ hx (List.getElem?_eq_getElem hlt)) hr⟩
      · rw [List.getElem?_eq_getElem hlt] at hx; cases hx
        obtain ⟨y0, hy0⟩ := ow.row j _ _ hm0 _ (List.getElem_mem hlt)
        exact ⟨y, hy, keep hy0 hr⟩
    · rcases e5 with q | q
      · exact l4 (q ▸ hne)
      · exact absurd q hne
    · rcases e5 with q | q
      · exact q2.own (q ▸ hne)
      · exact absurd q hne
    · exact mm (p := fun m => m.openSize = none → b.extra = 0) q2.fit (fun q => by cases q)
    · exact mm (p := fun m => ∀ s, 0 < s → m.openSize = some s → b.size = s) q2.fit2 (fun s h0 q => by cases q; omega)
  · obtain ⟨i, es, e1, _, e2, e3, e4⟩ := g.map j es2 hj
    obtain ⟨b, q1, q2⟩ := s.map i es e2
    refine ⟨b, by show (r j).bind _ = _; rw [e1]; exact q1, ?_⟩
    obtain ⟨ents, clock, l1, l2, l3⟩ := q2.lies
    refine ⟨q2.own, ⟨ents, clock, l1, by omega, fun k x hx => ?_⟩, q2.stamp⟩
    have hlt : k < es.length := by have := (List.getElem?_eq_some_iff.1 hx).1; omega
    obtain ⟨e, he, h4, h5, h6⟩ := l3 k _ (List.getElem?_eq_getElem hlt)
    rcases e4 with e4 | ⟨rfl, hm0⟩
    · obtain ⟨g1, g2⟩ := e4 k x _ hx (List.getElem?_eq_getElem hlt)
      exact ⟨e, he, by rw [g1]; exact h4, by rw [g1]; exact h5, gc_rel s g2 h6⟩
    · rw [List.getElem?_eq_getElem hlt] at hx; cases hx
      obtain ⟨y0, hy0⟩ := ow.map j _ hm0 _ (List.getElem_mem hlt)
      exact ⟨e, he, h4, h5, keep hy0 h6⟩
  · obtain ⟨i, e1, e2⟩ := bnd hj
    obtain ⟨i', f1, f2⟩ := bnd hk
    obtain ⟨i2, e3, e4, e5, _⟩ := live_old lj
    obtain ⟨i2', f3, f4, f5, _⟩ := live_old lk
    rw [e1] at e3; cases e3
    rw [f1] at f3; cases f3
    by_cases q : i = i'
    · subst q
      exact absurd (g.inj j k i e1 f1 lj lk) hne
    · obtain ⟨r1, r2⟩ := s.inj i i' bj bk q e2 f2 hbl e4 f4
      exact ⟨e5 r1, f5 r2⟩
  · rcases frz hk with q | ⟨_, _, _, _, _, _, _, _, q⟩
    · exact s.cold k cc q
    · exact q
  · obtain ⟨i, e1, e2⟩ := bnd hj
    obtain ⟨i2, e3, e4, e5, e6⟩ := live_old lj
    rw [e1] at e3; cases e3
    rcases frz hk with q | ⟨i', b', c, m, q1, q2, q3, q4, _⟩
    · exact (s.apart k cc i b q e2 e4).imp e5 id
    · by_cases e : i = i'
      · subst e; exact .inl (e6 q1)
      · by_cases hbl : b.block = k
        · obtain ⟨r1, _⟩ := s.inj i i' b b' e e2 q3 (hbl.trans q4.symm) e4 ⟨_, q2, by simp⟩
          exact .inl (e5 r1)
        · exact .inr hbl
  · rcases frz hk with q | ⟨i', b', c, m, q1, q2, q3, q4, _⟩
    · exact s.coldF k cc q
    · rw [← q4]; exact (s.dom _ _ q3).2.2

theorem gc_le (g : Gh h0 fr r h h2) (ow : Own ρ0 h0) (hle : ρ0.le ρ) : ρ0.le (gcRen fr r h ρ w) :=
  ⟨fun i b hi => by show (r i).bind _ = _; rw [g.same i (ow.dom i b hi)]; exact hle.1 i b hi, fun k cc hk => by unfold gcRen; dsimp only; rw [hle.2 k cc hk]⟩

/-- Row by row. -/
def GvL (fr : Nat → Prop) (r : Nat → Option Nat) (h : Heap) : List Value → List Value → Prop
  | [], [] => True
  | x :: xs, y :: ys => Gv fr r h x y ∧ GvL fr r h xs ys
  | _, _ => False
theorem GvL.length : ∀ {xs ys : List Value}, GvL fr r h xs ys → xs.length = ys.length
  | [], [], _ => rfl
  | _ :: _, _ :: _, e => by simp [GvL.length e.2]
  | [], _ :: _, e => e.elim
  | _ :: _, [], e => e.elim
theorem GvL.get : ∀ {xs ys : List Value}, GvL fr r h xs ys → ∀ {k : Nat} {x y : Value}, xs[k]? = some x → ys[k]? = some y → Gv fr r h x y
  | _ :: _, _ :: _, e, 0, x, y, hx, hy => by simp at hx hy; subst hx; subst hy; exact e.1
  | _ :: _, _ :: _, e, k + 1, x, y, hx, hy => GvL.get e.2 (k := k) (by simpa using hx) (by simpa using hy)
  | [], _, _, _, x, y, hx, _ => by simp at hx
theorem GvL.rel (s : Sim B w0 ρ h w) {xs ys zs : List Value} (g : GvL fr r h xs ys) (hr : RelL ρ ys zs) : RelL (gcRen fr r h ρ w) xs zs :=
  ⟨g.length.trans hr.1, fun i x y hx hy => by
    have hlt : i < ys.length := by rw [← g.length]; exact (List.getElem?_eq_some_iff.1 hx).1
    exact gc_rel s (g.get hx (List.getElem?_eq_getElem hlt)) (hr.2 i _ y (List.getElem?_eq_getElem hlt) hy)⟩

/-- At the end of a call: forget, freeze, rename. -/
def gcV (h0 : Heap) (Q : Value → Heap → Prop) (v : Value) (h : Heap) : Prop := Q v h ∨ ∃ fr r v2 h2, Gh h0 fr r h h2 ∧ Gv fr r h v2 v ∧ Q v2 h2
/-- .. at a loop or a join. -/
def gcL (h0 : Heap) (F : List Value → Heap → Prop) (vs : List Value) (h : Heap) : Prop := F vs h ∨ ∃ fr r vs2 h2, Gh h0 fr r h h2 ∧ GvL fr r h vs2 vs ∧ F vs2 h2

theorem acall_gc {f : FuncId} {args : List Value} {Q : Value → Heap → Prop} (hc : acall P f args h (gcV h Q)) : acall P f args h Q := by
  refine ⟨hc.1, fun B w0 ρ w args' s hr => (hc.2 B w0 ρ w args' s hr).mono ?_⟩
  rintro e w' ⟨ρ', v, v', h', h1, rfl, h3, h4, g3 | ⟨fr, r, v2, h2, g1, g2, g3⟩⟩
  · exact ⟨ρ', v, v', h', h1, rfl, h3, h4, g3⟩
  exact ⟨_, v2, v', h2, gc_le g1 s.own h1, rfl, gc_rel h4 g2 h3, gc_sim h4 s.own g1, g3⟩

/-- Ahead of a call. -/
theorem acall_frz {f : FuncId} {args args2 : List Value} {Q : Value → Heap → Prop} (g : Gh h fr r h h2) (ga : GvL fr r h args2 args) (hc : acall P f args2 h2 Q) : acall P f args h Q := by
  refine ⟨hc.1, fun B w0 ρ w args' s hr => (hc.2 B w0 _ w args' (gc_sim s s.own g) (ga.rel s hr)).mono ?_⟩
  rintro e w' ⟨ρ', v, v', h', h1, rfl, h3, h4, h5⟩
  exact ⟨ρ', v, v', h', (gc_le g s.own (.refl _)).trans h1, rfl, h3, h4, h5⟩

/-- An empty frozen slice is nil, or isn't. -/
theorem acall_lit0 {f : FuncId} {a b : List Value} {Q : Value → Heap → Prop} (h1 : acall P f (a ++ .slice none 0 0 :: b) h Q) (h2 : acall P f (a ++ emp :: b) h Q) : acall P f (a ++ lit [] :: b) h Q := by
  refine ⟨h1.1, fun B w0 ρ w args' s hr => ?_⟩
  obtain ⟨hl, hr⟩ := hr
  have hlt : a.length < args'.toList.length := by rw [← hl]; simp
  have h0 := hr a.length (lit []) args'.toList[a.length] (by simp) (List.getElem?_eq_getElem hlt)
  have other : ∀ v : Value, Rel ρ v args'.toList[a.length] → RelL ρ (a ++ v :: b) args'.toList := fun v hv => ⟨by simpa using hl, fun i x y hx hy => by
    by_cases e : i = a.length
    · subst e
      rw [List.getElem?_eq_getElem hlt] at hy; cases hy
      simp at hx; subst hx; exact hv
    · refine hr i x y ?_ hy
      by_cases q : i < a.length
      · rw [List.getElem?_append_left q] at hx ⊢; exact hx
      · rw [List.getElem?_append_right (by omega)] at hx ⊢
        obtain ⟨k, hk⟩ : ∃ k, i - a.length = k + 1 := ⟨i - a.length - 1, by omega⟩
        rw [hk] at hx ⊢
        simpa using hx⟩
  generalize args'.toList[a.length] = z at h0 other
  have e0 : lit [] = .func (.yield 0) #[] #[] := rfl
  rw [e0] at h0
  generalize hA : (#[] : Array Value) = A at h0
  cases h0 with
  | func fn xs xs' cs cs' hf => cases hf
  | lit0 x cap hx =>
    cases x with
    | none => have := hx rfl; subst this; exact h1.2 B w0 ρ w args' s (other _ .sliceNil)
    | some x => exact h2.2 B w0 ρ w args' s (other _ (.empS x cap))
  | litS es b' off sz cap cc hf hl' hs hz hb hr' =>
    exact h2.2 B w0 ρ w args' s (other _ (.empS _ cap))

end
end Go.Ax
