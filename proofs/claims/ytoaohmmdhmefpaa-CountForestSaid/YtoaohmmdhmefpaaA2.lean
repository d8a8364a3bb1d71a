/- Ax, part 2: loads, stores, appends and maps: what the model does beside what the abstract heap does. -/
import Derived.Test.YtoaohmmdhmefpaaA1
namespace Go.Ax
open Go.RowKit

theorem addr_add (b off n : Nat) : (⟨b, off, none⟩ : Addr).add n = ⟨b, off + n, none⟩ := by
  unfold Addr.add; split
  · rename_i h; subst h; rfl
  · rfl

theorem cell_of {w : World} {b : Nat} {cc : Array Value} {el : TypeId} {fr : Nat × Nat} (h : w.heap[b]? = some (.cells cc el fr)) (o : Nat) :
    w.cell? ⟨b, o, none⟩ = cc[o]? := by simp [World.cell?, h]
theorem frozen_of {w : World} {b : Nat} {cc : Array Value} {el : TypeId} {fr : Nat × Nat} (h : w.heap[b]? = some (.cells cc el fr)) (o : Nat) :
    w.frozen? ⟨b, o, none⟩ = (decide (fr.1 ≤ o) && decide (o < fr.2)) := by simp [World.frozen?, h]

/-- Cells of a row as the world has them. -/
theorem RowOk.cells {B : Fr} {ρ : Ren} {w : World} {b : Bind} {c : List Value} {m : Md} (h : RowOk B ρ w b c m) (off n : Nat) (hn : off + n ≤ c.length) :
    ∃ l : List Value, l.length = n ∧ (∀ (j : Nat) (v : Value), l[j]? = some v → w.cell? ⟨b.block, b.base + off + j, none⟩ = some v) ∧ RelL ρ ((c.drop off).take n) l := by
  obtain ⟨cc, el, fr, h1, h2, h3, _⟩ := h.lies
  have hlen := h.len
  have hcc : b.base + off + n ≤ cc.size := by
    have : b.base + b.n ≤ cc.size := Nat.le_trans (Nat.le_add_right _ _) h2
    omega
  refine ⟨(cc.toList.drop (b.base + off)).take n, by simp; omega, fun j v hv => ?_, by simp; omega, fun j x y hx hy => ?_⟩
  · rw [List.getElem?_take] at hv
    split at hv
    · rw [List.getElem?_drop] at hv
      rw [cell_of h1]; simpa using hv
    · cases hv
  · rw [List.getElem?_take] at hx hy
    split at hx
    · rename_i hj
      rw [if_pos hj] at hy
      rw [List.getElem?_drop] at hx hy
      obtain ⟨y', hy', hr⟩ := h3 _ _ hx
      have : cc[b.base + off + j]? = some y := by simpa using hy
      rw [Nat.add_assoc] at this
      rw [this] at hy'; cases hy'; exact hr
    · cases hx

/-- Frozen cells as the world has them. -/
theorem Sim.coldCells {B : Fr} {w0 w : World} {ρ : Ren} {h : Heap} (s : Sim B w0 ρ h w) {b : Nat} {cc : Array Value} (hf : ρ.frz b = some cc) (off n : Nat) (hn : off + n ≤ cc.size) {vs : List Value} (hl : vs.length = n)
    (hr : ∀ (j : Nat) (p : j < vs.length) (r : off + j < cc.size), Rel ρ vs[j] cc[off + j]) :
    ∃ l : List Value, l.length = n ∧ (∀ (j : Nat) (v : Value), l[j]? = some v → w.cell? ⟨b, off + j, none⟩ = some v) ∧ RelL ρ vs l := by
  obtain ⟨el, fr, h1⟩ := s.cold b cc hf
  refine ⟨(cc.toList.drop off).take n, by simp; omega, fun j v hv => ?_, by simp; omega, fun j x y hx hy => ?_⟩
  · rw [List.getElem?_take] at hv
    split at hv
    · rw [List.getElem?_drop] at hv
      rw [cell_of h1]; simpa using hv
    · cases hv
  · rw [List.getElem?_take] at hy
    split at hy
    · rename_i hj
      rw [List.getElem?_drop] at hy
      have p : j < vs.length := (List.getElem?_eq_some_iff.1 hx).1
      have q : off + j < cc.size := by omega
      have e1 : vs[j] = x := by rw [List.getElem?_eq_getElem p] at hx; exact Option.some.inj hx
      have e2 : cc[off + j] = y := by simpa [q] using hy
      rw [← e1, ← e2]; exact hr j p q
    · cases hy

/-- Cells of elements of one size, row by row. -/
theorem flat_len {sz : Nat} : ∀ {es : List Value}, (∀ e ∈ es, (cellsOf e).length = sz) → (es.flatMap cellsOf).length = es.length * sz := by
  intro es
  induction es with
  | nil => intro _; simp
  | cons e es ih =>
    intro h
    rw [List.flatMap_cons, List.length_append, h e (by simp), ih fun x hx => h x (by simp [hx]), List.length_cons, Nat.succ_mul]; omega
theorem flat_get {sz : Nat} (hs : 0 < sz) : ∀ {es : List Value}, (∀ e ∈ es, (cellsOf e).length = sz) → ∀ (j : Nat) (p : j < (es.flatMap cellsOf).length),
    ∃ (q : j / sz < es.length) (r : j % sz < (cellsOf es[j / sz]).length), (es.flatMap cellsOf)[j] = (cellsOf es[j / sz])[j % sz] := by
  intro es
  induction es with
  | nil => intro _ j p; simp at p
  | cons e es ih =>
    intro h j p
    have he := h e (by simp)
    by_cases c : j < sz
    · have e1 : j / sz = 0 := Nat.div_eq_of_lt c
      have e2 : j % sz = j := Nat.mod_eq_of_lt c
      refine ⟨by rw [e1]; simp, by simp only [e1, e2, List.getElem_cons_zero]; omega, ?_⟩
      simp only [e1, e2, List.getElem_cons_zero]
      simp only [List.flatMap_cons]
      rw [List.getElem_append_left (by omega)]
    · have p' : j - sz < (es.flatMap cellsOf).length := by
        simp only [List.flatMap_cons, List.length_append] at p; omega
      obtain ⟨q, r, k⟩ := ih (fun x hx => h x (by simp [hx])) (j - sz) p'
      have e1 : j / sz = (j - sz) / sz + 1 := by rw [Nat.div_eq_sub_div hs (by omega)]
      have e2 : j % sz = (j - sz) % sz := by rw [Nat.mod_eq_sub_mod (by omega)]
      refine ⟨by rw [e1]; simp; exact q, by simp only [e1, e2, List.getElem_cons_succ]; exact r, ?_⟩
      simp only [e1, e2, List.getElem_cons_succ]
      rw [← k]
      simp only [List.flatMap_cons]
      rw [List.getElem_append_right (by omega)]
      congr 1; omega

/-- The first elements of a frozen slice, as the world has their cells. -/
theorem Sim.litCells {B : Fr} {w0 w : World} {ρ : Ren} {h : Heap} (s : Sim B w0 ρ h w) {es : Array Value} {b off sz : Nat} {cc : Array Value} (hf : ρ.frz b = some cc) (hs : 0 < sz)
    (hz : ∀ (i : Nat) (p : i < es.size), (cellsOf es[i]).length = sz) (hb : off + es.size * sz ≤ cc.size)
    (hr : ∀ (i j : Nat) (p : i < es.size) (q : j < (cellsOf es[i]).length) (r : off + (i * sz + j) < cc.size), Rel ρ (cellsOf es[i])[j] cc[off + (i * sz + j)]) (k : Nat) (hk : k ≤ es.size) :
    ∃ l : List Value, l.length = k * sz ∧ (∀ (j : Nat) (v : Value), l[j]? = some v → w.cell? ⟨b, off + j, none⟩ = some v) ∧ RelL ρ ((es.toList.flatMap cellsOf).take (k * sz)) l := by
  have hz' : ∀ e ∈ es.toList, (cellsOf e).length = sz := fun e he => by
    obtain ⟨i, hi, rfl⟩ := List.mem_iff_getElem.1 he
    simpa using hz i (by simpa using hi)
  have hlen := flat_len hz'
  have hmul : k * sz ≤ es.size * sz := Nat.mul_le_mul_right _ hk
  simp only [Array.length_toList] at hlen
  refine s.coldCells hf off (k * sz) (by omega) (by rw [List.length_take]; omega) fun j p r => ?_
  have p' : j < (es.toList.flatMap cellsOf).length := by rw [List.length_take] at p; omega
  obtain ⟨q1, q2, q3⟩ := flat_get hs hz' j p'
  have e1 : ((es.toList.flatMap cellsOf).take (k * sz))[j] = (es.toList.flatMap cellsOf)[j] := List.getElem_take
  rw [e1, q3]
  have h1 : j / sz < es.size := by simpa using q1
  have h2 : j / sz * sz + j % sz = j := by rw [Nat.mul_comm]; exact Nat.div_add_mod j sz
  have := hr (j / sz) (j % sz) h1 (by simpa using q2) (by rw [h2]; exact r)
  simp only [h2] at this
  simpa using this

theorem run_storeCells (P : Program) (blk off : Nat) (el : TypeId) (fr : Nat × Nat) (vs : List Value) : ∀ (i : Nat) (w : World) (cc : Array Value),
    w.heap[blk]? = some (.cells cc el fr) → (∀ o, o < cc.size → (decide (fr.1 ≤ o) && decide (o < fr.2)) = false) → (∀ v ∈ vs, v.oneCell' = true) → off + i + vs.length ≤ cc.size →
    ∃ w', (storeCells ⟨blk, off, none⟩ vs i).run P w = .ok () w' ∧ w'.heap.size = w.heap.size ∧ w'.os = w.os ∧ w'.tape = w.tape ∧ w'.output = w.output ∧
      (∀ k, k ≠ blk → w'.heap[k]? = w.heap[k]?) ∧ ∃ cc', w'.heap[blk]? = some (.cells cc' el fr) ∧ cc'.size = cc.size ∧
        ∀ j, cc'[j]? = if off + i ≤ j ∧ j < off + i + vs.length then vs[j - (off + i)]? else cc[j]? := by
  induction vs with
  | nil =>
    intro i w cc h _ _ _
    refine ⟨w, by simp [storeCells], rfl, rfl, rfl, rfl, fun _ _ => rfl, cc, h, rfl, fun j => ?_⟩
    rw [if_neg (by simp only [List.length_nil]; omega)]
  | cons v vs ih =>
    intro i w cc h hf0 h1 h2
    simp only [List.length_cons] at h2
    have hc : w.cell? ⟨blk, off + i, none⟩ = some (cc[off + i]'(by omega)) := by rw [cell_of h]; simp
    have hf := (frozen_of h (off + i)).trans (hf0 _ (by omega))
    have hs := run_store P w ⟨blk, off + i, none⟩ v .plain (h1 v (by simp))
    rw [hc] at hs
    simp only [hf, Bool.false_eq_true, if_false] at hs
    have hb : (w.setCell ⟨blk, off + i, none⟩ v).heap[blk]? = some (.cells (cc.setIfInBounds (off + i) v) el fr) := by
      show (w.heap.modify blk _)[blk]? = _
      rw [Array.getElem?_modify, if_pos rfl, h]; rfl
    obtain ⟨w', e, s1, s2, s3, s4, s5, cc', s6, s7, s8⟩ := ih (i + 1) _ _ hb (by rw [Array.size_setIfInBounds]; exact hf0) (fun u hu => h1 u (by simp [hu])) (by rw [Array.size_setIfInBounds]; omega)
    refine ⟨w', ?_, by rw [s1]; simp, s2, s3, s4, fun k hk => (s5 k hk).trans (Below.heap_setCell _ _ _ _ (by simpa using hk)), cc', s6, by rw [s7]; simp, fun j => ?_⟩
    · rw [storeCells]
      simp only [Sem.run_bind, addr_add, hs, Result.andThen_ok]
      exact e
    · rw [s8 j]
      simp only [List.length_cons]
      by_cases e1 : j = off + i
      · subst e1
        rw [if_neg (by omega), if_pos (by omega), Nat.sub_self, Array.getElem?_setIfInBounds_self_of_lt (by omega)]
        rfl
      · by_cases e2 : off + (i + 1) ≤ j ∧ j < off + (i + 1) + vs.length
        · rw [if_pos e2, if_pos (by omega)]
          rw [show j - (off + i) = (j - (off + (i + 1))) + 1 by omega]
          simp
        · rw [if_neg e2, if_neg (by omega)]
          rw [Array.getElem?_setIfInBounds_ne (by omega)]

/-- The cells of a row, some of them written. -/
def writeL (c : List Value) (off : Nat) : List Value → List Value
  | [] => c
  | v :: vs => writeL (c.set off v) (off + 1) vs
@[simp] theorem writeL_nil (c : List Value) (off : Nat) : writeL c off [] = c := rfl
theorem writeL_cons (c : List Value) (off : Nat) (v : Value) (vs : List Value) : writeL c off (v :: vs) = writeL (c.set off v) (off + 1) vs := rfl
@[simp] theorem writeL_one (c : List Value) (off : Nat) (v : Value) : writeL c off [v] = c.set off v := rfl
@[simp] theorem length_writeL (vs : List Value) : ∀ (c : List Value) (off : Nat), (writeL c off vs).length = c.length := by
  induction vs with
  | nil => intro c off; rfl
  | cons v vs ih => intro c off; rw [writeL_cons, ih]; simp
theorem get_writeL (vs : List Value) : ∀ (c : List Value) (off : Nat), off + vs.length ≤ c.length → ∀ j : Nat,
    (writeL c off vs)[j]? = if off ≤ j ∧ j < off + vs.length then vs[j - off]? else c[j]? := by
  induction vs with
  | nil => intro c off _ j; rw [if_neg (by simp only [List.length_nil]; omega)]; rfl
  | cons v vs ih =>
    intro c off h j
    simp only [List.length_cons] at h ⊢
    rw [writeL_cons, ih _ _ (by simp; omega) j]
    by_cases e1 : j = off
    · subst e1
      rw [if_neg (by omega), if_pos (by omega)]
      rw [List.getElem?_set_self (by omega)]; simp
    · by_cases e2 : off + 1 ≤ j ∧ j < off + 1 + vs.length
      · rw [if_pos e2, if_pos (by omega), show j - off = (j - (off + 1)) + 1 by omega]; simp
      · rw [if_neg e2, if_neg (by omega), List.getElem?_set_ne (by omega)]

/-- A value that one cell holds. -/
def okCell : Value → Bool
  | .agg _ | .tuple _ => false
  | _ => true

theorem Rel.oneCell {ρ : Ren} {x y : Value} (h : Rel ρ x y) (hx : okCell x = true) : y.oneCell' = true := by
  cases h <;> first | rfl | (simp [okCell] at hx)

theorem RelL.oneCell {ρ : Ren} {l l' : List Value} (h : RelL ρ l l') (hx : l.all okCell = true) : ∀ v ∈ l', v.oneCell' = true := by
  intro v hv
  obtain ⟨i, hi, rfl⟩ := List.mem_iff_getElem.1 hv
  have hlt : i < l.length := h.1 ▸ hi
  exact (h.2 i l[i] _ (by simp) (by simp)).oneCell (List.all_eq_true.1 hx _ (List.getElem_mem hlt))

/-- A row that is not shared, some of its cells stored. -/
theorem Sim.store {B : Fr} {w0 w : World} {ρ : Ren} {h : Heap} (s : Sim B w0 ρ h w) (P : Program) {i : Nat} {c : List Value} {m : Md} {b : Bind} (hi : h[i]? = some (.row c m)) (hm : m ≠ .ro)
    (hb : ρ i = some b) (off : Nat) {vs vs' : List Value} (hr : RelL ρ vs vs') (hok : vs.all okCell = true) (hfit : off + vs.length ≤ c.length) :
    ∃ w', (storeCells ⟨b.block, b.base + off, none⟩ vs').run P w = .ok () w' ∧ Sim B w0 ρ (h.set i (.row (writeL c off vs) m)) w' := by
  obtain ⟨b', hb', hrow⟩ := s.row i c m hi
  rw [hb] at hb'; cases hb'
  obtain ⟨cc, el, fr, h1, h2, h3, h4⟩ := hrow.lies
  have hfr := h4 hm
  have hlen := hrow.len
  have hcc : b.base + b.n ≤ cc.size := Nat.le_trans (Nat.le_add_right _ _) h2
  obtain ⟨w', e, s1, s2, s3, s4, s5, cc', s6, s7, s8⟩ := run_storeCells P b.block (b.base + off) el fr vs' 0 w cc h1 hfr (hr.oneCell hok) (by have := hr.1; omega)
  have hn : ¬ isRo h i := fun ⟨c', hc'⟩ => by rw [hi] at hc'; cases hc'; exact hm rfl
  refine ⟨w', e, s.turn i b _ hb ⟨_, hi, by simp⟩ hn (hrow.own hm) s1 s2 s3 s4 s5 (fun c' e => by cases e; exact hm rfl) (fun c' m' e => ?_) (fun es e => by cases e)⟩
  cases e
  refine ⟨by simp [hlen], ⟨cc', el, fr, s6, by rw [s7]; exact h2, fun k x hx => ?_, fun _ => by rw [s7]; exact hfr⟩, hrow.own, hrow.fit, hrow.fit2, hrow.zero⟩
  rw [get_writeL vs c off hfit] at hx
  rw [s8]
  have hl := hr.1
  by_cases ek : off ≤ k ∧ k < off + vs.length
  · rw [if_pos ek] at hx
    rw [if_pos (by omega)]
    obtain ⟨y, hy, hr'⟩ := hr.get hx
    exact ⟨y, by rw [← hy]; congr 1; omega, hr'⟩
  · rw [if_neg ek] at hx
    rw [if_neg (by omega)]
    exact h3 k x hx

end Go.Ax
