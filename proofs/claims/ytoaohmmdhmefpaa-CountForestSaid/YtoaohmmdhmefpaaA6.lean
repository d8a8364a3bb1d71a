/- Ax, part 6: the single operations. -/
import Derived.Test.YtoaohmmdhmefpaaA5
import Derived.Laws.Tables
import Derived.Laws.MakeOwn
import Derived.Laws.BytesString
import Derived.Laws.Slices
namespace Go.Ax
open Go.RowKit

section
variable {P : Program} {B : Fr} {w0 w : World} {ρ : Ren} {h : Heap}

/-- What an operation comes to: names grow, the value stands for the abstract one, the world for the abstract heap. -/
def Comes1 (P : Program) (B : Fr) (w0 w : World) (ρ : Ren) (m : Sem Value) (v : Value) (h' : Heap) : Prop :=
  ∃ ρ' v' w', ρ.le ρ' ∧ Rel ρ' v v' ∧ Sim B w0 ρ' h' w' ∧ m.run P w = .ok v' w'

theorem Comes1.same (s : Sim B w0 ρ h w) {m : Sem Value} {v v' : Value} (hr : Rel ρ v v') (e : m.run P w = .ok v' w) : Comes1 P B w0 w ρ m v h :=
  ⟨ρ, v', w, .refl _, hr, s, e⟩

theorem new_ok (s : Sim B w0 ρ h w) {v v' : Value} (hr : Rel ρ v v') (hv : okVal v = true) (e : TypeId) :
    Comes1 P B w0 w ρ (do pure (.pointer (some (← newVar e v')))) (newRowA h (cellsOf v) .exact).1 (newRowA h (cellsOf v) .exact).2 := by
  have hc := hr.cells hv
  have hs := s.addRow (cc := v'.cells) (el := e) (cs := cellsOf v) 1 0 .exact (fun _ => rfl) (fun _ _ hh => by cases hh) (by simp) (by have := hc.1; simp at this; simp; omega)
    (fun k x hx => by obtain ⟨y, hy, hr'⟩ := hc.get hx; exact ⟨y, by simpa using hy, hr'⟩)
  refine ⟨_, .pointer (some ⟨w.heap.size, 0, none⟩), _, Ren.add_le _ s.fresh, ?_, hs, by simp [newVar, newRow]⟩
  exact Rel.ptr (ρ := ρ.add h.length ⟨w.heap.size, 0, (cellsOf v).length, 1, 0⟩) h.length 0 _ (Ren.add_same _ _ _)

theorem alloc_ok (s : Sim B w0 ρ h w) {e : TypeId} {d : TypeDesc} {z : Value} {r : Nat × Nat} (ht : tinfo P e = some (d, z, r)) (hok : okVal (constV z) = true) :
    Comes1 P B w0 w ρ (Instr.alloc e true (.tuple #[])) (newRowA h (cellsOf (constV z)) .exact).1 (newRowA h (cellsOf (constV z)) .exact).2 := by
  obtain ⟨ρ', v', w', h1, h2, h3, h4⟩ := new_ok (P := P) s (constV_rel z) hok e
  refine ⟨ρ', v', w', h1, h2, h3, ?_⟩
  rw [← h4]
  simp [Instr.alloc, run_zero ht]

theorem mapM_places {fs : List Field} (hall : fs.all (fun f => (tinfo P f.type).isSome) = true) :
    ∃ places : List (Nat × Nat), fs.mapM (fun f => (P.info? f.type).map fun i => (f.offset, i.size)) = some places ∧
      ∀ i, places[i]? = placesA P fs i := by
  induction fs with
  | nil => exact ⟨[], by simp, fun i => by simp [placesA]⟩
  | cons f fs ih =>
    simp only [List.all_cons, Bool.and_eq_true] at hall
    obtain ⟨places, h1, h2⟩ := ih hall.2
    obtain ⟨⟨d, z, sz, by_⟩, ht⟩ := Option.isSome_iff_exists.1 hall.1
    obtain ⟨_, i, hi, _, h3, _⟩ := tinfo_spec ht
    refine ⟨(f.offset, sz) :: places, ?_, fun k => ?_⟩
    · rw [List.mapM_cons, h1, hi]; simp [h3]
    · cases k with
      | zero => simp [placesA, ht]
      | succ k => simp only [List.getElem?_cons_succ, h2]; simp [placesA]

theorem RelP.of {t : Nat → Value} {E : Operand → Value} (ht : ∀ x, Rel ρ (evalO t x) (E x)) (ps : Array (Nat × Operand)) :
    RelP ρ (ps.toList.map fun (i, x) => (i, evalO t x)) (ps.map fun (i, x) => (i, E x)).toList := by
  refine ⟨by simp, fun i x y hx hy => ?_⟩
  simp only [Array.toList_map, List.getElem?_map] at hx hy
  cases e : ps.toList[i]? with
  | none => rw [e] at hx; cases hx
  | some p =>
    rw [e] at hx hy
    simp at hx hy
    subst hx; subst hy
    exact ⟨rfl, ht _⟩

theorem build_ok (s : Sim B w0 ρ h w) {t : Nat → Value} {E : Operand → Value} (ht : ∀ x, Rel ρ (evalO t x) (E x)) {ty : TypeId} {ps : Array (Nat × Operand)} {v : Value} {h' : Heap}
    (e : aop0 P t h (.build ty ps) = some (v, h')) : Comes1 P B w0 w ρ (Instr.build ty (ps.map fun (i, x) => (i, E x))) v h' := by
  simp only [aop0] at e
  split at e
  · rename_i fields z sz by_ hty
    split at e
    · rename_i hc
      obtain ⟨places, h1, h2⟩ := mapM_places hc.2
      simp only [Option.map_eq_some_iff, Prod.mk.injEq] at e
      obtain ⟨cs, hf, rfl, rfl⟩ := e
      have hpl : placesA P fields.toList = (fun i => places.toArray[i]?) := funext fun i => by rw [← h2]; simp
      rw [hpl] at hf
      obtain ⟨out', e1, e2⟩ := fill_ok _ (RelP.of ht ps) ((constV_rel z).cells hc.1) hf
      obtain ⟨hu, i, hi, hz, hsz, _⟩ := tinfo_spec hty
      refine .same s (v' := .agg out') (RelL.agg (by simpa using e2)) (run_build w ty _ out' ?_)
      unfold Program.built
      simp only [hi, hu, hz, h1]
      exact e1
    · cases e
  · rename_i n el z sz by_ hty
    split at e
    · rename_i d z2 sz2 by2 hte
      split at e
      · rename_i hc
        simp only [Option.map_eq_some_iff, Prod.mk.injEq] at e
        obtain ⟨cs, hf, rfl, rfl⟩ := e
        obtain ⟨out', e1, e2⟩ := fill_ok _ (RelP.of ht ps) ((constV_rel z).cells hc) hf
        obtain ⟨hu, i, hi, hz, hsz, _⟩ := tinfo_spec hty
        obtain ⟨hu2, i2, hi2, hz2, hsz2, _⟩ := tinfo_spec hte
        refine .same s (v' := .agg out') (RelL.agg (by simpa using e2)) (run_build w ty _ out' ?_)
        unfold Program.built
        simp only [hi, hu, hz, hi2, hsz2]
        exact e1
      · cases e
    · cases e
  · cases e

theorem fresh_slice (ρ : Ren) (i b n size extra len : Nat) (cap' : Nat) (hc : cap' = len ∨ (len * size = n ∧ cap' = len + extra)) :
    Rel (ρ.add i ⟨b, 0, n, size, extra⟩) (.slice (some ⟨i, 0, none⟩) len len) (.slice (some ⟨b, 0, none⟩) len cap') := by
  refine .slice i 0 len len cap' ⟨b, 0, n, size, extra⟩ _ (Ren.add_same _ _ _) (Nat.le_refl _) ?_ (.inl rfl)
  simpa using hc

theorem buildSlice_ok (s : Sim B w0 ρ h w) {t : Nat → Value} {E : Operand → Value} (ht : ∀ x, Rel ρ (evalO t x) (E x)) {ty : TypeId} {len : Nat} {ps : Array (Nat × Operand)} {v : Value} {h' : Heap}
    (e : aop0 P t h (.buildSlice ty len ps) = some (v, h')) : Comes1 P B w0 w ρ (Instr.buildSlice ty len (ps.map fun (i, x) => (i, E x))) v h' := by
  simp only [aop0] at e
  split at e
  · rename_i el r hty
    split at e
    · rename_i d z sz by_ hte
      split at e
      · rename_i hc
        obtain ⟨c1, c2, c3, c4⟩ := hc
        simp only [Option.map_eq_some_iff, Prod.mk.injEq] at e
        obtain ⟨cs, hf, rfl, rfl⟩ := e
        obtain ⟨out', e1, e2⟩ := fill_ok _ (RelP.of ht ps) (rep_rel (ρ := ρ) len sz c3 c4 c2) hf
        have hs := s.addRow (cc := out') (el := el) (cs := cs) sz 0 .exact (fun _ => rfl) (fun _ _ hh => by cases hh) (by simp) (by have := e2.1; simp at this; simp; omega)
          (fun k x hx => by obtain ⟨y, hy, hr'⟩ := e2.get hx; exact ⟨y, by simpa using hy, hr'⟩)
        refine ⟨_, .slice (some ⟨w.heap.size, 0, none⟩) len len, _, Ren.add_le _ s.fresh, fresh_slice ρ _ _ _ _ _ _ _ (.inl rfl), hs, ?_⟩
        have hn : ¬ (len * sz > 2 ^ 24) := by omega
        by_cases h0 : len * sz = 0
        · have e1' : Instr.fill (fun i => some (i * sz, sz)) #[] (ps.map fun (i, x) => (i, E x)).toList = some out' := by
            rw [h0] at e1
            simpa [Array.range_zero'] using e1
          simp at e1'
          simp [Instr.buildSlice, run_under hty, run_size hte, h0, newRow, Array.range_zero', e1']
        · simp at e1
          have hn' : ¬ (16777216 < len * sz) := by omega
          simp [Instr.buildSlice, run_under hty, run_size hte, run_zero hte, h0, newRow, hn', e1]
      · cases e
    · cases e
  · cases e

theorem makeSlice_ok (s : Sim B w0 ρ h w) {t : TypeId} {l c l' c' v : Value} {h' : Heap} (hl : Rel ρ l l') (hc : Rel ρ c c') (e : makeSliceA P h t l c = some (v, h')) :
    Comes1 P B w0 w ρ (Instr.makeSlice t l' c') v h' := by
  unfold makeSliceA at e
  split at e
  · rename_i el r kl l kc c hty
    split at e
    · rename_i d z size bytes hte
      split at e
      · rename_i hcond
        obtain ⟨c1, c2, c3, c4, c5, c6, hok⟩ := hcond
        simp only [Option.some.injEq, Prod.mk.injEq] at e
        obtain ⟨rfl, rfl⟩ := e
        cases hl; cases hc
        obtain ⟨hu, _⟩ := tinfo_spec hty
        obtain ⟨_, i, hi, hz, hsz, hby⟩ := tinfo_spec hte
        have hr := rep_rel (ρ := ρ) c.toNat size c6 c5 hok
        have hs := s.addRow (cc := madeCells z.cells (c.toNat * i.size)) (el := el) (cs := repA (cellsOf (constV z)) c.toNat) size 0 .exact (fun _ => rfl) (fun _ _ hh => by cases hh) (by simp)
          (by
            have := hr.1
            simp only [Array.length_toList, Array.size_map, Array.size_range] at this
            rw [this, size_madeCells, hsz]; omega)
          (fun k x hx => by
            obtain ⟨y, hy, hr'⟩ := hr.get hx
            refine ⟨y, ?_, hr'⟩
            rw [hsz]
            rw [← Array.getElem?_toList]; exact hy)
        exact ⟨_, _, _, Ren.add_le _ s.fresh, .slice _ 0 _ _ _ _ _ (Ren.add_same _ _ _) (by omega) (.inl rfl) (.inl rfl), hs, run_make w t el i z hu hi hz kl kc l c c1 c2 (by rw [hby]; exact c4) c3⟩
      · cases e
    · cases e
  · cases e

end
end Go.Ax
