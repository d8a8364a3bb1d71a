/- Ax, part 12: append, whole. -/
import Derived.Test.YtoaohmmdhmefpaaA11
namespace Go.Ax
open Go.RowKit

section
variable {P : Program} {B : Fr} {w0 w : World} {ρ : Ren} {h : Heap}

theorem xt_of {xt : TypeId} (hxt : ¬ (isSrcT P xt = false)) :
    (∃ e2, P.underlying xt = some (.slice e2)) ∨ P.underlying xt = some .string := by
  revert hxt
  unfold isSrcT
  split
  · rename_i hh; exact fun _ => .inl ⟨_, (tinfo_spec hh).1⟩
  · rename_i hh; exact fun _ => .inr (tinfo_spec hh).1
  · intro hh; exact absurd rfl hh

theorem drew_cells (b o : Nat) : w.drew.cell? ⟨b, o, none⟩ = w.cell? ⟨b, o, none⟩ := rfl

theorem appendA_ok (s : Sim B w0 ρ h w) {st xt ty : TypeId} {a a' x x' v : Value} {h' : Heap} (ha : Rel ρ a a') (hx : Rel ρ x x') (e : appendA P h st xt a x = some (v, h')) :
    Comes1 P B w0 w ρ (Builtin.append_ #[st, xt] ty #[a', x']) v h' := by
  unfold appendA at e
  split at e
  case h_2 => cases e
  rename_i el r1 h1
  split at e
  case h_2 => cases e
  rename_i de z size bytes h2
  split at e
  case isTrue => cases e
  rename_i hz0
  have hsz : 0 < size := by omega
  have hzc : z.cells.size = size := by
    by_cases q : z.cells.size = size
    · exact q
    · exact absurd (.inr q) hz0
  split at e
  case isTrue => cases e
  rename_i hxt
  have h3 := xt_of hxt
  split at e
  case h_1 => cases e
  rename_i n vs hsrc
  obtain ⟨k1, k2, k3⟩ := srcA_ok s hx hsrc
  obtain ⟨news, hnew, hrel⟩ := k3 w (fun _ _ => rfl)
  obtain ⟨news', hnew', hrel'⟩ := k3 w.drew drew_cells
  have hzl : ∀ c : Nat, (Builtin.zeroCells z.cells c).size = c * size := fun c => by rw [size_zeroCells', hzc]
  split at e
  · -- a nil slice
    cases ha
    split at e
    · rename_i hn0
      simp only [Option.some.injEq, Prod.mk.injEq] at e
      obtain ⟨rfl, rfl⟩ := e
      subst hn0
      have := append_run_fits (P := P) (w := w) (w' := w) (ty := ty) (base := none) (sLen := 0) (sCap := 0) h1 h2 h3 k2 hnew (by omega) (fun a q => by cases q) (fun _ => rfl)
      exact .same s .sliceNil this
    · split at e
      · rename_i hn0 hc
        simp only [Option.some.injEq, Prod.mk.injEq] at e
        obtain ⟨rfl, rfl⟩ := e
        obtain ⟨cap', q1, q2⟩ := append_run_grow (P := P) (w := w) (ty := ty) (base := none) (sLen := 0) (sCap := 0) h1 h2 h3 k2 hnew' (olds := #[]) (by simp [Builtin.firstCells]) (by omega)
          (by simpa using hc.1) (by omega)
        have hg := grow_ok s.drew (old := []) (olds := #[]) (RelL.nil ρ) hrel' (Builtin.zeroCells z.cells (cap' - (0 + n))) el size n (cap' - (0 + n)) (by simpa using k1) (hzl _) hsz
        refine ⟨_, _, _, Ren.add_le _ s.fresh, ?_, hg, q2⟩
        simp only [Nat.zero_add] at q1 ⊢
        exact fresh_slice ρ _ _ _ _ _ _ _ (.inr ⟨rfl, by omega⟩)
      · cases e
  · rename_i i off len cap
    cases ha with
    | slice i off len cap cap' b a' hb hl hcap haddr =>
      have hcc : cap ≤ cap' := by omega
      dsimp only at e
      split at e
      · rename_i hn0
        simp only [Option.some.injEq, Prod.mk.injEq] at e
        obtain ⟨rfl, rfl⟩ := e
        subst hn0
        have hnil : news.toList = [] := by
          have := hrel.1
          rw [k1] at this
          simp at this
          exact List.eq_nil_of_length_eq_zero (by simpa using this.symm)
        have := append_run_fits (P := P) (w := w) (w' := w) (ty := ty) (base := some a') (sLen := len) (sCap := cap') h1 h2 h3 k2 hnew (by omega)
          (fun q hq => by rw [hnil]; simp [storeCells]) (fun q => by cases q)
        exact .same s (.slice i off len cap cap' b a' hb hl hcap haddr) this
      · rename_i hn0
        split at e
        case h_1 => cases e
        rename_i c m hrow
        have hrow' := getRow_eq hrow
        obtain ⟨b', hb1, hok⟩ := s.row _ _ _ hrow'
        rw [hb] at hb1; cases hb1
        have hlen := hok.len
        split at e
        · -- in place
          rename_i hfit
          split at e
          case isFalse => cases e
          rename_i hc
          obtain ⟨c1, c2, c3⟩ := hc
          simp only [Option.some.injEq, Prod.mk.injEq] at e
          obtain ⟨rfl, rfl⟩ := e
          have hadd : a' = ⟨b.block, b.base + off, none⟩ := by
            rcases haddr with q | q
            · exact q
            · omega
          subst hadd
          obtain ⟨w', e1, e2⟩ := s.store P hrow' c1 hb (off + len * size) hrel c2 (by rw [k1]; rw [Nat.add_mul] at c3; omega)
          refine ⟨ρ, _, w', .refl _, .slice i off (len + n) cap cap' b _ hb hfit hcap (.inl rfl), e2, ?_⟩
          refine append_run_fits h1 h2 h3 k2 hnew (by omega) (fun q hq => ?_) (fun q => by cases q)
          cases hq
          rw [addr_add, Nat.add_assoc]; exact e1
        · -- it must grow
          rename_i hnofit
          split at e
          case isFalse => cases e
          rename_i hc
          obtain ⟨c1, c2, c3, c4, c5, c6⟩ := hc
          simp only [Option.some.injEq, Prod.mk.injEq] at e
          obtain ⟨rfl, rfl⟩ := e
          have hold : RelL ρ ((c.drop off).take (len * size)) ((c.drop off).take (len * size)) → True := fun _ => trivial
          by_cases hin : len + n ≤ cap'
          · -- the block has room beyond
            have hadd : a' = ⟨b.block, b.base + off, none⟩ := by
              rcases haddr with q | q
              · exact q
              · omega
            subst hadd
            obtain ⟨o1, o2⟩ : off + cap * b.size = b.n ∧ cap' = cap + b.extra := by
              rcases hcap with q | q
              · omega
              · exact q
            have hext : b.extra ≠ 0 := by omega
            have hmd : m.openSize = some size := by
              rcases c6 with q | q
              · exact absurd (hok.fit q) hext
              · exact q
            have hm : m = .grown size := by
              cases m <;> simp [Md.openSize] at hmd <;> try omega
              rw [hmd]
            have hbs : b.size = size := hok.fit2 _ hsz hmd
            rw [hbs] at o1
            rw [if_pos ⟨hm, by omega⟩]
            obtain ⟨cc, elc, fr, l1, l2, l3, l4⟩ := hok.lies
            have hro : m ≠ .ro := by rw [hm]; simp
            have hfr := l4 hro
            have hcap2 : off + cap' * size = b.n + b.extra * size := by rw [o2, Nat.add_mul]; omega
            have hnsz : off + len * size + n * size ≤ off + cap' * size := by
              have := Nat.mul_le_mul_right size hin
              rw [Nat.add_mul] at this; omega
            have hvl : news.toList.length = n * size := by rw [← hrel.1]; exact k1
            rw [hbs] at l2
            obtain ⟨w', e1, s1, s2, s3, s4, s5, cc', s6, s7, s8⟩ := run_storeCells P b.block (b.base + off + len * size) elc fr news.toList 0 w cc l1 hfr
              (hrel.oneCell c3) (by rw [hvl]; omega)
            have hB : B.lo ≤ b.block := hok.own hro
            have hnr : ¬ isRo h i := fun ⟨c', hc'⟩ => by rw [hrow'] at hc'; cases hc'; exact hro rfl
            have hfree : ∀ j bj, ρ j = some bj → live (h.set i .dead) j → bj.block ≠ b.block := fun j bj hj hlv q => by
              obtain ⟨q1, q2⟩ := live_dead hlv
              exact hnr (s.inj j i bj b q1 hj hb q q2 ⟨_, hrow', by simp⟩).2
            have hcold : ρ.frz b.block = none := by
              cases q : ρ.frz b.block with
              | none => rfl
              | some c0 => exact ((s.apart _ _ i b q hb ⟨_, hrow', by simp⟩).elim (fun r => (hnr r).elim) fun r => (r rfl).elim)
            have sk := (s.kill i).turnFree b.block hB (s.dom _ _ hb).2.2 hcold hfree s1 s2 s3 s4 s5
            have hblk : b.block < w'.heap.size := by have := (s.dom _ _ hb).2.1; omega
            have hll : (h.set i .dead).length = h.length := by simp
            have hnm := sk.name ((c.drop off).take (len * size) ++ vs) (.grown size) ⟨b.block, b.base + off, (len + n) * size, size, cap' - (len + n)⟩ hblk (s.dom _ _ hb).2.2 hcold hfree (by
              have hle := Ren.add_le ⟨b.block, b.base + off, (len + n) * size, size, cap' - (len + n)⟩ sk.fresh
              have htl : ((c.drop off).take (len * size)).length = len * size := by simp; omega
              refine ⟨by simp only [List.length_append, htl, k1, Nat.add_mul], ⟨cc', elc, fr, s6, ?_, fun k y hy => ?_, fun _ => by rw [s7]; exact hfr⟩, fun _ => hB, (fun q => by cases q), (fun q _ hq => by cases hq; rfl), (fun q => by cases q)⟩
              · dsimp only
                rw [s7]
                have : (len + n) * size + (cap' - (len + n)) * size = cap' * size := by rw [← Nat.add_mul]; congr 1; omega
                omega
              · dsimp only
                rw [s8]
                by_cases hk : k < len * size
                · rw [List.getElem?_append_left (by omega), List.getElem?_take, if_pos hk, List.getElem?_drop] at hy
                  rw [if_neg (by omega)]
                  obtain ⟨u, hu, hr⟩ := l3 _ _ hy
                  exact ⟨u, by rw [Nat.add_assoc]; exact hu, hr.mono hle⟩
                · rw [List.getElem?_append_right (by omega), htl] at hy
                  have hlt : k - len * size < vs.length := (List.getElem?_eq_some_iff.1 hy).1
                  rw [if_pos (by rw [hvl]; omega)]
                  obtain ⟨u, hu, hr⟩ := hrel.get hy
                  exact ⟨u, by rw [← hu]; congr 1; omega, hr.mono hle⟩)
            rw [hll] at hnm
            refine ⟨_, _, w', Ren.add_le _ s.fresh, ?_, hnm, append_run_fits h1 h2 h3 k2 hnew hin (fun q hq => by cases hq; rw [addr_add]; exact e1) (fun q => by cases q)⟩
            exact .slice _ 0 _ _ _ _ _ (Ren.add_same _ _ _) (Nat.le_refl _) (.inr ⟨by simp, by simp; omega⟩) (.inl rfl)
          · -- a new block
            obtain ⟨ol, q1, q2, q3⟩ := hok.cells off (len * size) c1
            have hold' : (Builtin.firstCells size len (.slice (some a') len cap')).run P w.drew = .ok ol.toArray w.drew := by
              rcases haddr with rfl | h0
              · have := run_loadCells_list (P := P) w.drew ⟨b.block, b.base + off, none⟩ ol (fun j v hv => by rw [addr_add, drew_cells]; exact q2 j v hv)
                rw [q1] at this
                simpa [Builtin.firstCells] using this
              · have e0 : len = 0 := by omega
                subst e0
                simp at q1
                subst q1
                simp [Builtin.firstCells, loadCells, loadCellsFrom]
            obtain ⟨cap2, g1, g2⟩ := append_run_grow (P := P) (w := w) (ty := ty) (base := some a') (sLen := len) (sCap := cap') h1 h2 h3 k2 hnew' hold' (by omega) c4 c5
            have sk : Sim B w0 ρ (if m = .grown size ∧ off + cap * size = c.length then h.set i .dead else h) w := by
              split
              · exact s.kill i
              · exact s
            have hg := grow_ok sk.drew (old := (c.drop off).take (len * size)) (olds := ol.toArray) (by simpa using q3) hrel' (Builtin.zeroCells z.cells (cap2 - (len + n))) el size (len + n) (cap2 - (len + n))
              (by rw [k1, Nat.add_mul]; simp; omega) (hzl _) hsz
            have hll : (if m = .grown size ∧ off + cap * size = c.length then h.set i .dead else h).length = h.length := by split <;> simp
            rw [hll] at hg
            exact ⟨_, _, _, Ren.add_le _ s.fresh, fresh_slice ρ _ _ _ _ _ _ _ (.inr ⟨rfl, by omega⟩), hg, g2⟩
  · cases e

end
end Go.Ax
