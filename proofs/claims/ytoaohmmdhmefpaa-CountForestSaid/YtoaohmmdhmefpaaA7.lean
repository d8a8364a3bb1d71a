/- Ax, part 7: more single operations. -/
import Derived.Test.YtoaohmmdhmefpaaA6
namespace Go.Ax
open Go.RowKit

section
variable {P : Program} {B : Fr} {w0 w : World} {ρ : Ren} {h : Heap}

theorem asNat_rel {o o' : Option Value} {d l : Nat} (hr : ∀ x, o = some x → ∃ y, o' = some y ∧ Rel ρ x y) (hn : o = none → o' = none) (e : asNat o d = some l) :
    (o' = none ∧ l = d) ∨ ∃ k, o' = some (.int k (l : Int)) := by
  unfold asNat at e
  split at e
  · simp only [Option.some.injEq] at e; exact .inl ⟨hn rfl, e.symm⟩
  · split at e
    · rename_i h0
      simp only [Option.some.injEq] at e
      obtain ⟨y, hy, hrel⟩ := hr _ rfl
      cases hrel
      right
      rw [hy, ← e, Int.toNat_of_nonneg h0]
      exact ⟨_, rfl⟩
    · cases e
  · cases e

theorem slice_bounds_run (isSlice : Bool) (len cap : Nat) (lo hi mx : Option Value) (l h m : Nat)
    (hl : (lo = none ∧ l = 0) ∨ ∃ k, lo = some (.int k (l : Int))) (hh : (hi = none ∧ h = len) ∨ ∃ k, hi = some (.int k (h : Int)))
    (hm : (mx = none ∧ m = cap) ∨ ∃ k, mx = some (.int k (m : Int))) (h1 : l ≤ h) (h2 : h ≤ m) (h3 : m ≤ cap) (h4 : mx.isSome = true → hi.isSome = true) (w : World) :
    (Instr.sliceBounds isSlice len cap lo hi mx).run P w = .ok (l, h, m) w := by
  have sb : ∀ (k : IntKind) (n y : Nat) (code : BoundsCode), n ≤ y → (Instr.sliceBound (.int k (n : Int)) y code).run P w = .ok n w := fun k n y code hle => by
    rw [run_sliceBound w k n y code (by omega) (by omega)]; simp
  rcases hm with ⟨rfl, rfl⟩ | ⟨km, rfl⟩ <;> rcases hh with ⟨rfl, rfl⟩ | ⟨kh, rfl⟩ <;> rcases hl with ⟨rfl, rfl⟩ | ⟨kl, rfl⟩ <;>
    first
      | (simp at h4; done)
      | (simp [Instr.sliceBounds, sb _ _ _ _ h1, sb _ _ _ _ h2, sb _ _ _ _ h3]; done)

theorem opt_rel {t : Nat → Value} {E : Operand → Value} (ht : ∀ x, Rel ρ (evalO t x) (E x)) (o : Option Operand) :
    (∀ x, o.map (evalO t) = some x → ∃ y, o.map E = some y ∧ Rel ρ x y) ∧ (o.map (evalO t) = none → o.map E = none) := by
  cases o with
  | none => simp
  | some x => simp; exact ht x

theorem slice_ok (s : Sim B w0 ρ h w) {ty : TypeId} {x x' v : Value} {lo hi mx lo' hi' mx' : Option Value} (hx : Rel ρ x x')
    (hlo : (∀ u, lo = some u → ∃ y, lo' = some y ∧ Rel ρ u y) ∧ (lo = none → lo' = none))
    (hhi : (∀ u, hi = some u → ∃ y, hi' = some y ∧ Rel ρ u y) ∧ (hi = none → hi' = none))
    (hmx : (∀ u, mx = some u → ∃ y, mx' = some y ∧ Rel ρ u y) ∧ (mx = none → mx' = none))
    (e : sliceA P h ty x lo hi mx = some v) : ∃ v', (Instr.sliceAt ty x' lo' hi' mx').run P w = .ok v' w ∧ Rel ρ v v' := by
  have some_of : ∀ {o o' : Option Value}, ((∀ u, o = some u → ∃ y, o' = some y ∧ Rel ρ u y) ∧ (o = none → o' = none)) → (o'.isSome = true → o.isSome = true) ∧ (o.isSome = true → o'.isSome = true) := fun {o o'} hh => by
    cases o with
    | none => rw [hh.2 rfl]; simp
    | some u => obtain ⟨y, hy, _⟩ := hh.1 u rfl; rw [hy]; simp
  unfold sliceA at e
  split at e
  · rename_i r str hty
    split at e
    · rename_i l hh hl1 hh1
      split at e
      · rename_i hc
        simp only [Option.some.injEq] at e; subst e
        cases hx
        have hm' := hmx.2 rfl
        refine ⟨.string (str.extract l hh), ?_, .str _⟩
        have hb := slice_bounds_run (P := P) false str.size str.size lo' hi' none l hh str.size (asNat_rel hlo.1 hlo.2 hl1) (asNat_rel hhi.1 hhi.2 hh1) (.inl ⟨rfl, rfl⟩) hc.1 hc.2 (Nat.le_refl _) (by simp) w
        simp [Instr.sliceAt, Instr.slice, run_under hty, hm', hb]
      · cases e
    · cases e
  · rename_i el r a len cap hty
    split at e
    · rename_i d z size by_ l hh m hte hl1 hh1 hm1
      split at e
      · rename_i hc
        obtain ⟨c1, c2, c3, c4, c5⟩ := hc
        have hm2 := asNat_rel hmx.1 hmx.2 hm1
        cases hx with
        | sliceNil =>
          simp only [Option.some.injEq] at e; subst e
          have hb := slice_bounds_run (P := P) true 0 0 lo' hi' mx' l hh m (asNat_rel hlo.1 hlo.2 hl1) (asNat_rel hhi.1 hhi.2 hh1) hm2 c1 c2 c3 (fun q => (some_of hhi).2 (c5 ((some_of hmx).1 q))) w
          refine ⟨.slice none 0 0, ?_, .sliceNil⟩
          have e1 : m = 0 := by omega
          have e2 : hh = 0 := by omega
          have e3 : l = 0 := by omega
          subst e1; subst e2; subst e3
          simp [Instr.sliceAt, Instr.slice, run_under hty, run_size hte, hb]
        | slice i off len cap cap' b a' hr hl hcap ha =>
          dsimp only at e
          split at e
          case h_2 => cases e
          rename_i c md hrow
          split at e
          case isFalse => cases e
          rename_i hmd
          simp only [Option.some.injEq] at e; subst e
          obtain ⟨b', hb1, hok⟩ := s.row _ _ _ (getRow_eq hrow)
          rw [hr] at hb1; cases hb1
          have hcc : cap ≤ cap' := by omega
          have key : ∀ m' : Nat, (mx' = none ∧ m' = cap') ∨ (∃ k, mx' = some (.int k (m' : Int))) → l ≤ hh → hh ≤ m' → m' ≤ cap' →
              (m' - l = m - l ∨ (off + l * size + (m - l) * b.size = b.n ∧ m' - l = m - l + b.extra)) →
              ∃ v', (Instr.sliceAt ty (.slice (some a') len cap') lo' hi' mx').run P w = .ok v' w ∧
                Rel ρ (.slice (some ⟨i, off + l * size, none⟩) (hh - l) (m - l)) v' := fun m' hm' q1 q2 q3 q4 => by
            have hb := slice_bounds_run (P := P) true len cap' lo' hi' mx' l hh m' (asNat_rel hlo.1 hlo.2 hl1) (asNat_rel hhi.1 hhi.2 hh1) hm' q1 q2 q3 (fun q => (some_of hhi).2 (c5 ((some_of hmx).1 q))) w
            refine ⟨.slice (some (if m' = l then a' else a'.add (l * size))) (hh - l) (m' - l), by
              simp only [Instr.sliceAt, Instr.slice, Sem.run_bind, run_under hty, Result.andThen_ok, hb, run_size hte, Sem.run_pure]
              by_cases q : m' = l <;> simp [q], ?_⟩
            refine .slice i _ _ _ _ b _ hr (by omega) q4 ?_
            by_cases q : m' = l
            · exact .inr (by omega)
            · rw [if_neg q]
              rcases ha with rfl | h0
              · left; rw [addr_add]; simp [Nat.add_assoc]
              · omega
          rcases hm2 with ⟨rfl, rfl⟩ | ⟨k, hk⟩
          · refine key cap' (.inl ⟨rfl, rfl⟩) c1 (by omega) (Nat.le_refl _) ?_
            rcases hcap with q0 | ⟨q1, q2⟩
            · left; omega
            · by_cases hz : b.extra = 0
              · left; omega
              · right
                have hsz : b.size = size := by
                  rcases hmd with q | q
                  · exact absurd (hok.fit q) hz
                  · exact hok.fit2 _ q.1 q.2
                rw [hsz] at q1 ⊢
                refine ⟨?_, by omega⟩
                rw [← q1, Nat.add_assoc, ← Nat.add_mul, show l + (m - l) = m by omega]
          · exact key m (.inr ⟨k, hk⟩) c1 c2 (by omega) (.inl rfl)
      · cases e
    · cases e
  · rename_i n el r i off hty
    split at e
    · rename_i d z size by_ l hh m hte hl1 hh1 hm1
      split at e
      · rename_i hc
        obtain ⟨c1, c2, c3, c5⟩ := hc
        simp only [Option.some.injEq] at e; subst e
        cases hx with
        | ptr i off b hr =>
          have hb := slice_bounds_run (P := P) false n n lo' hi' mx' l hh m (asNat_rel hlo.1 hlo.2 hl1) (asNat_rel hhi.1 hhi.2 hh1) (asNat_rel hmx.1 hmx.2 hm1) c1 c2 c3 (fun q => (some_of hhi).2 (c5 ((some_of hmx).1 q))) w
          refine ⟨.slice (some (if m = l then ⟨b.block, b.base + off, none⟩ else (⟨b.block, b.base + off, none⟩ : Addr).add (l * size))) (hh - l) (m - l), by
            simp only [Instr.sliceAt, Instr.sureAddr, Sem.run_bind, run_under hty, Result.andThen_ok, Sem.run_pure, hb, run_size hte], ?_⟩
          refine .slice i _ _ _ _ b _ hr (by omega) (.inl rfl) ?_
          by_cases q : m = l
          · exact .inr (by omega)
          · rw [if_neg q]; left; rw [addr_add]; simp [Nat.add_assoc]
      · cases e
    · cases e
  · cases e

end
end Go.Ax
