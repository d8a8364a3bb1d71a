/- Ax, part 8: numbers, texts, addresses of elements and fields, lengths. -/
import Derived.Test.YtoaohmmdhmefpaaA7
import Derived.Laws.StructEq
namespace Go.Ax
open Go.RowKit

section
variable {P : Program} {B : Fr} {w0 w : World} {ρ : Ren} {h : Heap}

theorem intOp_ok {op : BinOp} {k : IntKind} {a b : Int} {v : Value} (h1 : op ≠ .shl) (h2 : op ≠ .shr) (e : intOp op k a b = some v) (t : TypeId) (w : World) :
    (binOp op t (.int k a) (.int k b)).run P w = .ok v w ∧ (∃ k' n, v = .int k' n) ∨ (binOp op t (.int k a) (.int k b)).run P w = .ok v w ∧ ∃ c, v = .bool c := by
  cases op <;> simp only [intOp] at e <;> first
    | (exact absurd rfl h1)
    | (exact absurd rfl h2)
    | (cases e; done)
    | (simp only [Option.some.injEq] at e; subst e; left; exact ⟨by simp [binOp, Op.intArith, Op.intBits], _, _, rfl⟩)
    | (simp only [Option.some.injEq] at e; subst e; right; exact ⟨by simp [binOp, Op.intCmp], _, rfl⟩)
    | (split at e
       · cases e
       · rename_i hb
         simp only [Option.some.injEq] at e; subst e; left; exact ⟨by simp [binOp, Op.intDiv, hb], _, _, rfl⟩)

theorem strOp_ok {op : BinOp} {a b : ByteArray} {v : Value} (e : strOp op a b = some v) (t : TypeId) (w : World) :
    (binOp op t (.string a) (.string b)).run P w = .ok v w ∧ ((∃ s, v = .string s) ∨ ∃ c, v = .bool c) := by
  cases op <;> simp only [strOp] at e <;> first
    | (cases e; done)
    | (simp only [Option.some.injEq] at e; subst e; exact ⟨by simp [binOp, Op.stringOp], .inr ⟨_, rfl⟩⟩)
    | (split at e
       · cases e
       · rename_i hb
         simp only [Option.some.injEq] at e; subst e
         refine ⟨?_, .inl ⟨_, rfl⟩⟩
         simp only [binOp, Op.stringOp]
         rw [if_neg hb]; rfl)

theorem cellEq_iff {x y : Value} (hx : ground x = true) (hs : ∀ cs, x ≠ .agg cs) : cellEq x y = true ↔ x = y := by
  cases x <;> cases y <;> simp [ground, cellEq] at hx hs ⊢
  case string.string a b =>
    constructor
    · intro h; obtain ⟨⟨a⟩⟩ := a; obtain ⟨⟨b⟩⟩ := b; simpa using h
    · intro h; rw [h]

/-- Cells that are no cells of cells, all of them told as they are. -/
def flatG (l : List Value) : Prop := ∀ x ∈ l, ground x = true ∧ ∀ cs, x ≠ .agg cs

theorem cellsEq_iff : ∀ {l l' : List Value}, flatG l → (cellsEq l l' = true ↔ l = l')
  | [], [], _ => by simp [cellsEq]
  | [], y :: ys, _ => by simp [cellsEq]
  | x :: xs, [], _ => by simp [cellsEq]
  | x :: xs, y :: ys, h => by
    have h1 := cellEq_iff (y := y) (h x (by simp)).1 (h x (by simp)).2
    have h2 := cellsEq_iff (l := xs) (l' := ys) fun z hz => h z (by simp [hz])
    simp only [cellsEq, Bool.and_eq_true, h1, h2, List.cons.injEq]

theorem aggLits_eq {t : TypeId} {v : Value} {l : List Lit} (e : aggLits P t v = some l) :
    ∃ cs, v = .agg cs ∧ P.keyTypeAt 40 t = true ∧ P.tiled 40 t = true ∧ v.formed P t = true ∧ P.keyLits 41 t cs.toList = some l ∧ cs.toList = l.map Lit.toCell := by
  unfold aggLits at e
  split at e
  · rename_i cs
    split at e
    · rename_i h
      exact ⟨cs, rfl, h.1, h.2.1, h.2.2, e, cells_of_lits 40 t h.2.1 _ _ _ e⟩
    · cases e
  · cases e

theorem toCell_flat (l : List Lit) : flatG (l.map Lit.toCell) := by
  intro x hx
  simp only [List.mem_map] at hx
  obtain ⟨y, _, rfl⟩ := hx
  cases y <;> simp [Lit.toCell, ground]

theorem aggLits_ground {t : TypeId} {v : Value} {l : List Lit} (e : aggLits P t v = some l) : ground v = true := by
  obtain ⟨cs, rfl, _, _, _, _, hc⟩ := aggLits_eq e
  simp only [ground, List.all_eq_true]
  intro x hx
  rw [hc] at hx
  obtain ⟨h1, h2⟩ := toCell_flat l x hx
  cases x <;> simp [ground] at h1 h2 ⊢

theorem ground_eq {k k' : Value} (hr : Rel ρ k k') (hg : ground k = true) : k' = k := by
  cases hr with
  | agg cs cs' h1 h2 =>
    simp only [ground, List.all_eq_true] at hg
    congr 1
    apply Array.ext h1.symm
    intro i p q
    have hx := hg cs[i] (by simp)
    have hr := h2 i q p
    revert hr hx
    generalize cs[i] = x
    generalize cs'[i] = y
    intro hx hr
    cases hr <;> first | rfl | (simp at hx; done)
  | bool b => rfl
  | int k n => rfl
  | str s => rfl
  | _ => simp [ground] at hg

theorem aggEqual_ok {t : TypeId} {xs ys : Array Value} {lx ly : List Lit} (hx : aggLits P t (.agg xs) = some lx) (hy : aggLits P t (.agg ys) = some ly) (d : Nat) (w : World) :
    (Op.equalIn (d + 40) t (.agg xs) (.agg ys)).run P w = .ok (cellsEq xs.toList ys.toList) w := by
  obtain ⟨_, e1, hk, ht, fx, kx, cx⟩ := aggLits_eq hx
  cases e1
  obtain ⟨_, e2, _, _, fy, ky, cy⟩ := aggLits_eq hy
  cases e2
  obtain ⟨r, h1, h2⟩ := run_equalIn_deep d 40 t hk w 41 41 (.agg xs) (.agg ys) lx ly fx fy (by simpa [Value.cells] using kx) (by simpa [Value.cells] using ky)
  have : r = cellsEq xs.toList ys.toList := by
    rw [Bool.eq_iff_iff, h2, cellsEq_iff (by rw [cx]; exact toCell_flat lx)]
    constructor
    · intro e; rw [cx, cy, e]
    · intro e; rw [e, ky] at kx; exact (Option.some.inj kx).symm
  rw [← this]; exact h1

theorem eqlA_ok' {t : TypeId} {x y x' y' : Value} {b : Bool} (hx : Rel ρ x x') (hy : Rel ρ y y') (e : eqlA P t x y = some b) (w : World) (n : Nat) (hn : 40 ≤ n + 1) :
    (Op.equalIn (n + 1) t x' y').run P w = .ok b w := by
  unfold eqlA at e
  split at e
  · rename_i a b'
    split at e
    · rename_i hty
      simp only [Option.some.injEq] at e; subst e
      cases hx; cases hy
      simp [Op.equalIn, run_under hty]
    · cases e
  · rename_i xs ys
    split at e
    · split at e
      · rename_i lx ly h1 h2
        simp only [Option.some.injEq] at e; subst e
        have e1 := ground_eq hx (aggLits_ground h1)
        have e2 := ground_eq hy (aggLits_ground h2)
        subst e1; subst e2
        have := aggEqual_ok h1 h2 (n + 1 - 40) w
        rwa [show n + 1 - 40 + 40 = n + 1 by omega] at this
      · cases e
    · cases e
  · split at e
    · rename_i hty
      split at e
      · simp only [Option.some.injEq] at e; subst e
        cases hx; cases hy <;> simp [Op.equalIn, run_under hty]
      · simp only [Option.some.injEq] at e; subst e
        cases hx; cases hy; simp [Op.equalIn, run_under hty]
      · cases e
    · rename_i hty
      split at e
      · simp only [Option.some.injEq] at e; subst e
        cases hx; cases hy <;> simp [Op.equalIn, run_under hty]
      · simp only [Option.some.injEq] at e; subst e
        cases hx; cases hy; simp [Op.equalIn, run_under hty]
      · cases e
    · rename_i hty
      split at e
      · simp only [Option.some.injEq] at e; subst e
        cases hx; cases hy <;> simp [Op.equalIn, run_under hty]
      · simp only [Option.some.injEq] at e; subst e
        cases hx; cases hy; simp [Op.equalIn, run_under hty]
      · cases e
    · rename_i hty
      split at e
      · simp only [Option.some.injEq] at e; subst e
        cases hx; cases hy; simp [Op.equalIn, run_under hty]
      · simp only [Option.some.injEq] at e; subst e
        cases hx; cases hy; simp [Op.equalIn, run_under hty]
      · simp only [Option.some.injEq] at e; subst e
        cases hx; cases hy; simp [Op.equalIn, run_under hty]
      · cases e
    · cases e

theorem eqlA_ok {t : TypeId} {x y x' y' : Value} {b : Bool} (hx : Rel ρ x x') (hy : Rel ρ y y') (e : eqlA P t x y = some b) (w : World) :
    (Op.equal t x' y').run P w = .ok b w := eqlA_ok' hx hy e w 9999 (by omega)

/-- Values that '==' asks nothing ahead of. -/
def noGuard : Value → Bool
  | .agg _ | .nilIface | .tuple _ => false
  | _ => true

theorem eqGuard_ok {op : BinOp} {t : TypeId} {x y : Operand} {a b : Value} (ha : noGuard a = true) (w : World) : (eqGuard op t x y a b).run P w = .ok () w := by
  cases op <;> cases a <;> simp [noGuard] at ha <;> simp [eqGuard]

/-- What '==' asks ahead asks nothing here. -/
theorem eqlA_guard {op : BinOp} {t : TypeId} {u v : Operand} {x y x' y' : Value} {b : Bool} (hx : Rel ρ x x') (hy : Rel ρ y y') (e : eqlA P t x y = some b) (w : World) :
    (eqGuard op t u v x' y').run P w = .ok () w := by
  unfold eqlA at e
  split at e
  · cases hx; exact eqGuard_ok rfl w
  · rename_i xs ys
    split at e
    · rename_i hg
      split at e
      · rename_i lx ly h1 h2
        have e1 := ground_eq hx (aggLits_ground h1)
        have e2 := ground_eq hy (aggLits_ground h2)
        subst e1; subst e2
        exact run_eqGuard_agg w op t u v xs ys hg
      · cases e
    · cases e
  · split at e
    · split at e
      · cases hx; exact eqGuard_ok rfl w
      · cases hx; exact eqGuard_ok rfl w
      · cases e
    · split at e
      · cases hx; exact eqGuard_ok rfl w
      · cases hx; exact eqGuard_ok rfl w
      · cases e
    · split at e
      · cases hx; exact eqGuard_ok rfl w
      · cases hx; exact eqGuard_ok rfl w
      · cases e
    · split at e
      · cases hx; exact eqGuard_ok rfl w
      · cases hx; exact eqGuard_ok rfl w
      · cases hx; exact eqGuard_ok rfl w
      · cases e
    · cases e

end
end Go.Ax
