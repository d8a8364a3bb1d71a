/- The small words of functions that the laws reach. -/
import Derived.Test.YthhknneomcleoaaW1
namespace Go.Ax
open Go Go.Proofs


/-- slices.Index[[]int,int]: loops {2: [0, 1, 7, 8]}; joins {} -/
def W_slices_Index_int_int (a0 a1 : Value) (h : Heap) (Q : Value → Heap → Prop) : Prop :=
(oW (lenS a0) fun v1 =>
(∃ (I2 : Nat → List Value → Heap → Prop) (k3 : Nat), gcL h (I2 k3) [a0, a1, v1, (.int .i64 0)] h ∧
∀ k5 : Nat, ∀ x6 : Value, ∀ x7 : Value, ∀ x8 : Value, ∀ x9 : Value, ∀ h10, I2 k5 [x6, x7, x8, x9] h10 →
(oW (binN .lss x9 x8) fun v11 =>
(bW v11
(oW (iaS 1 x6 x9) fun v12 =>
(oW (ldW false 1 h10 v12) fun v13 =>
(oW (binN .eql x7 v13) fun v14 =>
(bW v14
(gcV h Q x9 h10)
(oW (binN .add x9 (.int .i64 1)) fun v15 =>
(∃ m4, m4 < k5 ∧ gcL h (I2 m4) [x6, x7, x8, v15] h10))))))
(gcV h Q (.int .i64 (-1)) h10)))))
theorem W_slices_Index_int_int_eq (a0 a1 : Value) (h : Heap) (Q : Value → Heap → Prop) : fW Try.prog ⟨[(2, [0, 1, 7, 8])], []⟩ Try.f109 [a0, a1] h Q = W_slices_Index_int_int a0 a1 h Q := by kernel_rfl
theorem W_slices_Index_int_int_ok {a0 a1 : Value} {h : Heap} {Q : Value → Heap → Prop} (e : W_slices_Index_int_int a0 a1 h Q) : acall Try.prog F_slices_Index_int_int [a0, a1] h Q :=
  by refine acall_of_fW mixed ⟨[(2, [0, 1, 7, 8])], []⟩ Try.func109 (by kernel_rfl) ?_; rw [W_slices_Index_int_int_eq]; exact e

end Go.Ax
