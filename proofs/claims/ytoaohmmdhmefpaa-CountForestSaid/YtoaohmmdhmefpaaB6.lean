/- CountBinary: the walk. -/
import Derived.Test.YtoaohmmdhmefpaaB5
namespace Go.Ax
open Go Go.Proofs Go.RowKit

def wants : List Nat := [1, 1, 2, 5, 14, 42, 132]
theorem bin_all : ∀ n, 1 ≤ n → n ≤ 7 → ∃ L K z T, Bin n L K z T ∧ T.getD (2 * n - 1) 0 = wants.getD (n - 1) 0 ∧ 0 < T.getD (2 * n - 1) 0
  | 1, _, _ => ⟨_, _, _, _, bin1, by decide +kernel, by decide +kernel⟩
  | 2, _, _ => ⟨_, _, _, _, bin2, by decide +kernel, by decide +kernel⟩
  | 3, _, _ => ⟨_, _, _, _, bin3, by decide +kernel, by decide +kernel⟩
  | 4, _, _ => ⟨_, _, _, _, bin4, by decide +kernel, by decide +kernel⟩
  | 5, _, _ => ⟨_, _, _, _, bin5, by decide +kernel, by decide +kernel⟩
  | 6, _, _ => ⟨_, _, _, _, bin6, by decide +kernel, by decide +kernel⟩
  | 7, _, _ => ⟨_, _, _, _, bin7, by decide +kernel, by decide +kernel⟩
theorem s_remB {m c : Nat} {z : Int} {K : Value → Prop} (e : z = (c : Int)) (hc : c ≠ 0) (k : K (.int .u8 ((m % c : Nat) : Int))) : oW (binN .rem (byte m) (.int .u8 z)) K := by
  subst e
  refine ⟨_, n_rem (by omega), ?_⟩
  rw [← Int.ofNat_tmod]; exact k
theorem s_cvB {r : Nat} {K : Value → Prop} (hr : r < 256) (k : K (natV r)) : oW (cvI .i64 (.int .u8 (r : Int))) K := by
  refine ⟨_, ?_, k⟩
  unfold cvI
  simp only [Option.some.injEq]
  congr 1
  exact wrap_i64 (by unfold inI; omega)
theorem s_mulN {a b : Nat} {z : Int} {K : Value → Prop} (e : z = (a : Int)) (h : a * b ≤ 9223372036854775807) (k : K (natV (a * b))) : oW (binN .mul (.int .i64 z) (natV b)) K := by
  subst e
  rw [n_mul (by unfold inI; rw [← Int.natCast_mul]; omega), ← Int.natCast_mul]; exact oW_some.2 k

theorem countBinary_walk {many : Nat} (hm : many < 256) {h : Heap} : acall Try.prog F_homographlaw28_CountBinary [byte many] h fun v _ => v = .bool true := by
  apply W_homographlaw28_CountBinary_ok
  unfold W_homographlaw28_CountBinary
  repeat' first | ((with_reducible apply s_call))
  refine awake_spec ?_
  repeat' first | ((with_reducible apply s_not)) | ((with_reducible apply s_brB) <;> intro hb <;> try contradiction)
  refine s_remB (c := 7) rfl (by decide) ?_
  have hr : many % 7 < 7 := Nat.mod_lt _ (by decide)
  generalize many % 7 = r at hr
  refine s_cvB (by omega) ?_
  repeat' first | ((with_reducible apply s_inc); (· omega)) | ((with_reducible apply s_call))
  refine two_spec ?_
  repeat' first | ((with_reducible apply s_call))
  obtain ⟨L, K, z, T, b, hT, hp⟩ := bin_all (r + 1) (by omega) (by omega)
  refine forest_at (s := twoS) (n := r + 1) two_mk (by decide) (by omega) b.all b.bld b.root fun a => ?_
  repeat' first | ((with_reducible apply s_call))
  refine two_spec ?_
  repeat' first | ((with_reducible apply s_call))
  refine madeN two_mk (by decide) ?_
  repeat' first | ((with_reducible apply s_call)) | ((with_reducible apply s_let)) | ((with_reducible apply s_stA); (· rfl); (· rfl); (· rfl))
  refine findN (by have := b.len; rw [List.length_map]; omega) b.find ?_
  have hwn : (wants.getD (r + 1 - 1) 0) ≤ 132 := by
    rcases (show r = 0 ∨ r = 1 ∨ r = 2 ∨ r = 3 ∨ r = 4 ∨ r = 5 ∨ r = 6 by omega) with rfl | rfl | rfl | rfl | rfl | rfl | rfl <;> decide
  refine ⟨.slice (some ⟨(h ++ [AObj.row twoG.cells .exact]).length, 0, none⟩) 7 7, h ++ [AObj.row twoG.cells .exact] ++ [AObj.row (wants.map natV) .exact], rfl, ?_⟩
  repeat' first | ((with_reducible apply s_rowA); (· first | assumption | exact row_last | exact getRow_app (by first | assumption | exact row_last | exact getRow_app (by first | assumption | exact row_last))); (· rfl)) | ((with_reducible apply s_call))
  refine b.trees a ?_
  rw [hT, capN_of (Nat.le_trans hwn (by decide))]
  repeat' first | ((with_reducible apply s_rowA); (· first | assumption | exact row_last | exact getRow_app (by first | assumption | exact row_last | exact getRow_app (by first | assumption | exact row_last))); (· rfl)) | ((with_reducible apply s_e20)) | ((with_reducible apply s_e21)) | ((with_reducible apply s_call))
  refine b.sizes a (most := 30) (by omega) fun l hl hv => ?_
  have hvn := hv (3 * (r + 1) - 1) (by omega)
  rw [if_pos rfl, hT, capN_of (Nat.le_trans hwn (by decide))] at hvn
  repeat' first | ((with_reducible apply s_dec); (· omega); (· omega))
  rw [iaS_slice (by omega), oW_some]
  refine s_row (v := natV (wants.getD (r + 1 - 1) 0)) row_last ?_ ?_
  · rw [Nat.zero_add, Nat.mul_one, List.getElem?_map]
    have : r + 1 - 1 < wants.length := by show r + 1 - 1 < 7; omega
    rw [List.getElem?_eq_getElem this, getD_at this]; rfl
  repeat' first | ((with_reducible apply s_eql)) | ((with_reducible apply s_not)) | ((with_reducible apply s_br) <;> intro hb <;> try (exfalso; omega)) | ((with_reducible apply s_brB) <;> intro hb <;> try contradiction) | ((with_reducible apply s_lenM))
  refine s_mulN (a := 3) rfl (by omega) ?_
  repeat' first | ((with_reducible apply s_dec); (· omega); (· omega)) | ((with_reducible apply s_eql)) | ((with_reducible apply s_br) <;> intro hb <;> try (exfalso; omega)) | ((with_reducible refine s_ix (by omega) ?_ ?_); (· rfl)) | ((with_reducible apply s_ld1); (· rfl)) | ((with_reducible apply s_rowA); (· first | assumption | exact row_last | exact getRow_app (by first | assumption | exact row_last | exact getRow_app (by first | assumption | exact row_last))); (· rfl)) | ((with_reducible apply s_call))
  refine b.least a hp ?_
  refine s_mulN (a := 3) rfl (by omega) ?_
  repeat' first | ((with_reducible apply s_dec); (· omega); (· omega)) | ((with_reducible apply s_eql))
  rw [List.append_assoc]
  exact gcV_end (v2 := .bool true) (by rw [decide_eq_true rfl]; exact .cl (.bool _)) rfl

end Go.Ax
