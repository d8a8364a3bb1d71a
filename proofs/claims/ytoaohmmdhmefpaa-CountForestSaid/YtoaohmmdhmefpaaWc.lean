/- The small words of functions that the laws reach. -/
import Derived.Test.YtoaohmmdhmefpaaC1
import Derived.Test.YtoaohmmdhmefpaaChecked
import Derived.KernelRfl
namespace Go.Ax
open Go Go.Proofs
theorem mixed : Try.prog.follows .mixedOrders = true := by kernel_rfl

abbrev F_homographlaw28_CountForest : FuncId := 3
abbrev F_homographlaw28_CountBinary : FuncId := 4
abbrev F_homographlaw28_CountSums : FuncId := 5
abbrev F_homographlaw28_awake : FuncId := 6
abbrev F_homographlaw28_forest : FuncId := 7
abbrev F_homographlaw28_made : FuncId := 8
abbrev F_homographref16_Make : FuncId := 9
abbrev F_count_Loops : FuncId := 10
abbrev F_count_Trees : FuncId := 11
abbrev F_homographref28_Trees : FuncId := 12
abbrev F_count_Least : FuncId := 13
abbrev F_count_Cycle : FuncId := 14
abbrev F_homographlaw28_two : FuncId := 15
abbrev F_homographref27_Find : FuncId := 16
abbrev F_count_Sizes : FuncId := 17
abbrev F_homographref28_Add : FuncId := 18
abbrev F_homographref27_Build : FuncId := 19
abbrev F_homographlaw28_line : FuncId := 20
abbrev F_homographref26_All : FuncId := 21
abbrev F_count_of : FuncId := 22
abbrev F_count_knots_steps : FuncId := 23
abbrev F_count_behind : FuncId := 24
abbrev F_count_knots_fertile : FuncId := 25
abbrev F_count_knots_total : FuncId := 26
abbrev F_homographref28_fertile : FuncId := 27
abbrev F_homographref28_kids : FuncId := 28
abbrev F_homographref28_leads : FuncId := 29
abbrev F_homographref28_total : FuncId := 30
abbrev F_count_knots_least : FuncId := 31
abbrev F_count_around : FuncId := 32
abbrev F_count_Sizes_D1 : FuncId := 33
abbrev F_count_add : FuncId := 34
abbrev F_count_mul : FuncId := 35
abbrev F_homographref28_most : FuncId := 36
abbrev F_homographref27_right : FuncId := 37
abbrev F_homographref27_root : FuncId := 38
abbrev F_homographref27_has : FuncId := 39
abbrev F_homographref27_ways : FuncId := 40
abbrev F_homographref27_Kids : FuncId := 41
abbrev F_homographref26_PutFact : FuncId := 42
abbrev F_homographref23_Come : FuncId := 43
abbrev F_homographref26_spans : FuncId := 44
abbrev F_count_kids : FuncId := 45
abbrev F_slices_Sort_int_int : FuncId := 46
abbrev F_slices_Compact_int_int : FuncId := 47
abbrev F_slices_Clone_int_int : FuncId := 48
abbrev F_slices_ContainsFunc_int_int : FuncId := 49
abbrev F_count_knots_fertile_D1 : FuncId := 50
abbrev F_homographref28_least : FuncId := 51
abbrev F_homographref28_Kids : FuncId := 52
abbrev F_homographref28_Mul : FuncId := 53
abbrev F_count_knots_least_D1 : FuncId := 54
abbrev F_count_until_int : FuncId := 55
abbrev F_count_knots_least_D2 : FuncId := 56
abbrev F_slices_Contains_int_int : FuncId := 57
abbrev F_homographref16_Check : FuncId := 58
abbrev F_homographref23_Check : FuncId := 59
abbrev F_homographref27_splits : FuncId := 60
abbrev F_homographref26_Less : FuncId := 61
abbrev F_forest_Kids : FuncId := 62
abbrev F_slices_IndexFunc_int_int : FuncId := 65
abbrev F_slices_Index_int_int : FuncId := 66
abbrev F_homographref16_made : FuncId := 67
abbrev F_homographref16_By : FuncId := 68
abbrev F_homographref23_less : FuncId := 69

/-- homograph/homographlaw28.CountForest: loops {14: [6, 7, 8, 9, 10, 11]}; joins {} -/
def W_homographlaw28_CountForest (a0 a1 : Value) (h : Heap) (Q : Value → Heap → Prop) : Prop :=
(callW Try.prog (fn F_homographlaw28_awake) [] h fun v1 h2 =>
(oW (unA .not v1) fun v3 =>
(bW v3
(gcV h Q (.bool false) h2)
(oW (lenStr a0) fun v4 =>
(oW (binN .gtr v4 (.int .i64 24)) fun v5 =>
(bW v5
(gcV h Q (.bool true) h2)
(oW (binN .rem a1 (.int .u8 5)) fun v6 =>
(oW (cvI .i64 v6) fun v7 =>
(callW Try.prog (fn F_homographlaw28_forest) [a0, v7] h2 fun v8 h9 =>
(oW (lenS v8) fun v10 =>
(oW (binN .gtr v10 (.int .i64 20)) fun v11 =>
(bW v11
(gcV h Q (.bool true) h9)
(callW Try.prog (fn F_homographlaw28_made) [a0] h9 fun v12 h13 =>
(letH (h13 ++ [.row [(.slice none 0 0), (.int .i64 0), (.slice none 0 0), (.slice none 0 0), (.int .i64 0)] .exact]) fun h14 =>
(sW (stW 5 h14 (.pointer (some ⟨h13.length, 0, none⟩)) v12) fun h15 =>
(callW Try.prog (fn F_homographref16_Make) [a0] h15 fun v16 h17 =>
(letH (h17 ++ [.row [(.slice none 0 0), (.int .i64 0), (.slice none 0 0), (.slice none 0 0), (.int .i64 0)] .exact]) fun h18 =>
(sW (stW 5 h18 (.pointer (some ⟨h17.length, 0, none⟩)) v16) fun h19 =>
(oW (ldW true 5 h19 (.pointer (some ⟨h13.length, 0, none⟩))) fun v20 =>
(callW Try.prog (fn F_count_Loops) [v20, v8] h19 fun v21 h22 =>
(∃ (I23 : Nat → List Value → Heap → Prop) (k24 : Nat), gcL h (I23 k24) [v8, (.pointer (some ⟨h13.length, 0, none⟩)), (.pointer (some ⟨h17.length, 0, none⟩)), v21, (.bool false), (.int .i64 0)] h22 ∧
∀ k26 : Nat, ∀ x27 : Value, ∀ x28 : Value, ∀ x29 : Value, ∀ x30 : Value, ∀ x31 : Value, ∀ x32 : Value, ∀ h33, I23 k26 [x27, x28, x29, x30, x31, x32] h33 →
(oW (lenS x27) fun v34 =>
(oW (binN .lss x32 v34) fun v35 =>
(bW v35
(oW (ldW true 5 h33 x28) fun v36 =>
(callW Try.prog (fn F_count_Trees) [v36, x27, x32] h33 fun v37 h38 =>
(oW (extractA v37 0) fun v39 =>
(oW (extractA v37 1) fun v40 =>
(oW (ldW true 5 h38 x29) fun v41 =>
(callW Try.prog (fn F_homographref28_Trees) [v41, x27, x32] h38 fun v42 h43 =>
(oW (extractA v42 0) fun v44 =>
(oW (extractA v42 1) fun v45 =>
(oW (binN .neq v39 v44) fun v46 =>
(bW v46
(bW (.bool true)
(gcV h Q (.bool false) h43)
(bW x31
(oW (binN .add x32 (.int .i64 1)) fun v47 =>
(∃ m25, m25 < k26 ∧ gcL h (I23 m25) [x27, x28, x29, x30, (.bool true), v47] h43))
(oW (iaS 1 x30 x32) fun v48 =>
(oW (ldW false 1 h43 v48) fun v49 =>
(oW (binN .add x32 (.int .i64 1)) fun v50 =>
(∃ m25, m25 < k26 ∧ gcL h (I23 m25) [x27, x28, x29, x30, v49, v50] h43))))))
(oW (neB v40 v45) fun v51 =>
(bW v51
(bW (.bool true)
(gcV h Q (.bool false) h43)
(bW x31
(oW (binN .add x32 (.int .i64 1)) fun v52 =>
(∃ m25, m25 < k26 ∧ gcL h (I23 m25) [x27, x28, x29, x30, (.bool true), v52] h43))
(oW (iaS 1 x30 x32) fun v53 =>
(oW (ldW false 1 h43 v53) fun v54 =>
(oW (binN .add x32 (.int .i64 1)) fun v55 =>
(∃ m25, m25 < k26 ∧ gcL h (I23 m25) [x27, x28, x29, x30, v54, v55] h43))))))
(oW (unA .not v40) fun v56 =>
(bW v56
(oW (binN .lss v39 (.int .i64 1)) fun v57 =>
(bW v57
(bW (.bool true)
(gcV h Q (.bool false) h43)
(bW x31
(oW (binN .add x32 (.int .i64 1)) fun v58 =>
(∃ m25, m25 < k26 ∧ gcL h (I23 m25) [x27, x28, x29, x30, (.bool true), v58] h43))
(oW (iaS 1 x30 x32) fun v59 =>
(oW (ldW false 1 h43 v59) fun v60 =>
(oW (binN .add x32 (.int .i64 1)) fun v61 =>
(∃ m25, m25 < k26 ∧ gcL h (I23 m25) [x27, x28, x29, x30, v60, v61] h43))))))
(oW (iaS 1 x30 x32) fun v62 =>
(oW (ldW false 1 h43 v62) fun v63 =>
(bW v63
(oW (unA .not v40) fun v64 =>
(bW v64
(bW (.bool true)
(gcV h Q (.bool false) h43)
(bW x31
(oW (binN .add x32 (.int .i64 1)) fun v65 =>
(∃ m25, m25 < k26 ∧ gcL h (I23 m25) [x27, x28, x29, x30, (.bool true), v65] h43))
(oW (iaS 1 x30 x32) fun v66 =>
(oW (ldW false 1 h43 v66) fun v67 =>
(oW (binN .add x32 (.int .i64 1)) fun v68 =>
(∃ m25, m25 < k26 ∧ gcL h (I23 m25) [x27, x28, x29, x30, v67, v68] h43))))))
(oW (ldW true 5 h43 x28) fun v69 =>
(callW Try.prog (fn F_count_Least) [v69, x27, x32] h43 fun v70 h71 =>
(oW (binN .lss v70 (.int .i64 1)) fun v72 =>
(bW v72
(gcV h Q (.bool false) h71)
(bW x31
(oW (binN .add x32 (.int .i64 1)) fun v73 =>
(∃ m25, m25 < k26 ∧ gcL h (I23 m25) [x27, x28, x29, x30, (.bool true), v73] h71))
(oW (iaS 1 x30 x32) fun v74 =>
(oW (ldW false 1 h71 v74) fun v75 =>
(oW (binN .add x32 (.int .i64 1)) fun v76 =>
(∃ m25, m25 < k26 ∧ gcL h (I23 m25) [x27, x28, x29, x30, v75, v76] h71)))))))))))
(bW (.bool false)
(bW (.bool true)
(gcV h Q (.bool false) h43)
(bW x31
(oW (binN .add x32 (.int .i64 1)) fun v77 =>
(∃ m25, m25 < k26 ∧ gcL h (I23 m25) [x27, x28, x29, x30, (.bool true), v77] h43))
(oW (iaS 1 x30 x32) fun v78 =>
(oW (ldW false 1 h43 v78) fun v79 =>
(oW (binN .add x32 (.int .i64 1)) fun v80 =>
(∃ m25, m25 < k26 ∧ gcL h (I23 m25) [x27, x28, x29, x30, v79, v80] h43))))))
(oW (ldW true 5 h43 x28) fun v81 =>
(callW Try.prog (fn F_count_Least) [v81, x27, x32] h43 fun v82 h83 =>
(oW (binN .lss v82 (.int .i64 1)) fun v84 =>
(bW v84
(gcV h Q (.bool false) h83)
(bW x31
(oW (binN .add x32 (.int .i64 1)) fun v85 =>
(∃ m25, m25 < k26 ∧ gcL h (I23 m25) [x27, x28, x29, x30, (.bool true), v85] h83))
(oW (iaS 1 x30 x32) fun v86 =>
(oW (ldW false 1 h83 v86) fun v87 =>
(oW (binN .add x32 (.int .i64 1)) fun v88 =>
(∃ m25, m25 < k26 ∧ gcL h (I23 m25) [x27, x28, x29, x30, v87, v88] h83)))))))))))))))
(bW (.bool false)
(bW (.bool true)
(gcV h Q (.bool false) h43)
(bW x31
(oW (binN .add x32 (.int .i64 1)) fun v89 =>
(∃ m25, m25 < k26 ∧ gcL h (I23 m25) [x27, x28, x29, x30, (.bool true), v89] h43))
(oW (iaS 1 x30 x32) fun v90 =>
(oW (ldW false 1 h43 v90) fun v91 =>
(oW (binN .add x32 (.int .i64 1)) fun v92 =>
(∃ m25, m25 < k26 ∧ gcL h (I23 m25) [x27, x28, x29, x30, v91, v92] h43))))))
(oW (iaS 1 x30 x32) fun v93 =>
(oW (ldW false 1 h43 v93) fun v94 =>
(bW v94
(oW (unA .not v40) fun v95 =>
(bW v95
(bW (.bool true)
(gcV h Q (.bool false) h43)
(bW x31
(oW (binN .add x32 (.int .i64 1)) fun v96 =>
(∃ m25, m25 < k26 ∧ gcL h (I23 m25) [x27, x28, x29, x30, (.bool true), v96] h43))
(oW (iaS 1 x30 x32) fun v97 =>
(oW (ldW false 1 h43 v97) fun v98 =>
(oW (binN .add x32 (.int .i64 1)) fun v99 =>
(∃ m25, m25 < k26 ∧ gcL h (I23 m25) [x27, x28, x29, x30, v98, v99] h43))))))
(oW (ldW true 5 h43 x28) fun v100 =>
(callW Try.prog (fn F_count_Least) [v100, x27, x32] h43 fun v101 h102 =>
(oW (binN .lss v101 (.int .i64 1)) fun v103 =>
(bW v103
(gcV h Q (.bool false) h102)
(bW x31
(oW (binN .add x32 (.int .i64 1)) fun v104 =>
(∃ m25, m25 < k26 ∧ gcL h (I23 m25) [x27, x28, x29, x30, (.bool true), v104] h102))
(oW (iaS 1 x30 x32) fun v105 =>
(oW (ldW false 1 h102 v105) fun v106 =>
(oW (binN .add x32 (.int .i64 1)) fun v107 =>
(∃ m25, m25 < k26 ∧ gcL h (I23 m25) [x27, x28, x29, x30, v106, v107] h102)))))))))))
(bW (.bool false)
(bW (.bool true)
(gcV h Q (.bool false) h43)
(bW x31
(oW (binN .add x32 (.int .i64 1)) fun v108 =>
(∃ m25, m25 < k26 ∧ gcL h (I23 m25) [x27, x28, x29, x30, (.bool true), v108] h43))
(oW (iaS 1 x30 x32) fun v109 =>
(oW (ldW false 1 h43 v109) fun v110 =>
(oW (binN .add x32 (.int .i64 1)) fun v111 =>
(∃ m25, m25 < k26 ∧ gcL h (I23 m25) [x27, x28, x29, x30, v110, v111] h43))))))
(oW (ldW true 5 h43 x28) fun v112 =>
(callW Try.prog (fn F_count_Least) [v112, x27, x32] h43 fun v113 h114 =>
(oW (binN .lss v113 (.int .i64 1)) fun v115 =>
(bW v115
(gcV h Q (.bool false) h114)
(bW x31
(oW (binN .add x32 (.int .i64 1)) fun v116 =>
(∃ m25, m25 < k26 ∧ gcL h (I23 m25) [x27, x28, x29, x30, (.bool true), v116] h114))
(oW (iaS 1 x30 x32) fun v117 =>
(oW (ldW false 1 h114 v117) fun v118 =>
(oW (binN .add x32 (.int .i64 1)) fun v119 =>
(∃ m25, m25 < k26 ∧ gcL h (I23 m25) [x27, x28, x29, x30, v118, v119] h114))))))))))))))))))))))))))))
(oW (ldW true 5 h33 x28) fun v120 =>
(callW Try.prog (fn F_count_Cycle) [v120, x27] h33 fun v121 h122 =>
(oW (lenS v121) fun v123 =>
(oW (binN .gtr v123 (.int .i64 0)) fun v124 =>
(oW (eqB x31 v124) fun v125 =>
(gcV h Q v125 h122))))))))))))))))))))))))))))))
theorem W_homographlaw28_CountForest_eq (a0 a1 : Value) (h : Heap) (Q : Value → Heap → Prop) : fW Try.prog ⟨[(14, [6, 7, 8, 9, 10, 11])], []⟩ Try.f3 [a0, a1] h Q = W_homographlaw28_CountForest a0 a1 h Q := by kernel_rfl
theorem W_homographlaw28_CountForest_ok {a0 a1 : Value} {h : Heap} {Q : Value → Heap → Prop} (e : W_homographlaw28_CountForest a0 a1 h Q) : acall Try.prog F_homographlaw28_CountForest [a0, a1] h Q :=
  by refine acall_of_fW mixed ⟨[(14, [6, 7, 8, 9, 10, 11])], []⟩ Try.func3 (by kernel_rfl) ?_; rw [W_homographlaw28_CountForest_eq]; exact e

/-- homograph/homographlaw28.CountBinary: loops {}; joins {} -/
def W_homographlaw28_CountBinary (a0 : Value) (h : Heap) (Q : Value → Heap → Prop) : Prop :=
(callW Try.prog (fn F_homographlaw28_awake) [] h fun v1 h2 =>
(oW (unA .not v1) fun v3 =>
(bW v3
(gcV h Q (.bool false) h2)
(oW (binN .rem a0 (.int .u8 7)) fun v4 =>
(oW (cvI .i64 v4) fun v5 =>
(oW (binN .add v5 (.int .i64 1)) fun v6 =>
(callW Try.prog (fn F_homographlaw28_two) [] h2 fun v7 h8 =>
(callW Try.prog (fn F_homographlaw28_forest) [v7, v6] h8 fun v9 h10 =>
(callW Try.prog (fn F_homographlaw28_two) [] h10 fun v11 h12 =>
(callW Try.prog (fn F_homographlaw28_made) [v11] h12 fun v13 h14 =>
(letH (h14 ++ [.row [(.slice none 0 0), (.int .i64 0), (.slice none 0 0), (.slice none 0 0), (.int .i64 0)] .exact]) fun h15 =>
(sW (stW 5 h15 (.pointer (some ⟨h14.length, 0, none⟩)) v13) fun h16 =>
(callW Try.prog (fn F_homographref27_Find) [v9, (.int .i64 2), (.int .i64 0), v6] h16 fun v17 h18 =>
(hW (bslW h18 7 [(.int .i64 0), (.int .i64 0), (.int .i64 0), (.int .i64 0), (.int .i64 0), (.int .i64 0), (.int .i64 0)] [(0, 1, (.int .i64 1)), (1, 1, (.int .i64 1)), (2, 1, (.int .i64 2)), (3, 1, (.int .i64 5)), (4, 1, (.int .i64 14)), (5, 1, (.int .i64 42)), (6, 1, (.int .i64 132))]) fun v19 h20 =>
(oW (ldW true 5 h20 (.pointer (some ⟨h14.length, 0, none⟩))) fun v21 =>
(callW Try.prog (fn F_count_Trees) [v21, v9, v17] h20 fun v22 h23 =>
(oW (extractA v22 0) fun v24 =>
(oW (extractA v22 1) fun v25 =>
(oW (ldW true 5 h23 (.pointer (some ⟨h14.length, 0, none⟩))) fun v26 =>
(callW Try.prog (fn F_count_Sizes) [v26, v9, v17, (.int .i64 30)] h23 fun v27 h28 =>
(oW (binN .sub v6 (.int .i64 1)) fun v29 =>
(oW (iaS 1 v19 v29) fun v30 =>
(oW (ldW false 1 h28 v30) fun v31 =>
(oW (binN .eql v24 v31) fun v32 =>
(bW v32
(oW (unA .not v25) fun v33 =>
(bW v33
(oW (lenS v27) fun v34 =>
(oW (binN .eql v34 (.int .i64 31)) fun v35 =>
(bW v35
(oW (binN .mul (.int .i64 3) v6) fun v36 =>
(oW (binN .sub v36 (.int .i64 1)) fun v37 =>
(oW (iaS 1 v27 v37) fun v38 =>
(oW (ldW false 1 h28 v38) fun v39 =>
(oW (binN .eql v39 v24) fun v40 =>
(bW v40
(oW (ldW true 5 h28 (.pointer (some ⟨h14.length, 0, none⟩))) fun v41 =>
(callW Try.prog (fn F_count_Least) [v41, v9, v17] h28 fun v42 h43 =>
(oW (binN .mul (.int .i64 3) v6) fun v44 =>
(oW (binN .sub v44 (.int .i64 1)) fun v45 =>
(oW (binN .eql v42 v45) fun v46 =>
(gcV h Q v46 h43))))))
(gcV h Q (.bool false) h28)))))))
(gcV h Q (.bool false) h28))))
(gcV h Q (.bool false) h28)))
(gcV h Q (.bool false) h28))))))))))))))))))))))))))
theorem W_homographlaw28_CountBinary_eq (a0 : Value) (h : Heap) (Q : Value → Heap → Prop) : fW Try.prog ⟨[], []⟩ Try.f4 [a0] h Q = W_homographlaw28_CountBinary a0 h Q := by kernel_rfl
theorem W_homographlaw28_CountBinary_ok {a0 : Value} {h : Heap} {Q : Value → Heap → Prop} (e : W_homographlaw28_CountBinary a0 h Q) : acall Try.prog F_homographlaw28_CountBinary [a0] h Q :=
  by refine acall_of_fW mixed ⟨[], []⟩ Try.func4 (by kernel_rfl) ?_; rw [W_homographlaw28_CountBinary_eq]; exact e

/-- homograph/homographlaw28.CountSums: loops {18: [6, 7, 8, 9, 10, 11, 12, 13, 14], 11: [6, 7, 8]}; joins {} -/
def W_homographlaw28_CountSums (a0 a1 : Value) (h : Heap) (Q : Value → Heap → Prop) : Prop :=
(callW Try.prog (fn F_homographlaw28_awake) [] h fun v1 h2 =>
(oW (unA .not v1) fun v3 =>
(bW v3
(gcV h Q (.bool false) h2)
(oW (lenStr a0) fun v4 =>
(oW (binN .gtr v4 (.int .i64 24)) fun v5 =>
(bW v5
(gcV h Q (.bool true) h2)
(oW (binN .rem a1 (.int .u8 4)) fun v6 =>
(oW (cvI .i64 v6) fun v7 =>
(callW Try.prog (fn F_homographlaw28_forest) [a0, v7] h2 fun v8 h9 =>
(oW (lenS v8) fun v10 =>
(oW (binN .gtr v10 (.int .i64 14)) fun v11 =>
(bW v11
(gcV h Q (.bool true) h9)
(callW Try.prog (fn F_homographlaw28_made) [a0] h9 fun v12 h13 =>
(letH (h13 ++ [.row [(.slice none 0 0), (.int .i64 0), (.slice none 0 0), (.slice none 0 0), (.int .i64 0)] .exact]) fun h14 =>
(sW (stW 5 h14 (.pointer (some ⟨h13.length, 0, none⟩)) v12) fun h15 =>
(∃ (I16 : Nat → List Value → Heap → Prop) (k17 : Nat), gcL h (I16 k17) [v8, (.pointer (some ⟨h13.length, 0, none⟩)), (.int .i64 0)] h15 ∧
∀ k19 : Nat, ∀ x20 : Value, ∀ x21 : Value, ∀ x22 : Value, ∀ h23, I16 k19 [x20, x21, x22] h23 →
(oW (lenS x20) fun v24 =>
(oW (binN .lss x22 v24) fun v25 =>
(bW v25
(oW (ldW true 5 h23 x21) fun v26 =>
(callW Try.prog (fn F_count_Trees) [v26, x20, x22] h23 fun v27 h28 =>
(oW (extractA v27 0) fun v29 =>
(oW (extractA v27 1) fun v30 =>
(oW (ldW true 5 h28 x21) fun v31 =>
(callW Try.prog (fn F_count_Sizes) [v31, x20, x22, (.int .i64 60)] h28 fun v32 h33 =>
(∃ (I34 : Nat → List Value → Heap → Prop) (k35 : Nat), gcL h (I34 k35) [x20, x21, x22, v29, v30, v32, (.int .i64 0), (.int .i64 0), (.int .i64 0)] h33 ∧
∀ k37 : Nat, ∀ x38 : Value, ∀ x39 : Value, ∀ x40 : Value, ∀ x41 : Value, ∀ x42 : Value, ∀ x43 : Value, ∀ x44 : Value, ∀ x45 : Value, ∀ x46 : Value, ∀ h47, I34 k37 [x38, x39, x40, x41, x42, x43, x44, x45, x46] h47 →
(oW (lenS x43) fun v48 =>
(oW (binN .lss x46 v48) fun v49 =>
(bW v49
(oW (iaS 1 x43 x46) fun v50 =>
(oW (ldW false 1 h47 v50) fun v51 =>
(oW (binN .gtr v51 (.int .i64 0)) fun v52 =>
(bW v52
(oW (binN .eql x45 (.int .i64 0)) fun v53 =>
(bW v53
(oW (iaS 1 x43 x46) fun v54 =>
(oW (ldW false 1 h47 v54) fun v55 =>
(callW Try.prog (fn F_homographref28_Add) [x44, v55] h47 fun v56 h57 =>
(oW (binN .add x46 (.int .i64 1)) fun v58 =>
(∃ m36, m36 < k37 ∧ gcL h (I34 m36) [x38, x39, x40, x41, x42, x43, v56, x46, v58] h57)))))
(oW (iaS 1 x43 x46) fun v59 =>
(oW (ldW false 1 h47 v59) fun v60 =>
(callW Try.prog (fn F_homographref28_Add) [x44, v60] h47 fun v61 h62 =>
(oW (binN .add x46 (.int .i64 1)) fun v63 =>
(∃ m36, m36 < k37 ∧ gcL h (I34 m36) [x38, x39, x40, x41, x42, x43, v61, x45, v63] h62)))))))
(bW (.bool false)
(oW (iaS 1 x43 x46) fun v64 =>
(oW (ldW false 1 h47 v64) fun v65 =>
(callW Try.prog (fn F_homographref28_Add) [x44, v65] h47 fun v66 h67 =>
(oW (binN .add x46 (.int .i64 1)) fun v68 =>
(∃ m36, m36 < k37 ∧ gcL h (I34 m36) [x38, x39, x40, x41, x42, x43, v66, x46, v68] h67)))))
(oW (iaS 1 x43 x46) fun v69 =>
(oW (ldW false 1 h47 v69) fun v70 =>
(callW Try.prog (fn F_homographref28_Add) [x44, v70] h47 fun v71 h72 =>
(oW (binN .add x46 (.int .i64 1)) fun v73 =>
(∃ m36, m36 < k37 ∧ gcL h (I34 m36) [x38, x39, x40, x41, x42, x43, v71, x45, v73] h72))))))))))
(oW (unA .not x42) fun v74 =>
(bW v74
(oW (binN .gtr x44 x41) fun v75 =>
(bW v75
(bW (.bool true)
(gcV h Q (.bool false) h47)
(oW (binN .add x40 (.int .i64 1)) fun v76 =>
(∃ m18, m18 < k19 ∧ gcL h (I16 m18) [x38, x39, v76] h47)))
(oW (lenS x43) fun v77 =>
(oW (binN .neq v77 (.int .i64 61)) fun v78 =>
(bW v78
(bW (.bool true)
(gcV h Q (.bool false) h47)
(oW (binN .add x40 (.int .i64 1)) fun v79 =>
(∃ m18, m18 < k19 ∧ gcL h (I16 m18) [x38, x39, v79] h47)))
(oW (binN .gtr x45 (.int .i64 0)) fun v80 =>
(bW v80
(oW (ldW true 5 h47 x39) fun v81 =>
(callW Try.prog (fn F_count_Least) [v81, x38, x40] h47 fun v82 h83 =>
(oW (binN .neq x45 v82) fun v84 =>
(bW v84
(bW (.bool true)
(gcV h Q (.bool false) h83)
(oW (binN .add x40 (.int .i64 1)) fun v85 =>
(∃ m18, m18 < k19 ∧ gcL h (I16 m18) [x38, x39, v85] h83)))
(oW (binN .eql x45 (.int .i64 0)) fun v86 =>
(bW v86
(oW (ldW true 5 h83 x39) fun v87 =>
(callW Try.prog (fn F_count_Least) [v87, x38, x40] h83 fun v88 h89 =>
(oW (binN .leq v88 (.int .i64 60)) fun v90 =>
(bW v90
(gcV h Q (.bool false) h89)
(oW (binN .add x40 (.int .i64 1)) fun v91 =>
(∃ m18, m18 < k19 ∧ gcL h (I16 m18) [x38, x39, v91] h89))))))
(bW (.bool false)
(gcV h Q (.bool false) h83)
(oW (binN .add x40 (.int .i64 1)) fun v92 =>
(∃ m18, m18 < k19 ∧ gcL h (I16 m18) [x38, x39, v92] h83)))))))))
(bW (.bool false)
(bW (.bool true)
(gcV h Q (.bool false) h47)
(oW (binN .add x40 (.int .i64 1)) fun v93 =>
(∃ m18, m18 < k19 ∧ gcL h (I16 m18) [x38, x39, v93] h47)))
(oW (binN .eql x45 (.int .i64 0)) fun v94 =>
(bW v94
(oW (ldW true 5 h47 x39) fun v95 =>
(callW Try.prog (fn F_count_Least) [v95, x38, x40] h47 fun v96 h97 =>
(oW (binN .leq v96 (.int .i64 60)) fun v98 =>
(bW v98
(gcV h Q (.bool false) h97)
(oW (binN .add x40 (.int .i64 1)) fun v99 =>
(∃ m18, m18 < k19 ∧ gcL h (I16 m18) [x38, x39, v99] h97))))))
(bW (.bool false)
(gcV h Q (.bool false) h47)
(oW (binN .add x40 (.int .i64 1)) fun v100 =>
(∃ m18, m18 < k19 ∧ gcL h (I16 m18) [x38, x39, v100] h47)))))))))))))
(oW (lenS x43) fun v101 =>
(oW (binN .neq v101 (.int .i64 61)) fun v102 =>
(bW v102
(bW (.bool true)
(gcV h Q (.bool false) h47)
(oW (binN .add x40 (.int .i64 1)) fun v103 =>
(∃ m18, m18 < k19 ∧ gcL h (I16 m18) [x38, x39, v103] h47)))
(oW (binN .gtr x45 (.int .i64 0)) fun v104 =>
(bW v104
(oW (ldW true 5 h47 x39) fun v105 =>
(callW Try.prog (fn F_count_Least) [v105, x38, x40] h47 fun v106 h107 =>
(oW (binN .neq x45 v106) fun v108 =>
(bW v108
(bW (.bool true)
(gcV h Q (.bool false) h107)
(oW (binN .add x40 (.int .i64 1)) fun v109 =>
(∃ m18, m18 < k19 ∧ gcL h (I16 m18) [x38, x39, v109] h107)))
(oW (binN .eql x45 (.int .i64 0)) fun v110 =>
(bW v110
(oW (ldW true 5 h107 x39) fun v111 =>
(callW Try.prog (fn F_count_Least) [v111, x38, x40] h107 fun v112 h113 =>
(oW (binN .leq v112 (.int .i64 60)) fun v114 =>
(bW v114
(gcV h Q (.bool false) h113)
(oW (binN .add x40 (.int .i64 1)) fun v115 =>
(∃ m18, m18 < k19 ∧ gcL h (I16 m18) [x38, x39, v115] h113))))))
(bW (.bool false)
(gcV h Q (.bool false) h107)
(oW (binN .add x40 (.int .i64 1)) fun v116 =>
(∃ m18, m18 < k19 ∧ gcL h (I16 m18) [x38, x39, v116] h107)))))))))
(bW (.bool false)
(bW (.bool true)
(gcV h Q (.bool false) h47)
(oW (binN .add x40 (.int .i64 1)) fun v117 =>
(∃ m18, m18 < k19 ∧ gcL h (I16 m18) [x38, x39, v117] h47)))
(oW (binN .eql x45 (.int .i64 0)) fun v118 =>
(bW v118
(oW (ldW true 5 h47 x39) fun v119 =>
(callW Try.prog (fn F_count_Least) [v119, x38, x40] h47 fun v120 h121 =>
(oW (binN .leq v120 (.int .i64 60)) fun v122 =>
(bW v122
(gcV h Q (.bool false) h121)
(oW (binN .add x40 (.int .i64 1)) fun v123 =>
(∃ m18, m18 < k19 ∧ gcL h (I16 m18) [x38, x39, v123] h121))))))
(bW (.bool false)
(gcV h Q (.bool false) h47)
(oW (binN .add x40 (.int .i64 1)) fun v124 =>
(∃ m18, m18 < k19 ∧ gcL h (I16 m18) [x38, x39, v124] h47)))))))))))))))))))))))
(gcV h Q (.bool true) h23))))))))))))))))))))
theorem W_homographlaw28_CountSums_eq (a0 a1 : Value) (h : Heap) (Q : Value → Heap → Prop) : fW Try.prog ⟨[(18, [6, 7, 8, 9, 10, 11, 12, 13, 14]), (11, [6, 7, 8])], []⟩ Try.f5 [a0, a1] h Q = W_homographlaw28_CountSums a0 a1 h Q := by kernel_rfl
theorem W_homographlaw28_CountSums_ok {a0 a1 : Value} {h : Heap} {Q : Value → Heap → Prop} (e : W_homographlaw28_CountSums a0 a1 h Q) : acall Try.prog F_homographlaw28_CountSums [a0, a1] h Q :=
  by refine acall_of_fW mixed ⟨[(18, [6, 7, 8, 9, 10, 11, 12, 13, 14]), (11, [6, 7, 8])], []⟩ Try.func5 (by kernel_rfl) ?_; rw [W_homographlaw28_CountSums_eq]; exact e

/-- homograph/homographlaw28.awake: loops {}; joins {} -/
def W_homographlaw28_awake (h : Heap) (Q : Value → Heap → Prop) : Prop :=
(callW Try.prog (fn F_homographlaw28_two) [] h fun v1 h2 =>
(callW Try.prog (fn F_homographlaw28_forest) [v1, (.int .i64 4)] h2 fun v3 h4 =>
(callW Try.prog (fn F_homographref27_Find) [v3, (.int .i64 2), (.int .i64 0), (.int .i64 4)] h4 fun v5 h6 =>
(callW Try.prog (fn F_homographlaw28_two) [] h6 fun v7 h8 =>
(callW Try.prog (fn F_homographlaw28_made) [v7] h8 fun v9 h10 =>
(callW Try.prog (fn F_count_Trees) [v9, v3, v5] h10 fun v11 h12 =>
(oW (extractA v11 0) fun v13 =>
(oW (extractA v11 1) fun v14 =>
(callW Try.prog (fn F_homographlaw28_forest) [(.string ⟨#[0, 1, 1, 2, 1, 0]⟩), (.int .i64 1)] h12 fun v15 h16 =>
(callW Try.prog (fn F_homographref27_Find) [v15, (.int .i64 2), (.int .i64 0), (.int .i64 1)] h16 fun v17 h18 =>
(callW Try.prog (fn F_homographlaw28_made) [(.string ⟨#[0, 1, 1, 2, 1, 0]⟩)] h18 fun v19 h20 =>
(callW Try.prog (fn F_count_Trees) [v19, v15, v17] h20 fun v21 h22 =>
(oW (extractA v21 0) fun v23 =>
(oW (extractA v21 1) fun v24 =>
(callW Try.prog (fn F_homographlaw28_two) [] h22 fun v25 h26 =>
(callW Try.prog (fn F_homographlaw28_made) [v25] h26 fun v27 h28 =>
(callW Try.prog (fn F_count_Sizes) [v27, v3, v5, (.int .i64 12)] h28 fun v29 h30 =>
(oW (binN .eql v13 (.int .i64 5)) fun v31 =>
(bW v31
(oW (unA .not v14) fun v32 =>
(bW v32
(bW v24
(oW (lenS v29) fun v33 =>
(oW (binN .eql v33 (.int .i64 13)) fun v34 =>
(bW v34
(oW (iaS 1 v29 (.int .i64 11)) fun v35 =>
(oW (ldW false 1 h30 v35) fun v36 =>
(oW (binN .eql v36 (.int .i64 5)) fun v37 =>
(bW v37
(oW (iaS 1 v29 (.int .i64 10)) fun v38 =>
(oW (ldW false 1 h30 v38) fun v39 =>
(oW (binN .eql v39 (.int .i64 0)) fun v40 =>
(bW v40
(callW Try.prog (fn F_homographlaw28_two) [] h30 fun v41 h42 =>
(callW Try.prog (fn F_homographlaw28_made) [v41] h42 fun v43 h44 =>
(callW Try.prog (fn F_count_Least) [v43, v3, v5] h44 fun v45 h46 =>
(oW (binN .eql v45 (.int .i64 11)) fun v47 =>
(bW v47
(callW Try.prog (fn F_homographlaw28_made) [(.string ⟨#[0, 1, 1, 2, 1, 0]⟩)] h46 fun v48 h49 =>
(callW Try.prog (fn F_count_Cycle) [v48, v15] h49 fun v50 h51 =>
(oW (lenS v50) fun v52 =>
(oW (binN .eql v52 (.int .i64 1)) fun v53 =>
(bW v53
(callW Try.prog (fn F_homographlaw28_two) [] h51 fun v54 h55 =>
(callW Try.prog (fn F_homographlaw28_made) [v54] h55 fun v56 h57 =>
(callW Try.prog (fn F_count_Cycle) [v56, v3] h57 fun v58 h59 =>
(oW (lenS v58) fun v60 =>
(oW (binN .eql v60 (.int .i64 0)) fun v61 =>
(bW v61
(callW Try.prog (fn F_homographlaw28_made) [(.string ⟨#[0, 1, 1, 2, 1, 0]⟩)] h59 fun v62 h63 =>
(callW Try.prog (fn F_count_Loops) [v62, v15] h63 fun v64 h65 =>
(oW (lenS v64) fun v66 =>
(oW (binN .eql v66 (.int .i64 2)) fun v67 =>
(bW v67
(callW Try.prog (fn F_homographlaw28_made) [(.string ⟨#[0, 1, 1, 2, 1, 0]⟩)] h65 fun v68 h69 =>
(callW Try.prog (fn F_count_Loops) [v68, v15] h69 fun v70 h71 =>
(oW (iaS 1 v70 v17) fun v72 =>
(oW (ldW false 1 h71 v72) fun v73 =>
(gcV h Q v73 h71)))))
(gcV h Q (.bool false) h65))))))
(gcV h Q (.bool false) h59)))))))
(gcV h Q (.bool false) h51))))))
(gcV h Q (.bool false) h46))))))
(gcV h Q (.bool false) h30)))))
(gcV h Q (.bool false) h30)))))
(gcV h Q (.bool false) h30))))
(gcV h Q (.bool false) h30))
(gcV h Q (.bool false) h30)))
(gcV h Q (.bool false) h30))))))))))))))))))))
theorem W_homographlaw28_awake_eq (h : Heap) (Q : Value → Heap → Prop) : fW Try.prog ⟨[], []⟩ Try.f6 [] h Q = W_homographlaw28_awake  h Q := by kernel_rfl
theorem W_homographlaw28_awake_ok {h : Heap} {Q : Value → Heap → Prop} (e : W_homographlaw28_awake  h Q) : acall Try.prog F_homographlaw28_awake [] h Q :=
  by refine acall_of_fW mixed ⟨[], []⟩ Try.func6 (by kernel_rfl) ?_; rw [W_homographlaw28_awake_eq]; exact e

/-- homograph/homographlaw28.forest: loops {}; joins {} -/
def W_homographlaw28_forest (a0 a1 : Value) (h : Heap) (Q : Value → Heap → Prop) : Prop :=
(callW Try.prog (fn F_homographref16_Make) [a0] h fun v1 h2 =>
(letH (h2 ++ [.row [(.slice none 0 0), (.int .i64 0), (.slice none 0 0), (.slice none 0 0), (.int .i64 0)] .exact]) fun h3 =>
(sW (stW 5 h3 (.pointer (some ⟨h2.length, 0, none⟩)) v1) fun h4 =>
(oW (ldW true 5 h4 (.pointer (some ⟨h2.length, 0, none⟩))) fun v5 =>
(oW (ldW true 5 h4 (.pointer (some ⟨h2.length, 0, none⟩))) fun v6 =>
(callW Try.prog (fn F_homographlaw28_line) [a1] h4 fun v7 h8 =>
(keptW [(.pointer (some ⟨h2.length, 0, none⟩)), (.pointer (some ⟨h2.length, 0, none⟩))] h4 h8 ∧
(callW Try.prog (fn F_homographlaw28_line) [a1] h8 fun v9 h10 =>
(keptW [(.pointer (some ⟨h2.length, 0, none⟩)), (.pointer (some ⟨h2.length, 0, none⟩))] h8 h10 ∧
(callW Try.prog (fn F_homographref26_All) [v6, v9] h10 fun v11 h12 =>
(keptW [(.pointer (some ⟨h2.length, 0, none⟩)), (.pointer (some ⟨h2.length, 0, none⟩))] h10 h12 ∧
(callW Try.prog (fn F_homographref27_Build) [v5, v7, v11, (.int .i64 10000)] h12 fun v13 h14 =>
(keptW [(.pointer (some ⟨h2.length, 0, none⟩)), (.pointer (some ⟨h2.length, 0, none⟩))] h12 h14 ∧
(oW (extractA v13 0) fun v15 =>
(oW (extractA v13 1) fun v16 =>
(gcV h Q v15 h14))))))))))))))))
theorem W_homographlaw28_forest_eq (a0 a1 : Value) (h : Heap) (Q : Value → Heap → Prop) : fW Try.prog ⟨[], []⟩ Try.f7 [a0, a1] h Q = W_homographlaw28_forest a0 a1 h Q := by kernel_rfl
theorem W_homographlaw28_forest_ok {a0 a1 : Value} {h : Heap} {Q : Value → Heap → Prop} (e : W_homographlaw28_forest a0 a1 h Q) : acall Try.prog F_homographlaw28_forest [a0, a1] h Q :=
  by refine acall_of_fW mixed ⟨[], []⟩ Try.func7 (by kernel_rfl) ?_; rw [W_homographlaw28_forest_eq]; exact e

/-- homograph/homographlaw28.made: loops {}; joins {} -/
def W_homographlaw28_made (a0 : Value) (h : Heap) (Q : Value → Heap → Prop) : Prop :=
(letH (h ++ [.row [(.slice none 0 0), (.int .i64 0), (.slice none 0 0), (.slice none 0 0), (.int .i64 0)] .exact]) fun h1 =>
(callW Try.prog (fn F_homographref16_Make) [a0] h1 fun v2 h3 =>
(letH (h3 ++ [.row [(.slice none 0 0), (.int .i64 0), (.slice none 0 0), (.slice none 0 0), (.int .i64 0)] .exact]) fun h4 =>
(sW (stW 5 h4 (.pointer (some ⟨h3.length, 0, none⟩)) v2) fun h5 =>
(oW (faW 0 1 (.pointer (some ⟨h3.length, 0, none⟩))) fun v6 =>
(oW (ldW false 1 h5 v6) fun v7 =>
(oW (faW 1 1 (.pointer (some ⟨h3.length, 0, none⟩))) fun v8 =>
(oW (ldW false 1 h5 v8) fun v9 =>
(oW (faW 2 1 (.pointer (some ⟨h3.length, 0, none⟩))) fun v10 =>
(oW (ldW false 1 h5 v10) fun v11 =>
(oW (faW 3 1 (.pointer (some ⟨h3.length, 0, none⟩))) fun v12 =>
(oW (ldW false 1 h5 v12) fun v13 =>
(oW (faW 4 1 (.pointer (some ⟨h3.length, 0, none⟩))) fun v14 =>
(oW (ldW false 1 h5 v14) fun v15 =>
(oW (bldW [(.slice none 0 0), (.int .i64 0), (.slice none 0 0), (.slice none 0 0), (.int .i64 0)] [(0, 1, v7), (1, 1, v9), (2, 1, v11), (3, 1, v13), (4, 1, v15)]) fun v16 =>
(sW (stW 5 h5 (.pointer (some ⟨h.length, 0, none⟩)) v16) fun h17 =>
(oW (ldP true 5 h17 (.pointer (some ⟨h.length, 0, none⟩))) fun v18 =>
(gcV h Q v18 h17))))))))))))))))))
theorem W_homographlaw28_made_eq (a0 : Value) (h : Heap) (Q : Value → Heap → Prop) : fW Try.prog ⟨[], []⟩ Try.f8 [a0] h Q = W_homographlaw28_made a0 h Q := by kernel_rfl
theorem W_homographlaw28_made_ok {a0 : Value} {h : Heap} {Q : Value → Heap → Prop} (e : W_homographlaw28_made a0 h Q) : acall Try.prog F_homographlaw28_made [a0] h Q :=
  by refine acall_of_fW mixed ⟨[], []⟩ Try.func8 (by kernel_rfl) ?_; rw [W_homographlaw28_made_eq]; exact e

/-- homograph/homographref16.Make: loops {25: [0, 2, 3, 4, 5, 6, 7, 8, 9, 10, 11], 17: [0, 2, 3, 4, 5, 6, 7, 8], 10: [0, 2, 3, 4, 5, 6]}; joins {7: [0, 2, 3, 4, 5]} -/
def W_homographref16_Make (a0 : Value) (h : Heap) (Q : Value → Heap → Prop) : Prop :=
(letH (h ++ [.row [(.slice none 0 0), (.int .i64 0), (.slice none 0 0), (.slice none 0 0), (.int .i64 0)] .exact]) fun h1 =>
(hW (bslW h1 2 [(.int .i64 0), (.int .i64 0)] [(0, 1, (.int .i64 0)), (1, 1, (.int .i64 1))]) fun v2 h3 =>
(hW (bslW h3 5 [(.string ⟨#[]⟩), (.string ⟨#[]⟩), (.string ⟨#[]⟩), (.string ⟨#[]⟩), (.string ⟨#[]⟩)] [(0, 1, (.string ⟨#[97]⟩)), (1, 1, (.string ⟨#[98]⟩)), (2, 1, (.string ⟨#[83]⟩)), (3, 1, (.string ⟨#[84]⟩)), (4, 1, (.string ⟨#[85]⟩))]) fun v4 h5 =>
(oW (bldW [(.slice none 0 0), (.int .i64 0), (.slice none 0 0), (.slice none 0 0), (.int .i64 0)] [(1, 1, (.int .i64 2)), (2, 1, v2), (0, 1, v4)]) fun v6 =>
(letH (h5 ++ [.row [(.slice none 0 0), (.int .i64 0), (.slice none 0 0), (.slice none 0 0), (.int .i64 0)] .exact]) fun h7 =>
(sW (stW 5 h7 (.pointer (some ⟨h5.length, 0, none⟩)) v6) fun h8 =>
(∃ M9 : List Value → Heap → Prop,
(oW (lenStr a0) fun v10 =>
(oW (binN .gtr v10 (.int .i64 0)) fun v11 =>
(bW v11
(oW (ixS a0 (.int .i64 0)) fun v12 =>
(oW (cvI .i64 v12) fun v13 =>
(oW (binN .rem v13 (.int .i64 3)) fun v14 =>
(oW (binN .add (.int .i64 1) v14) fun v15 =>
(gcL h M9 [a0, (.pointer (some ⟨h.length, 0, none⟩)), (.int .i64 1), (.pointer (some ⟨h5.length, 0, none⟩)), v15] h8)))))
(gcL h M9 [a0, (.pointer (some ⟨h.length, 0, none⟩)), (.int .i64 0), (.pointer (some ⟨h5.length, 0, none⟩)), (.int .i64 1)] h8)))) ∧
∀ x16 : Value, ∀ x17 : Value, ∀ x18 : Value, ∀ x19 : Value, ∀ x20 : Value, ∀ h21, M9 [x16, x17, x18, x19, x20] h21 →
(oW (faW 0 1 x19) fun v22 =>
(oW (ldW false 1 h21 v22) fun v23 =>
(oW (binN .add (.int .i64 2) x20) fun v24 =>
(oW (slS 1 h21 v23 none (some v24) none) fun v25 =>
(oW (faW 0 1 x19) fun v26 =>
(sW (stW 1 h21 v26 v25) fun h27 =>
(oW (faW 4 1 x19) fun v28 =>
(sW (stW 1 h27 v28 (.int .i64 2)) fun h29 =>
(∃ (I30 : Nat → List Value → Heap → Prop) (k31 : Nat), gcL h (I30 k31) [x16, x17, x18, x19, x20, (.int .i64 0)] h29 ∧
∀ k33 : Nat, ∀ x34 : Value, ∀ x35 : Value, ∀ x36 : Value, ∀ x37 : Value, ∀ x38 : Value, ∀ x39 : Value, ∀ h40, I30 k33 [x34, x35, x36, x37, x38, x39] h40 →
(oW (binN .lss x39 x38) fun v41 =>
(bW v41
(oW (lenStr x34) fun v42 =>
(oW (binN .lss x36 v42) fun v43 =>
(bW v43
(oW (ixS x34 x36) fun v44 =>
(oW (cvI .i64 v44) fun v45 =>
(oW (binN .rem v45 (.int .i64 3)) fun v46 =>
(oW (binN .add (.int .i64 1) v46) fun v47 =>
(oW (binN .add x36 (.int .i64 1)) fun v48 =>
(∃ (I49 : Nat → List Value → Heap → Prop) (k50 : Nat), gcL h (I49 k50) [x34, x35, v48, x37, x38, x39, v47, (.int .i64 0)] h40 ∧
∀ k52 : Nat, ∀ x53 : Value, ∀ x54 : Value, ∀ x55 : Value, ∀ x56 : Value, ∀ x57 : Value, ∀ x58 : Value, ∀ x59 : Value, ∀ x60 : Value, ∀ h61, I49 k52 [x53, x54, x55, x56, x57, x58, x59, x60] h61 →
(oW (binN .lss x60 x59) fun v62 =>
(bW v62
(oW (binN .add (.int .i64 2) x58) fun v63 =>
(hW (bslW h61 1 [(.int .i64 0)] [(0, 1, v63)]) fun v64 h65 =>
(oW (lenStr x53) fun v66 =>
(oW (binN .lss x55 v66) fun v67 =>
(bW v67
(oW (ixS x53 x55) fun v68 =>
(oW (cvI .i64 v68) fun v69 =>
(oW (binN .rem v69 (.int .i64 4)) fun v70 =>
(oW (binN .add x55 (.int .i64 1)) fun v71 =>
(∃ (I72 : Nat → List Value → Heap → Prop) (k73 : Nat), gcL h (I72 k73) [x53, x54, v71, x56, x57, x58, x59, x60, v64, v70, (.int .i64 0)] h65 ∧
∀ k75 : Nat, ∀ x76 : Value, ∀ x77 : Value, ∀ x78 : Value, ∀ x79 : Value, ∀ x80 : Value, ∀ x81 : Value, ∀ x82 : Value, ∀ x83 : Value, ∀ x84 : Value, ∀ x85 : Value, ∀ x86 : Value, ∀ h87, I72 k75 [x76, x77, x78, x79, x80, x81, x82, x83, x84, x85, x86] h87 →
(oW (binN .lss x86 x85) fun v88 =>
(bW v88
(oW (lenStr x76) fun v89 =>
(oW (binN .lss x78 v89) fun v90 =>
(bW v90
(oW (ixS x76 x78) fun v91 =>
(oW (cvI .i64 v91) fun v92 =>
(oW (binN .add (.int .i64 2) x80) fun v93 =>
(oW (binN .rem v92 v93) fun v94 =>
(oW (binN .add x78 (.int .i64 1)) fun v95 =>
(hW (bslW h87 1 [(.int .i64 0)] [(0, 1, v94)]) fun v96 h97 =>
(hW (apW 1 8 h97 x84 v96) fun v98 h99 =>
(oW (binN .add x86 (.int .i64 1)) fun v100 =>
(∃ m74, m74 < k75 ∧ gcL h (I72 m74) [x76, x77, v95, x79, x80, x81, x82, x83, v98, x85, v100] h99)))))))))
(hW (bslW h87 1 [(.int .i64 0)] [(0, 1, (.int .i64 0))]) fun v101 h102 =>
(hW (apW 1 8 h102 x84 v101) fun v103 h104 =>
(oW (binN .add x86 (.int .i64 1)) fun v105 =>
(∃ m74, m74 < k75 ∧ gcL h (I72 m74) [x76, x77, x78, x79, x80, x81, x82, x83, v103, x85, v105] h104)))))))
(oW (faW 3 1 x79) fun v106 =>
(oW (ldW false 1 h87 v106) fun v107 =>
(hW (bslW h87 1 [(.slice none 0 0)] [(0, 1, x84)]) fun v108 h109 =>
(hW (apW 1 24 h109 v107 v108) fun v110 h111 =>
(oW (faW 3 1 x79) fun v112 =>
(sW (stW 1 h111 v112 v110) fun h113 =>
(oW (binN .add x83 (.int .i64 1)) fun v114 =>
(∃ m51, m51 < k52 ∧ gcL h (I49 m51) [x76, x77, x78, x79, x80, x81, x82, v114] h113)))))))))))))))
(∃ (I115 : Nat → List Value → Heap → Prop) (k116 : Nat), gcL h (I115 k116) [x53, x54, x55, x56, x57, x58, x59, x60, v64, (.int .i64 1), (.int .i64 0)] h65 ∧
∀ k118 : Nat, ∀ x119 : Value, ∀ x120 : Value, ∀ x121 : Value, ∀ x122 : Value, ∀ x123 : Value, ∀ x124 : Value, ∀ x125 : Value, ∀ x126 : Value, ∀ x127 : Value, ∀ x128 : Value, ∀ x129 : Value, ∀ h130, I115 k118 [x119, x120, x121, x122, x123, x124, x125, x126, x127, x128, x129] h130 →
(oW (binN .lss x129 x128) fun v131 =>
(bW v131
(oW (lenStr x119) fun v132 =>
(oW (binN .lss x121 v132) fun v133 =>
(bW v133
(oW (ixS x119 x121) fun v134 =>
(oW (cvI .i64 v134) fun v135 =>
(oW (binN .add (.int .i64 2) x123) fun v136 =>
(oW (binN .rem v135 v136) fun v137 =>
(oW (binN .add x121 (.int .i64 1)) fun v138 =>
(hW (bslW h130 1 [(.int .i64 0)] [(0, 1, v137)]) fun v139 h140 =>
(hW (apW 1 8 h140 x127 v139) fun v141 h142 =>
(oW (binN .add x129 (.int .i64 1)) fun v143 =>
(∃ m117, m117 < k118 ∧ gcL h (I115 m117) [x119, x120, v138, x122, x123, x124, x125, x126, v141, x128, v143] h142)))))))))
(hW (bslW h130 1 [(.int .i64 0)] [(0, 1, (.int .i64 0))]) fun v144 h145 =>
(hW (apW 1 8 h145 x127 v144) fun v146 h147 =>
(oW (binN .add x129 (.int .i64 1)) fun v148 =>
(∃ m117, m117 < k118 ∧ gcL h (I115 m117) [x119, x120, x121, x122, x123, x124, x125, x126, v146, x128, v148] h147)))))))
(oW (faW 3 1 x122) fun v149 =>
(oW (ldW false 1 h130 v149) fun v150 =>
(hW (bslW h130 1 [(.slice none 0 0)] [(0, 1, x127)]) fun v151 h152 =>
(hW (apW 1 24 h152 v150 v151) fun v153 h154 =>
(oW (faW 3 1 x122) fun v155 =>
(sW (stW 1 h154 v155 v153) fun h156 =>
(oW (binN .add x126 (.int .i64 1)) fun v157 =>
(∃ m51, m51 < k52 ∧ gcL h (I49 m51) [x119, x120, x121, x122, x123, x124, x125, v157] h156))))))))))))))))
(oW (binN .add x58 (.int .i64 1)) fun v158 =>
(∃ m32, m32 < k33 ∧ gcL h (I30 m32) [x53, x54, x55, x56, x57, v158] h61))))))))))
(∃ (I159 : Nat → List Value → Heap → Prop) (k160 : Nat), gcL h (I159 k160) [x34, x35, x36, x37, x38, x39, (.int .i64 1), (.int .i64 0)] h40 ∧
∀ k162 : Nat, ∀ x163 : Value, ∀ x164 : Value, ∀ x165 : Value, ∀ x166 : Value, ∀ x167 : Value, ∀ x168 : Value, ∀ x169 : Value, ∀ x170 : Value, ∀ h171, I159 k162 [x163, x164, x165, x166, x167, x168, x169, x170] h171 →
(oW (binN .lss x170 x169) fun v172 =>
(bW v172
(oW (binN .add (.int .i64 2) x168) fun v173 =>
(hW (bslW h171 1 [(.int .i64 0)] [(0, 1, v173)]) fun v174 h175 =>
(oW (lenStr x163) fun v176 =>
(oW (binN .lss x165 v176) fun v177 =>
(bW v177
(oW (ixS x163 x165) fun v178 =>
(oW (cvI .i64 v178) fun v179 =>
(oW (binN .rem v179 (.int .i64 4)) fun v180 =>
(oW (binN .add x165 (.int .i64 1)) fun v181 =>
(∃ (I182 : Nat → List Value → Heap → Prop) (k183 : Nat), gcL h (I182 k183) [x163, x164, v181, x166, x167, x168, x169, x170, v174, v180, (.int .i64 0)] h175 ∧
∀ k185 : Nat, ∀ x186 : Value, ∀ x187 : Value, ∀ x188 : Value, ∀ x189 : Value, ∀ x190 : Value, ∀ x191 : Value, ∀ x192 : Value, ∀ x193 : Value, ∀ x194 : Value, ∀ x195 : Value, ∀ x196 : Value, ∀ h197, I182 k185 [x186, x187, x188, x189, x190, x191, x192, x193, x194, x195, x196] h197 →
(oW (binN .lss x196 x195) fun v198 =>
(bW v198
(oW (lenStr x186) fun v199 =>
(oW (binN .lss x188 v199) fun v200 =>
(bW v200
(oW (ixS x186 x188) fun v201 =>
(oW (cvI .i64 v201) fun v202 =>
(oW (binN .add (.int .i64 2) x190) fun v203 =>
(oW (binN .rem v202 v203) fun v204 =>
(oW (binN .add x188 (.int .i64 1)) fun v205 =>
(hW (bslW h197 1 [(.int .i64 0)] [(0, 1, v204)]) fun v206 h207 =>
(hW (apW 1 8 h207 x194 v206) fun v208 h209 =>
(oW (binN .add x196 (.int .i64 1)) fun v210 =>
(∃ m184, m184 < k185 ∧ gcL h (I182 m184) [x186, x187, v205, x189, x190, x191, x192, x193, v208, x195, v210] h209)))))))))
(hW (bslW h197 1 [(.int .i64 0)] [(0, 1, (.int .i64 0))]) fun v211 h212 =>
(hW (apW 1 8 h212 x194 v211) fun v213 h214 =>
(oW (binN .add x196 (.int .i64 1)) fun v215 =>
(∃ m184, m184 < k185 ∧ gcL h (I182 m184) [x186, x187, x188, x189, x190, x191, x192, x193, v213, x195, v215] h214)))))))
(oW (faW 3 1 x189) fun v216 =>
(oW (ldW false 1 h197 v216) fun v217 =>
(hW (bslW h197 1 [(.slice none 0 0)] [(0, 1, x194)]) fun v218 h219 =>
(hW (apW 1 24 h219 v217 v218) fun v220 h221 =>
(oW (faW 3 1 x189) fun v222 =>
(sW (stW 1 h221 v222 v220) fun h223 =>
(oW (binN .add x193 (.int .i64 1)) fun v224 =>
(∃ m161, m161 < k162 ∧ gcL h (I159 m161) [x186, x187, x188, x189, x190, x191, x192, v224] h223)))))))))))))))
(∃ (I225 : Nat → List Value → Heap → Prop) (k226 : Nat), gcL h (I225 k226) [x163, x164, x165, x166, x167, x168, x169, x170, v174, (.int .i64 1), (.int .i64 0)] h175 ∧
∀ k228 : Nat, ∀ x229 : Value, ∀ x230 : Value, ∀ x231 : Value, ∀ x232 : Value, ∀ x233 : Value, ∀ x234 : Value, ∀ x235 : Value, ∀ x236 : Value, ∀ x237 : Value, ∀ x238 : Value, ∀ x239 : Value, ∀ h240, I225 k228 [x229, x230, x231, x232, x233, x234, x235, x236, x237, x238, x239] h240 →
(oW (binN .lss x239 x238) fun v241 =>
(bW v241
(oW (lenStr x229) fun v242 =>
(oW (binN .lss x231 v242) fun v243 =>
(bW v243
(oW (ixS x229 x231) fun v244 =>
(oW (cvI .i64 v244) fun v245 =>
(oW (binN .add (.int .i64 2) x233) fun v246 =>
(oW (binN .rem v245 v246) fun v247 =>
(oW (binN .add x231 (.int .i64 1)) fun v248 =>
(hW (bslW h240 1 [(.int .i64 0)] [(0, 1, v247)]) fun v249 h250 =>
(hW (apW 1 8 h250 x237 v249) fun v251 h252 =>
(oW (binN .add x239 (.int .i64 1)) fun v253 =>
(∃ m227, m227 < k228 ∧ gcL h (I225 m227) [x229, x230, v248, x232, x233, x234, x235, x236, v251, x238, v253] h252)))))))))
(hW (bslW h240 1 [(.int .i64 0)] [(0, 1, (.int .i64 0))]) fun v254 h255 =>
(hW (apW 1 8 h255 x237 v254) fun v256 h257 =>
(oW (binN .add x239 (.int .i64 1)) fun v258 =>
(∃ m227, m227 < k228 ∧ gcL h (I225 m227) [x229, x230, x231, x232, x233, x234, x235, x236, v256, x238, v258] h257)))))))
(oW (faW 3 1 x232) fun v259 =>
(oW (ldW false 1 h240 v259) fun v260 =>
(hW (bslW h240 1 [(.slice none 0 0)] [(0, 1, x237)]) fun v261 h262 =>
(hW (apW 1 24 h262 v260 v261) fun v263 h264 =>
(oW (faW 3 1 x232) fun v265 =>
(sW (stW 1 h264 v265 v263) fun h266 =>
(oW (binN .add x236 (.int .i64 1)) fun v267 =>
(∃ m161, m161 < k162 ∧ gcL h (I159 m161) [x229, x230, x231, x232, x233, x234, x235, v267] h266))))))))))))))))
(oW (binN .add x168 (.int .i64 1)) fun v268 =>
(∃ m32, m32 < k33 ∧ gcL h (I30 m32) [x163, x164, x165, x166, x167, v268] h171))))))))
(oW (ldW true 5 h40 x37) fun v269 =>
(sW (stW 5 h40 x35 v269) fun h270 =>
(oW (ldP true 5 h270 x35) fun v271 =>
(gcV h Q v271 h270))))))))))))))))))))))
theorem W_homographref16_Make_eq (a0 : Value) (h : Heap) (Q : Value → Heap → Prop) : fW Try.prog ⟨[(25, [0, 2, 3, 4, 5, 6, 7, 8, 9, 10, 11]), (17, [0, 2, 3, 4, 5, 6, 7, 8]), (10, [0, 2, 3, 4, 5, 6])], [(7, [0, 2, 3, 4, 5])]⟩ Try.f9 [a0] h Q = W_homographref16_Make a0 h Q := by kernel_rfl
theorem W_homographref16_Make_ok {a0 : Value} {h : Heap} {Q : Value → Heap → Prop} (e : W_homographref16_Make a0 h Q) : acall Try.prog F_homographref16_Make [a0] h Q :=
  by refine acall_of_fW mixed ⟨[(25, [0, 2, 3, 4, 5, 6, 7, 8, 9, 10, 11]), (17, [0, 2, 3, 4, 5, 6, 7, 8]), (10, [0, 2, 3, 4, 5, 6])], [(7, [0, 2, 3, 4, 5])]⟩ Try.func9 (by kernel_rfl) ?_; rw [W_homographref16_Make_eq]; exact e

/-- homograph/count.Loops: loops {4: [5, 6, 13, 14]}; joins {} -/
def W_count_Loops (a0 a1 : Value) (h : Heap) (Q : Value → Heap → Prop) : Prop :=
(hW (boxA h a0) fun v1 h2 =>
(oW (ldW true 5 h2 v1) fun v3 =>
(callW Try.prog (fn F_count_of) [v3, a1] h2 fun v4 h5 =>
(callW Try.prog (fn F_count_knots_steps) [v4] h5 fun v6 h7 =>
(oW (lenS v6) fun v8 =>
(∃ (I9 : Nat → List Value → Heap → Prop) (k10 : Nat), gcL h (I9 k10) [v6, (.slice none 0 0), v8, (.int .i64 0)] h7 ∧
∀ k12 : Nat, ∀ x13 : Value, ∀ x14 : Value, ∀ x15 : Value, ∀ x16 : Value, ∀ h17, I9 k12 [x13, x14, x15, x16] h17 →
(oW (binN .lss x16 x15) fun v18 =>
(bW v18
(callW Try.prog (fn F_count_behind) [x13, x16] h17 fun v19 h20 =>
(oW (iaS 1 v19 x16) fun v21 =>
(oW (ldW false 1 h20 v21) fun v22 =>
(hW (bslW h20 1 [(.bool false)] [(0, 1, v22)]) fun v23 h24 =>
(hW (apW 1 1 h24 x14 v23) fun v25 h26 =>
(oW (binN .add x16 (.int .i64 1)) fun v27 =>
(∃ m11, m11 < k12 ∧ gcL h (I9 m11) [x13, v25, x15, v27] h26)))))))
(gcV h Q x14 h17)))))))))
theorem W_count_Loops_eq (a0 a1 : Value) (h : Heap) (Q : Value → Heap → Prop) : fW Try.prog ⟨[(4, [5, 6, 13, 14])], []⟩ Try.f10 [a0, a1] h Q = W_count_Loops a0 a1 h Q := by kernel_rfl
theorem W_count_Loops_ok {a0 a1 : Value} {h : Heap} {Q : Value → Heap → Prop} (e : W_count_Loops a0 a1 h Q) : acall Try.prog F_count_Loops [a0, a1] h Q :=
  by refine acall_of_fW mixed ⟨[(4, [5, 6, 13, 14])], []⟩ Try.func10 (by kernel_rfl) ?_; rw [W_count_Loops_eq]; exact e

/-- homograph/count.Trees: loops {8: [2, 8, 9, 33, 34, 35]}; joins {} -/
def W_count_Trees (a0 a1 a2 : Value) (h : Heap) (Q : Value → Heap → Prop) : Prop :=
(hW (boxA h a0) fun v1 h2 =>
(oW (binN .lss a2 (.int .i64 0)) fun v3 =>
(bW v3
(bW (.bool true)
(gcV h Q (.tuple #[(.int .i64 0), (.bool false)]) h2)
(oW (ldW true 5 h2 v1) fun v4 =>
(callW Try.prog (fn F_count_of) [v4, a1] h2 fun v5 h6 =>
(callW Try.prog (fn F_count_knots_fertile) [v5] h6 fun v7 h8 =>
(callW Try.prog (fn F_count_knots_steps) [v7] h8 fun v9 h10 =>
(callW Try.prog (fn F_count_behind) [v9, a2] h10 fun v11 h12 =>
(oW (iaS 1 v11 a2) fun v13 =>
(sW (stW 1 h12 v13 (.bool true)) fun h14 =>
(oW (lenS v11) fun v15 =>
(∃ (I16 : Nat → List Value → Heap → Prop) (k17 : Nat), gcL h (I16 k17) [a2, v7, v9, v11, v15, (.int .i64 0)] h14 ∧
∀ k19 : Nat, ∀ x20 : Value, ∀ x21 : Value, ∀ x22 : Value, ∀ x23 : Value, ∀ x24 : Value, ∀ x25 : Value, ∀ h26, I16 k19 [x20, x21, x22, x23, x24, x25] h26 →
(oW (binN .lss x25 x24) fun v27 =>
(bW v27
(oW (iaS 1 x23 x25) fun v28 =>
(oW (ldW false 1 h26 v28) fun v29 =>
(bW v29
(callW Try.prog (fn F_count_behind) [x22, x25] h26 fun v30 h31 =>
(oW (iaS 1 v30 x25) fun v32 =>
(oW (ldW false 1 h31 v32) fun v33 =>
(bW v33
(gcV h Q (.tuple #[(.int .i64 0), (.bool true)]) h31)
(oW (binN .add x25 (.int .i64 1)) fun v34 =>
(∃ m18, m18 < k19 ∧ gcL h (I16 m18) [x20, x21, x22, x23, x24, v34] h31))))))
(bW (.bool false)
(gcV h Q (.tuple #[(.int .i64 0), (.bool true)]) h26)
(oW (binN .add x25 (.int .i64 1)) fun v35 =>
(∃ m18, m18 < k19 ∧ gcL h (I16 m18) [x20, x21, x22, x23, x24, v35] h26))))))
(letH (h26 ++ [.map []]) fun h36 =>
(callW Try.prog (fn F_count_knots_total) [x21, x20, (.map (some h26.length))] h36 fun v37 h38 =>
(gcV h Q (.tuple #[v37, (.bool false)]) h38)))))))))))))))
(oW (lenS a1) fun v39 =>
(oW (binN .geq a2 v39) fun v40 =>
(bW v40
(gcV h Q (.tuple #[(.int .i64 0), (.bool false)]) h2)
(oW (ldW true 5 h2 v1) fun v41 =>
(callW Try.prog (fn F_count_of) [v41, a1] h2 fun v42 h43 =>
(callW Try.prog (fn F_count_knots_fertile) [v42] h43 fun v44 h45 =>
(callW Try.prog (fn F_count_knots_steps) [v44] h45 fun v46 h47 =>
(callW Try.prog (fn F_count_behind) [v46, a2] h47 fun v48 h49 =>
(oW (iaS 1 v48 a2) fun v50 =>
(sW (stW 1 h49 v50 (.bool true)) fun h51 =>
(oW (lenS v48) fun v52 =>
(∃ (I53 : Nat → List Value → Heap → Prop) (k54 : Nat), gcL h (I53 k54) [a2, v44, v46, v48, v52, (.int .i64 0)] h51 ∧
∀ k56 : Nat, ∀ x57 : Value, ∀ x58 : Value, ∀ x59 : Value, ∀ x60 : Value, ∀ x61 : Value, ∀ x62 : Value, ∀ h63, I53 k56 [x57, x58, x59, x60, x61, x62] h63 →
(oW (binN .lss x62 x61) fun v64 =>
(bW v64
(oW (iaS 1 x60 x62) fun v65 =>
(oW (ldW false 1 h63 v65) fun v66 =>
(bW v66
(callW Try.prog (fn F_count_behind) [x59, x62] h63 fun v67 h68 =>
(oW (iaS 1 v67 x62) fun v69 =>
(oW (ldW false 1 h68 v69) fun v70 =>
(bW v70
(gcV h Q (.tuple #[(.int .i64 0), (.bool true)]) h68)
(oW (binN .add x62 (.int .i64 1)) fun v71 =>
(∃ m55, m55 < k56 ∧ gcL h (I53 m55) [x57, x58, x59, x60, x61, v71] h68))))))
(bW (.bool false)
(gcV h Q (.tuple #[(.int .i64 0), (.bool true)]) h63)
(oW (binN .add x62 (.int .i64 1)) fun v72 =>
(∃ m55, m55 < k56 ∧ gcL h (I53 m55) [x57, x58, x59, x60, x61, v72] h63))))))
(letH (h63 ++ [.map []]) fun h73 =>
(callW Try.prog (fn F_count_knots_total) [x58, x57, (.map (some h63.length))] h73 fun v74 h75 =>
(gcV h Q (.tuple #[v74, (.bool false)]) h75))))))))))))))))))))
theorem W_count_Trees_eq (a0 a1 a2 : Value) (h : Heap) (Q : Value → Heap → Prop) : fW Try.prog ⟨[(8, [2, 8, 9, 33, 34, 35])], []⟩ Try.f11 [a0, a1, a2] h Q = W_count_Trees a0 a1 a2 h Q := by kernel_rfl
theorem W_count_Trees_ok {a0 a1 a2 : Value} {h : Heap} {Q : Value → Heap → Prop} (e : W_count_Trees a0 a1 a2 h Q) : acall Try.prog F_count_Trees [a0, a1, a2] h Q :=
  by refine acall_of_fW mixed ⟨[(8, [2, 8, 9, 33, 34, 35])], []⟩ Try.func11 (by kernel_rfl) ?_; rw [W_count_Trees_eq]; exact e

/-- homograph/homographref28.Trees: loops {12: [1, 2, 8, 11, 12], 6: [1, 2, 8, 9, 10]}; joins {3: [1, 2, 3]} -/
def W_homographref28_Trees (a0 a1 a2 : Value) (h : Heap) (Q : Value → Heap → Prop) : Prop :=
(hW (boxA h a0) fun v1 h2 =>
(∃ M3 : List Value → Heap → Prop,
(oW (binN .lss a2 (.int .i64 0)) fun v4 =>
(bW v4
(bW (.bool true)
(gcV h Q (.tuple #[(.int .i64 0), (.bool false)]) h2)
(gcL h M3 [a1, a2, v1] h2))
(oW (lenS a1) fun v5 =>
(oW (binN .geq a2 v5) fun v6 =>
(bW v6
(gcV h Q (.tuple #[(.int .i64 0), (.bool false)]) h2)
(gcL h M3 [a1, a2, v1] h2)))))) ∧
∀ x7 : Value, ∀ x8 : Value, ∀ x9 : Value, ∀ h10, M3 [x7, x8, x9] h10 →
(oW (ldW true 5 h10 x9) fun v11 =>
(callW Try.prog (fn F_homographref28_kids) [v11, x7] h10 fun v12 h13 =>
(callW Try.prog (fn F_homographref28_fertile) [v12] h13 fun v14 h15 =>
(callW Try.prog (fn F_homographref28_leads) [v14] h15 fun v16 h17 =>
(∃ (I18 : Nat → List Value → Heap → Prop) (k19 : Nat), gcL h (I18 k19) [x7, x8, v14, v16, (.int .i64 0)] h17 ∧
∀ k21 : Nat, ∀ x22 : Value, ∀ x23 : Value, ∀ x24 : Value, ∀ x25 : Value, ∀ x26 : Value, ∀ h27, I18 k21 [x22, x23, x24, x25, x26] h27 →
(oW (lenS x25) fun v28 =>
(oW (binN .lss x26 v28) fun v29 =>
(bW v29
(oW (iaS 1 x25 x26) fun v30 =>
(oW (ldW false 1 h27 v30) fun v31 =>
(oW (iaS 1 v31 x26) fun v32 =>
(oW (ldW false 1 h27 v32) fun v33 =>
(bW v33
(oW (binN .eql x26 x23) fun v34 =>
(bW v34
(bW (.bool true)
(gcV h Q (.tuple #[(.int .i64 0), (.bool true)]) h27)
(oW (binN .add x26 (.int .i64 1)) fun v35 =>
(∃ m20, m20 < k21 ∧ gcL h (I18 m20) [x22, x23, x24, x25, v35] h27)))
(oW (iaS 1 x25 x23) fun v36 =>
(oW (ldW false 1 h27 v36) fun v37 =>
(oW (iaS 1 v37 x26) fun v38 =>
(oW (ldW false 1 h27 v38) fun v39 =>
(bW v39
(gcV h Q (.tuple #[(.int .i64 0), (.bool true)]) h27)
(oW (binN .add x26 (.int .i64 1)) fun v40 =>
(∃ m20, m20 < k21 ∧ gcL h (I18 m20) [x22, x23, x24, x25, v40] h27)))))))))
(bW (.bool false)
(gcV h Q (.tuple #[(.int .i64 0), (.bool true)]) h27)
(oW (binN .add x26 (.int .i64 1)) fun v41 =>
(∃ m20, m20 < k21 ∧ gcL h (I18 m20) [x22, x23, x24, x25, v41] h27))))))))
(oW (lenS x22) fun v42 =>
(hW (mksW [(.int .i64 0)] 8 h27 v42 v42) fun v43 h44 =>
(∃ (I45 : Nat → List Value → Heap → Prop) (k46 : Nat), gcL h (I45 k46) [x22, x23, x24, v43, (.int .i64 0)] h44 ∧
∀ k48 : Nat, ∀ x49 : Value, ∀ x50 : Value, ∀ x51 : Value, ∀ x52 : Value, ∀ x53 : Value, ∀ h54, I45 k48 [x49, x50, x51, x52, x53] h54 →
(oW (lenS x49) fun v55 =>
(oW (binN .lss x53 v55) fun v56 =>
(bW v56
(oW (iaS 1 x52 x53) fun v57 =>
(sW (stW 1 h54 v57 (.int .i64 (-1))) fun h58 =>
(oW (binN .add x53 (.int .i64 1)) fun v59 =>
(∃ m47, m47 < k48 ∧ gcL h (I45 m47) [x49, x50, x51, x52, v59] h58))))
(callW Try.prog (fn F_homographref28_total) [x51, x52, x50] h54 fun v60 h61 =>
(oW (extractA v60 0) fun v62 =>
(oW (extractA v60 1) fun v63 =>
(gcV h Q (.tuple #[v63, (.bool false)]) h61))))))))))))))))))))
theorem W_homographref28_Trees_eq (a0 a1 a2 : Value) (h : Heap) (Q : Value → Heap → Prop) : fW Try.prog ⟨[(12, [1, 2, 8, 11, 12]), (6, [1, 2, 8, 9, 10])], [(3, [1, 2, 3])]⟩ Try.f12 [a0, a1, a2] h Q = W_homographref28_Trees a0 a1 a2 h Q := by kernel_rfl
theorem W_homographref28_Trees_ok {a0 a1 a2 : Value} {h : Heap} {Q : Value → Heap → Prop} (e : W_homographref28_Trees a0 a1 a2 h Q) : acall Try.prog F_homographref28_Trees [a0, a1, a2] h Q :=
  by refine acall_of_fW mixed ⟨[(12, [1, 2, 8, 11, 12]), (6, [1, 2, 8, 9, 10])], [(3, [1, 2, 3])]⟩ Try.func12 (by kernel_rfl) ?_; rw [W_homographref28_Trees_eq]; exact e

/-- homograph/count.Least: loops {}; joins {} -/
def W_count_Least (a0 a1 a2 : Value) (h : Heap) (Q : Value → Heap → Prop) : Prop :=
(hW (boxA h a0) fun v1 h2 =>
(oW (binN .lss a2 (.int .i64 0)) fun v3 =>
(bW v3
(bW (.bool true)
(gcV h Q (.int .i64 0) h2)
(oW (ldW true 5 h2 v1) fun v4 =>
(callW Try.prog (fn F_count_of) [v4, a1] h2 fun v5 h6 =>
(callW Try.prog (fn F_count_knots_least) [v5] h6 fun v7 h8 =>
(oW (iaS 1 v7 a2) fun v9 =>
(oW (ldW false 1 h8 v9) fun v10 =>
(gcV h Q v10 h8)))))))
(oW (lenS a1) fun v11 =>
(oW (binN .geq a2 v11) fun v12 =>
(bW v12
(gcV h Q (.int .i64 0) h2)
(oW (ldW true 5 h2 v1) fun v13 =>
(callW Try.prog (fn F_count_of) [v13, a1] h2 fun v14 h15 =>
(callW Try.prog (fn F_count_knots_least) [v14] h15 fun v16 h17 =>
(oW (iaS 1 v16 a2) fun v18 =>
(oW (ldW false 1 h17 v18) fun v19 =>
(gcV h Q v19 h17))))))))))))
theorem W_count_Least_eq (a0 a1 a2 : Value) (h : Heap) (Q : Value → Heap → Prop) : fW Try.prog ⟨[], []⟩ Try.f13 [a0, a1, a2] h Q = W_count_Least a0 a1 a2 h Q := by kernel_rfl
theorem W_count_Least_ok {a0 a1 a2 : Value} {h : Heap} {Q : Value → Heap → Prop} (e : W_count_Least a0 a1 a2 h Q) : acall Try.prog F_count_Least [a0, a1, a2] h Q :=
  by refine acall_of_fW mixed ⟨[], []⟩ Try.func13 (by kernel_rfl) ?_; rw [W_count_Least_eq]; exact e

/-- homograph/count.Cycle: loops {4: [5, 6, 14, 15]}; joins {} -/
def W_count_Cycle (a0 a1 : Value) (h : Heap) (Q : Value → Heap → Prop) : Prop :=
(hW (boxA h a0) fun v1 h2 =>
(oW (ldW true 5 h2 v1) fun v3 =>
(callW Try.prog (fn F_count_of) [v3, a1] h2 fun v4 h5 =>
(callW Try.prog (fn F_count_knots_steps) [v4] h5 fun v6 h7 =>
(oW (lenS v6) fun v8 =>
(∃ (I9 : Nat → List Value → Heap → Prop) (k10 : Nat), gcL h (I9 k10) [v6, (.slice none 0 0), v8, (.int .i64 0)] h7 ∧
∀ k12 : Nat, ∀ x13 : Value, ∀ x14 : Value, ∀ x15 : Value, ∀ x16 : Value, ∀ h17, I9 k12 [x13, x14, x15, x16] h17 →
(oW (binN .lss x16 x15) fun v18 =>
(bW v18
(callW Try.prog (fn F_count_around) [x13, x16] h17 fun v19 h20 =>
(oW (neW (nilS_ v19 (.slice none 0 0))) fun v21 =>
(bW v21
(oW (eqW (nilS_ x14 (.slice none 0 0))) fun v22 =>
(bW v22
(bW (.bool true)
(oW (binN .add x16 (.int .i64 1)) fun v23 =>
(∃ m11, m11 < k12 ∧ gcL h (I9 m11) [x13, v19, x15, v23] h20))
(oW (binN .add x16 (.int .i64 1)) fun v24 =>
(∃ m11, m11 < k12 ∧ gcL h (I9 m11) [x13, x14, x15, v24] h20)))
(oW (lenS v19) fun v25 =>
(oW (lenS x14) fun v26 =>
(oW (binN .lss v25 v26) fun v27 =>
(bW v27
(oW (binN .add x16 (.int .i64 1)) fun v28 =>
(∃ m11, m11 < k12 ∧ gcL h (I9 m11) [x13, v19, x15, v28] h20))
(oW (binN .add x16 (.int .i64 1)) fun v29 =>
(∃ m11, m11 < k12 ∧ gcL h (I9 m11) [x13, x14, x15, v29] h20))))))))
(bW (.bool false)
(oW (binN .add x16 (.int .i64 1)) fun v30 =>
(∃ m11, m11 < k12 ∧ gcL h (I9 m11) [x13, v19, x15, v30] h20))
(oW (binN .add x16 (.int .i64 1)) fun v31 =>
(∃ m11, m11 < k12 ∧ gcL h (I9 m11) [x13, x14, x15, v31] h20))))))
(gcV h Q x14 h17)))))))))
theorem W_count_Cycle_eq (a0 a1 : Value) (h : Heap) (Q : Value → Heap → Prop) : fW Try.prog ⟨[(4, [5, 6, 14, 15])], []⟩ Try.f14 [a0, a1] h Q = W_count_Cycle a0 a1 h Q := by kernel_rfl
theorem W_count_Cycle_ok {a0 a1 : Value} {h : Heap} {Q : Value → Heap → Prop} (e : W_count_Cycle a0 a1 h Q) : acall Try.prog F_count_Cycle [a0, a1] h Q :=
  by refine acall_of_fW mixed ⟨[(4, [5, 6, 14, 15])], []⟩ Try.func14 (by kernel_rfl) ?_; rw [W_count_Cycle_eq]; exact e

/-- homograph/homographlaw28.two: loops {}; joins {} -/
def W_homographlaw28_two (h : Heap) (Q : Value → Heap → Prop) : Prop :=
(gcV h Q (.string ⟨#[0, 1, 2, 2, 2, 1, 0]⟩) h)
theorem W_homographlaw28_two_eq (h : Heap) (Q : Value → Heap → Prop) : fW Try.prog ⟨[], []⟩ Try.f15 [] h Q = W_homographlaw28_two  h Q := by kernel_rfl
theorem W_homographlaw28_two_ok {h : Heap} {Q : Value → Heap → Prop} (e : W_homographlaw28_two  h Q) : acall Try.prog F_homographlaw28_two [] h Q :=
  by refine acall_of_fW mixed ⟨[], []⟩ Try.func15 (by kernel_rfl) ?_; rw [W_homographlaw28_two_eq]; exact e

/-- homograph/homographref27.Find: loops {2: [0, 1, 2, 3, 9]}; joins {} -/
def W_homographref27_Find (a0 a1 a2 a3 : Value) (h : Heap) (Q : Value → Heap → Prop) : Prop :=
(∃ (I1 : Nat → List Value → Heap → Prop) (k2 : Nat), gcL h (I1 k2) [a0, a1, a2, a3, (.int .i64 0)] h ∧
∀ k4 : Nat, ∀ x5 : Value, ∀ x6 : Value, ∀ x7 : Value, ∀ x8 : Value, ∀ x9 : Value, ∀ h10, I1 k4 [x5, x6, x7, x8, x9] h10 →
(oW (lenS x5) fun v11 =>
(oW (binN .lss x9 v11) fun v12 =>
(bW v12
(oW (iaS 4 x5 x9) fun v13 =>
(oW (faW 0 1 v13) fun v14 =>
(oW (ldW false 1 h10 v14) fun v15 =>
(oW (binN .eql v15 x6) fun v16 =>
(bW v16
(oW (iaS 4 x5 x9) fun v17 =>
(oW (faW 1 1 v17) fun v18 =>
(oW (ldW false 1 h10 v18) fun v19 =>
(oW (binN .eql v19 x7) fun v20 =>
(bW v20
(oW (iaS 4 x5 x9) fun v21 =>
(oW (faW 2 1 v21) fun v22 =>
(oW (ldW false 1 h10 v22) fun v23 =>
(oW (binN .eql v23 x8) fun v24 =>
(bW v24
(gcV h Q x9 h10)
(oW (binN .add x9 (.int .i64 1)) fun v25 =>
(∃ m3, m3 < k4 ∧ gcL h (I1 m3) [x5, x6, x7, x8, v25] h10)))))))
(bW (.bool false)
(gcV h Q x9 h10)
(oW (binN .add x9 (.int .i64 1)) fun v26 =>
(∃ m3, m3 < k4 ∧ gcL h (I1 m3) [x5, x6, x7, x8, v26] h10))))))))
(bW (.bool false)
(gcV h Q x9 h10)
(oW (binN .add x9 (.int .i64 1)) fun v27 =>
(∃ m3, m3 < k4 ∧ gcL h (I1 m3) [x5, x6, x7, x8, v27] h10))))))))
(gcV h Q (.int .i64 (-1)) h10)))))
theorem W_homographref27_Find_eq (a0 a1 a2 a3 : Value) (h : Heap) (Q : Value → Heap → Prop) : fW Try.prog ⟨[(2, [0, 1, 2, 3, 9])], []⟩ Try.f16 [a0, a1, a2, a3] h Q = W_homographref27_Find a0 a1 a2 a3 h Q := by kernel_rfl
theorem W_homographref27_Find_ok {a0 a1 a2 a3 : Value} {h : Heap} {Q : Value → Heap → Prop} (e : W_homographref27_Find a0 a1 a2 a3 h Q) : acall Try.prog F_homographref27_Find [a0, a1, a2, a3] h Q :=
  by refine acall_of_fW mixed ⟨[(2, [0, 1, 2, 3, 9])], []⟩ Try.func16 (by kernel_rfl) ?_; rw [W_homographref27_Find_eq]; exact e

/-- homograph/count.Sizes: loops {20: [2, 3, 9, 10, 12, 13, 14, 56, 57, 63, 64, 65], 17: [2, 3, 9, 10, 12, 13, 56, 57], 14: [2, 3, 9, 10, 12, 13], 7: [2, 3, 9, 10, 38, 39]}; joins {3: [1, 2, 3, 4]} -/
def W_count_Sizes (a0 a1 a2 a3 : Value) (h : Heap) (Q : Value → Heap → Prop) : Prop :=
(hW (boxA h a0) fun v1 h2 =>
(∃ M3 : List Value → Heap → Prop,
(oW (binN .lss a2 (.int .i64 0)) fun v4 =>
(bW v4
(bW (.bool true)
(gcV h Q (.slice none 0 0) h2)
(gcL h M3 [a1, a2, a3, v1] h2))
(oW (lenS a1) fun v5 =>
(oW (binN .geq a2 v5) fun v6 =>
(bW v6
(bW (.bool true)
(gcV h Q (.slice none 0 0) h2)
(gcL h M3 [a1, a2, a3, v1] h2))
(oW (binN .lss a3 (.int .i64 0)) fun v7 =>
(bW v7
(gcV h Q (.slice none 0 0) h2)
(gcL h M3 [a1, a2, a3, v1] h2)))))))) ∧
∀ x8 : Value, ∀ x9 : Value, ∀ x10 : Value, ∀ x11 : Value, ∀ h12, M3 [x8, x9, x10, x11] h12 →
(oW (minmaxA false [x10, (.int .i64 60)]) fun v13 =>
(oW (ldW true 5 h12 x11) fun v14 =>
(callW Try.prog (fn F_count_of) [v14, x8] h12 fun v15 h16 =>
(oW (lenS v15) fun v17 =>
(hW (mksW [(.slice none 0 0)] 24 h16 v17 v17) fun v18 h19 =>
(letH (h19 ++ [.row [(.slice none 0 0)] .exact]) fun h20 =>
(sW (stW 1 h20 (.pointer (some ⟨h19.length, 0, none⟩)) v18) fun h21 =>
(oW (ldW false 1 h21 (.pointer (some ⟨h19.length, 0, none⟩))) fun v22 =>
(oW (lenS v22) fun v23 =>
(∃ (I24 : Nat → List Value → Heap → Prop) (k25 : Nat), gcL h (I24 k25) [x9, v13, v15, (.pointer (some ⟨h19.length, 0, none⟩)), v23, (.int .i64 0)] h21 ∧
∀ k27 : Nat, ∀ x28 : Value, ∀ x29 : Value, ∀ x30 : Value, ∀ x31 : Value, ∀ x32 : Value, ∀ x33 : Value, ∀ h34, I24 k27 [x28, x29, x30, x31, x32, x33] h34 →
(oW (binN .lss x33 x32) fun v35 =>
(bW v35
(oW (ldW false 1 h34 x31) fun v36 =>
(oW (binN .add x29 (.int .i64 1)) fun v37 =>
(hW (mksW [(.int .i64 0)] 8 h34 v37 v37) fun v38 h39 =>
(keptW [x31] h34 h39 ∧
(oW (iaS 1 v36 x33) fun v40 =>
(sW (stW 1 h39 v40 v38) fun h41 =>
(oW (binN .add x33 (.int .i64 1)) fun v42 =>
(∃ m26, m26 < k27 ∧ gcL h (I24 m26) [x28, x29, x30, x31, x32, v42] h41))))))))
(letH (h34 ++ [.row [.nilFunc] .exact]) fun h43 =>
(sW (stW 1 h43 (.pointer (some ⟨h34.length, 0, none⟩)) (.func (.func F_count_Sizes_D1) #[] #[x31, (.pointer (some ⟨h34.length, 0, none⟩))])) fun h44 =>
(∃ (I45 : Nat → List Value → Heap → Prop) (k46 : Nat), gcL h (I45 k46) [x28, x29, x30, x31, (.pointer (some ⟨h34.length, 0, none⟩)), (.int .i64 1)] h44 ∧
∀ k48 : Nat, ∀ x49 : Value, ∀ x50 : Value, ∀ x51 : Value, ∀ x52 : Value, ∀ x53 : Value, ∀ x54 : Value, ∀ h55, I45 k48 [x49, x50, x51, x52, x53, x54] h55 →
(oW (binN .leq x54 x50) fun v56 =>
(bW v56
(oW (lenS x51) fun v57 =>
(∃ (I58 : Nat → List Value → Heap → Prop) (k59 : Nat), gcL h (I58 k59) [x49, x50, x51, x52, x53, x54, v57, (.int .i64 0)] h55 ∧
∀ k61 : Nat, ∀ x62 : Value, ∀ x63 : Value, ∀ x64 : Value, ∀ x65 : Value, ∀ x66 : Value, ∀ x67 : Value, ∀ x68 : Value, ∀ x69 : Value, ∀ h70, I58 k61 [x62, x63, x64, x65, x66, x67, x68, x69] h70 →
(oW (binN .lss x69 x68) fun v71 =>
(bW v71
(oW (iaS 1 x64 x69) fun v72 =>
(oW (ldW false 1 h70 v72) fun v73 =>
(oW (lenS v73) fun v74 =>
(∃ (I75 : Nat → List Value → Heap → Prop) (k76 : Nat), gcL h (I75 k76) [x62, x63, x64, x65, x66, x67, x69, x68, x69, v73, v74, (.int .i64 0)] h70 ∧
∀ k78 : Nat, ∀ x79 : Value, ∀ x80 : Value, ∀ x81 : Value, ∀ x82 : Value, ∀ x83 : Value, ∀ x84 : Value, ∀ x85 : Value, ∀ x86 : Value, ∀ x87 : Value, ∀ x88 : Value, ∀ x89 : Value, ∀ x90 : Value, ∀ h91, I75 k78 [x79, x80, x81, x82, x83, x84, x85, x86, x87, x88, x89, x90] h91 →
(oW (binN .lss x90 x89) fun v92 =>
(bW v92
(oW (iaS 1 x88 x90) fun v93 =>
(oW (ldW false 1 h91 v93) fun v94 =>
(oW (ldW false 1 h91 x82) fun v95 =>
(oW (iaS 1 v95 x85) fun v96 =>
(oW (ldW false 1 h91 v96) fun v97 =>
(oW (ldW false 1 h91 x82) fun v98 =>
(oW (iaS 1 v98 x85) fun v99 =>
(oW (ldW false 1 h91 v99) fun v100 =>
(oW (iaS 1 v100 x84) fun v101 =>
(oW (ldW false 1 h91 v101) fun v102 =>
(oW (ldW false 1 h91 x83) fun v103 =>
(oW (binN .sub x84 (.int .i64 1)) fun v104 =>
(callW Try.prog v103 [v94, v104] h91 fun v105 h106 =>
(keptW [x83, v101, v99, x82, v96, x82] h91 h106 ∧
(callW Try.prog (fn F_count_add) [v102, v105] h106 fun v107 h108 =>
(keptW [x83, v99, x82, v96, x82] h106 h108 ∧
(oW (iaS 1 v97 x84) fun v109 =>
(sW (stW 1 h108 v109 v107) fun h110 =>
(oW (binN .add x90 (.int .i64 1)) fun v111 =>
(∃ m77, m77 < k78 ∧ gcL h (I75 m77) [x79, x80, x81, x82, x83, x84, x85, x86, x87, x88, x89, v111] h110))))))))))))))))))))
(oW (binN .add x87 (.int .i64 1)) fun v112 =>
(∃ m60, m60 < k61 ∧ gcL h (I58 m60) [x79, x80, x81, x82, x83, x84, x86, v112] h91))))))))
(oW (binN .add x67 (.int .i64 1)) fun v113 =>
(∃ m47, m47 < k48 ∧ gcL h (I45 m47) [x62, x63, x64, x65, x66, v113] h70))))))
(oW (ldW false 1 h55 x52) fun v114 =>
(oW (iaS 1 v114 x49) fun v115 =>
(oW (ldW false 1 h55 v115) fun v116 =>
(gcV h Q v116 h55)))))))))))))))))))))))
theorem W_count_Sizes_eq (a0 a1 a2 a3 : Value) (h : Heap) (Q : Value → Heap → Prop) : fW Try.prog ⟨[(20, [2, 3, 9, 10, 12, 13, 14, 56, 57, 63, 64, 65]), (17, [2, 3, 9, 10, 12, 13, 56, 57]), (14, [2, 3, 9, 10, 12, 13]), (7, [2, 3, 9, 10, 38, 39])], [(3, [1, 2, 3, 4])]⟩ Try.f17 [a0, a1, a2, a3] h Q = W_count_Sizes a0 a1 a2 a3 h Q := by kernel_rfl
theorem W_count_Sizes_ok {a0 a1 a2 a3 : Value} {h : Heap} {Q : Value → Heap → Prop} (e : W_count_Sizes a0 a1 a2 a3 h Q) : acall Try.prog F_count_Sizes [a0, a1, a2, a3] h Q :=
  by refine acall_of_fW mixed ⟨[(20, [2, 3, 9, 10, 12, 13, 14, 56, 57, 63, 64, 65]), (17, [2, 3, 9, 10, 12, 13, 56, 57]), (14, [2, 3, 9, 10, 12, 13]), (7, [2, 3, 9, 10, 38, 39])], [(3, [1, 2, 3, 4])]⟩ Try.func17 (by kernel_rfl) ?_; rw [W_count_Sizes_eq]; exact e

/-- homograph/homographref28.Add: loops {}; joins {} -/
def W_homographref28_Add (a0 a1 : Value) (h : Heap) (Q : Value → Heap → Prop) : Prop :=
(callW Try.prog (fn F_homographref28_most) [] h fun v1 h2 =>
(oW (binN .sub v1 a1) fun v3 =>
(oW (binN .gtr a0 v3) fun v4 =>
(bW v4
(callW Try.prog (fn F_homographref28_most) [] h2 fun v5 h6 =>
(gcV h Q v5 h6))
(oW (binN .add a0 a1) fun v7 =>
(gcV h Q v7 h2))))))
theorem W_homographref28_Add_eq (a0 a1 : Value) (h : Heap) (Q : Value → Heap → Prop) : fW Try.prog ⟨[], []⟩ Try.f18 [a0, a1] h Q = W_homographref28_Add a0 a1 h Q := by kernel_rfl
theorem W_homographref28_Add_ok {a0 a1 : Value} {h : Heap} {Q : Value → Heap → Prop} (e : W_homographref28_Add a0 a1 h Q) : acall Try.prog F_homographref28_Add [a0, a1] h Q :=
  by refine acall_of_fW mixed ⟨[], []⟩ Try.func18 (by kernel_rfl) ?_; rw [W_homographref28_Add_eq]; exact e

/-- homograph/homographref27.Build: loops {29: [2, 4, 5, 13, 20, 21], 21: [2, 3, 4, 5, 13, 14, 15, 16, 17, 18, 19], 17: [2, 3, 4, 5, 13, 14, 15, 16, 17], 13: [2, 3, 4, 5, 13, 14, 15], 10: [2, 3, 4, 5, 13, 14]}; joins {4: [2, 3, 4, 5]} -/
def W_homographref27_Build (a0 a1 a2 a3 : Value) (h : Heap) (Q : Value → Heap → Prop) : Prop :=
(hW (boxA h a0) fun v1 h2 =>
(hW (boxA h2 a1) fun v3 h4 =>
(oW (ldW true 5 h4 v1) fun v5 =>
(oW (ldW true 3 h4 v3) fun v6 =>
(callW Try.prog (fn F_homographref27_right) [v5, v6] h4 fun v7 h8 =>
(∃ M9 : List Value → Heap → Prop,
(oW (unA .not v7) fun v10 =>
(bW v10
(bW (.bool true)
(gcV h Q (.tuple #[(.slice none 0 0), (.int .i64 1)]) h8)
(gcL h M9 [a2, a3, v1, v3] h8))
(oW (binN .lss a3 (.int .i64 1)) fun v11 =>
(bW v11
(gcV h Q (.tuple #[(.slice none 0 0), (.int .i64 1)]) h8)
(gcL h M9 [a2, a3, v1, v3] h8))))) ∧
∀ x12 : Value, ∀ x13 : Value, ∀ x14 : Value, ∀ x15 : Value, ∀ h16, M9 [x12, x13, x14, x15] h16 →
(oW (ldW true 5 h16 x14) fun v17 =>
(oW (ldW true 3 h16 x15) fun v18 =>
(callW Try.prog (fn F_homographref27_root) [v17, v18] h16 fun v19 h20 =>
(letH (h20 ++ [.row [(.int .i64 0), (.int .i64 0), (.int .i64 0)] .exact]) fun h21 =>
(sW (stW 3 h21 (.pointer (some ⟨h20.length, 0, none⟩)) v19) fun h22 =>
(oW (ldW true 3 h22 (.pointer (some ⟨h20.length, 0, none⟩))) fun v23 =>
(callW Try.prog (fn F_homographref27_has) [x12, v23] h22 fun v24 h25 =>
(oW (unA .not v24) fun v26 =>
(bW v26
(gcV h Q (.tuple #[(.slice none 0 0), (.int .i64 0)]) h25)
(oW (ldW true 3 h25 (.pointer (some ⟨h20.length, 0, none⟩))) fun v27 =>
(hW (bslW h25 1 [(.int .i64 0), (.int .i64 0), (.int .i64 0)] [(0, 3, v27)]) fun v28 h29 =>
(∃ (I30 : Nat → List Value → Heap → Prop) (k31 : Nat), gcL h (I30 k31) [x12, x13, x14, x15, v28, (.int .i64 0)] h29 ∧
∀ k33 : Nat, ∀ x34 : Value, ∀ x35 : Value, ∀ x36 : Value, ∀ x37 : Value, ∀ x38 : Value, ∀ x39 : Value, ∀ h40, I30 k33 [x34, x35, x36, x37, x38, x39] h40 →
(oW (lenS x38) fun v41 =>
(oW (binN .neq x39 v41) fun v42 =>
(bW v42
(oW (lenS x38) fun v43 =>
(∃ (I44 : Nat → List Value → Heap → Prop) (k45 : Nat), gcL h (I44 k45) [x34, x35, x36, x37, x38, v43, (.int .i64 0)] h40 ∧
∀ k47 : Nat, ∀ x48 : Value, ∀ x49 : Value, ∀ x50 : Value, ∀ x51 : Value, ∀ x52 : Value, ∀ x53 : Value, ∀ x54 : Value, ∀ h55, I44 k47 [x48, x49, x50, x51, x52, x53, x54] h55 →
(oW (binN .lss x54 x53) fun v56 =>
(bW v56
(oW (iaS 3 x52 x54) fun v57 =>
(oW (faW 0 1 v57) fun v58 =>
(oW (ldW false 1 h55 v58) fun v59 =>
(oW (ldW true 5 h55 x50) fun v60 =>
(oW (ldW true 3 h55 x51) fun v61 =>
(oW (iaS 3 x52 x54) fun v62 =>
(oW (ldW true 3 h55 v62) fun v63 =>
((True) ∧
(callW Try.prog (fn F_homographref27_ways) [v60, v61, x48, v63] h55 fun v64 h65 =>
(keptW [v62, x51, x50, v58] h55 h65 ∧
(oW (bldW [(.int .i64 0), (.int .i64 0), (.int .i64 0), (.slice none 0 0)] [(0, 1, v59), (3, 1, v64)]) fun v66 =>
(letH (h65 ++ [.row [(.int .i64 0), (.int .i64 0), (.int .i64 0), (.slice none 0 0)] .exact]) fun h67 =>
(keptW [v62, x51, x50, v58] h65 h67 ∧
(sW (stW 4 h67 (.pointer (some ⟨h65.length, 0, none⟩)) v66) fun h68 =>
(∃ (I69 : Nat → List Value → Heap → Prop) (k70 : Nat), gcL h (I69 k70) [x48, x49, x50, x51, x52, x53, x54, (.pointer (some ⟨h65.length, 0, none⟩)), (.int .i64 0)] h68 ∧
∀ k72 : Nat, ∀ x73 : Value, ∀ x74 : Value, ∀ x75 : Value, ∀ x76 : Value, ∀ x77 : Value, ∀ x78 : Value, ∀ x79 : Value, ∀ x80 : Value, ∀ x81 : Value, ∀ h82, I69 k72 [x73, x74, x75, x76, x77, x78, x79, x80, x81] h82 →
(oW (faW 3 1 x80) fun v83 =>
(oW (ldW false 1 h82 v83) fun v84 =>
(oW (lenS v84) fun v85 =>
(oW (binN .lss x81 v85) fun v86 =>
(bW v86
(oW (ldW true 5 h82 x75) fun v87 =>
(oW (ldW true 4 h82 x80) fun v88 =>
(callW Try.prog (fn F_homographref27_Kids) [v87, v88, x81] h82 fun v89 h90 =>
(∃ (I91 : Nat → List Value → Heap → Prop) (k92 : Nat), gcL h (I91 k92) [x73, x74, x75, x76, x77, x78, x79, x80, x81, v89, (.int .i64 0)] h90 ∧
∀ k94 : Nat, ∀ x95 : Value, ∀ x96 : Value, ∀ x97 : Value, ∀ x98 : Value, ∀ x99 : Value, ∀ x100 : Value, ∀ x101 : Value, ∀ x102 : Value, ∀ x103 : Value, ∀ x104 : Value, ∀ x105 : Value, ∀ h106, I91 k94 [x95, x96, x97, x98, x99, x100, x101, x102, x103, x104, x105] h106 →
(oW (lenS x104) fun v107 =>
(oW (binN .lss x105 v107) fun v108 =>
(bW v108
(oW (iaS 3 x104 x105) fun v109 =>
(oW (ldW true 3 h106 v109) fun v110 =>
(callW Try.prog (fn F_homographref26_PutFact) [x99, v110] h106 fun v111 h112 =>
(oW (binN .add x105 (.int .i64 1)) fun v113 =>
(∃ m93, m93 < k94 ∧ gcL h (I91 m93) [x95, x96, x97, x98, v111, x100, x101, x102, x103, x104, v113] h112)))))
(oW (binN .add x103 (.int .i64 1)) fun v114 =>
(∃ m71, m71 < k72 ∧ gcL h (I69 m71) [x95, x96, x97, x98, x99, x100, x101, x102, v114] h106)))))))))
(oW (lenS x77) fun v115 =>
(oW (binN .neq v115 x78) fun v116 =>
(bW v116
(∃ m32, m32 < k33 ∧ gcL h (I30 m32) [x73, x74, x75, x76, x77, x78] h82)
(oW (binN .add x79 (.int .i64 1)) fun v117 =>
(∃ m46, m46 < k47 ∧ gcL h (I44 m46) [x73, x74, x75, x76, x77, x78, v117] h82)))))))))))))))))))))))))
(∃ m32, m32 < k33 ∧ gcL h (I30 m32) [x48, x49, x50, x51, x52, x53] h55)))))
(oW (lenS x38) fun v118 =>
(oW (binN .gtr v118 x35) fun v119 =>
(bW v119
(gcV h Q (.tuple #[(.slice none 0 0), (.int .i64 270)]) h40)
(∃ (I120 : Nat → List Value → Heap → Prop) (k121 : Nat), gcL h (I120 k121) [x34, x36, x37, x38, (.slice none 0 0), (.int .i64 0)] h40 ∧
∀ k123 : Nat, ∀ x124 : Value, ∀ x125 : Value, ∀ x126 : Value, ∀ x127 : Value, ∀ x128 : Value, ∀ x129 : Value, ∀ h130, I120 k123 [x124, x125, x126, x127, x128, x129] h130 →
(oW (lenS x127) fun v131 =>
(oW (binN .lss x129 v131) fun v132 =>
(bW v132
(oW (iaS 3 x127 x129) fun v133 =>
(oW (faW 0 1 v133) fun v134 =>
(oW (ldW false 1 h130 v134) fun v135 =>
(oW (iaS 3 x127 x129) fun v136 =>
(oW (faW 1 1 v136) fun v137 =>
(oW (ldW false 1 h130 v137) fun v138 =>
(oW (iaS 3 x127 x129) fun v139 =>
(oW (faW 2 1 v139) fun v140 =>
(oW (ldW false 1 h130 v140) fun v141 =>
(oW (ldW true 5 h130 x125) fun v142 =>
(oW (ldW true 3 h130 x126) fun v143 =>
(oW (iaS 3 x127 x129) fun v144 =>
(oW (ldW true 3 h130 v144) fun v145 =>
(callW Try.prog (fn F_homographref27_ways) [v142, v143, x124, v145] h130 fun v146 h147 =>
(keptW [v144, x126, x125, v140, v137, v134] h130 h147 ∧
(oW (bldW [(.int .i64 0), (.int .i64 0), (.int .i64 0), (.slice none 0 0)] [(0, 1, v135), (1, 1, v138), (2, 1, v141), (3, 1, v146)]) fun v148 =>
(hW (bslW h147 1 [(.int .i64 0), (.int .i64 0), (.int .i64 0), (.slice none 0 0)] [(0, 4, v148)]) fun v149 h150 =>
(keptW [v144, x126, x125, v140, v137, v134] h147 h150 ∧
(hW (apW 4 48 h150 x128 v149) fun v151 h152 =>
(keptW [v144, x126, x125, v140, v137, v134] h150 h152 ∧
(oW (binN .add x129 (.int .i64 1)) fun v153 =>
(∃ m122, m122 < k123 ∧ gcL h (I120 m122) [x124, x125, x126, x127, v151, v153] h152))))))))))))))))))))))
(gcV h Q (.tuple #[x128, (.int .i64 0)]) h130)))))))))))))))))))))))))))))
theorem W_homographref27_Build_eq (a0 a1 a2 a3 : Value) (h : Heap) (Q : Value → Heap → Prop) : fW Try.prog ⟨[(29, [2, 4, 5, 13, 20, 21]), (21, [2, 3, 4, 5, 13, 14, 15, 16, 17, 18, 19]), (17, [2, 3, 4, 5, 13, 14, 15, 16, 17]), (13, [2, 3, 4, 5, 13, 14, 15]), (10, [2, 3, 4, 5, 13, 14])], [(4, [2, 3, 4, 5])]⟩ Try.f19 [a0, a1, a2, a3] h Q = W_homographref27_Build a0 a1 a2 a3 h Q := by kernel_rfl
theorem W_homographref27_Build_ok {a0 a1 a2 a3 : Value} {h : Heap} {Q : Value → Heap → Prop} (e : W_homographref27_Build a0 a1 a2 a3 h Q) : acall Try.prog F_homographref27_Build [a0, a1, a2, a3] h Q :=
  by refine acall_of_fW mixed ⟨[(29, [2, 4, 5, 13, 20, 21]), (21, [2, 3, 4, 5, 13, 14, 15, 16, 17, 18, 19]), (17, [2, 3, 4, 5, 13, 14, 15, 16, 17]), (13, [2, 3, 4, 5, 13, 14, 15]), (10, [2, 3, 4, 5, 13, 14])], [(4, [2, 3, 4, 5])]⟩ Try.func19 (by kernel_rfl) ?_; rw [W_homographref27_Build_eq]; exact e

/-- homograph/homographlaw28.line: loops {3: [0, 2, 3, 4]}; joins {} -/
def W_homographlaw28_line (a0 : Value) (h : Heap) (Q : Value → Heap → Prop) : Prop :=
(letH (h ++ [.row [(.int .i64 0), (.slice none 0 0), (.slice none 0 0)] .exact]) fun h1 =>
(hW (bslW h1 1 [(.int .i64 0)] [(0, 1, (.int .i64 0))]) fun v2 h3 =>
(oW (bldW [(.int .i64 0), (.slice none 0 0), (.slice none 0 0)] [(0, 1, a0), (1, 1, v2)]) fun v4 =>
(letH (h3 ++ [.row [(.int .i64 0), (.slice none 0 0), (.slice none 0 0)] .exact]) fun h5 =>
(sW (stW 3 h5 (.pointer (some ⟨h3.length, 0, none⟩)) v4) fun h6 =>
(∃ (I7 : Nat → List Value → Heap → Prop) (k8 : Nat), gcL h (I7 k8) [a0, (.pointer (some ⟨h.length, 0, none⟩)), (.pointer (some ⟨h3.length, 0, none⟩)), (.int .i64 0)] h6 ∧
∀ k10 : Nat, ∀ x11 : Value, ∀ x12 : Value, ∀ x13 : Value, ∀ x14 : Value, ∀ h15, I7 k10 [x11, x12, x13, x14] h15 →
(oW (binN .lss x14 x11) fun v16 =>
(bW v16
(oW (faW 1 1 x13) fun v17 =>
(oW (ldW false 1 h15 v17) fun v18 =>
(oW (binN .add x14 (.int .i64 1)) fun v19 =>
(hW (bslW h15 1 [(.int .i64 0)] [(0, 1, v19)]) fun v20 h21 =>
(hW (apW 1 8 h21 v18 v20) fun v22 h23 =>
(oW (faW 1 1 x13) fun v24 =>
(sW (stW 1 h23 v24 v22) fun h25 =>
(oW (faW 2 1 x13) fun v26 =>
(oW (ldW false 1 h25 v26) fun v27 =>
(oW (binN .add x14 (.int .i64 1)) fun v28 =>
(oW (bldW [(.int .i64 0), (.int .i64 0), (.int .i64 0)] [(1, 1, x14), (2, 1, v28)]) fun v29 =>
(hW (bslW h25 1 [(.int .i64 0), (.int .i64 0), (.int .i64 0)] [(0, 3, v29)]) fun v30 h31 =>
(hW (apW 3 24 h31 v27 v30) fun v32 h33 =>
(oW (faW 2 1 x13) fun v34 =>
(sW (stW 1 h33 v34 v32) fun h35 =>
(oW (binN .add x14 (.int .i64 1)) fun v36 =>
(∃ m9, m9 < k10 ∧ gcL h (I7 m9) [x11, x12, x13, v36] h35)))))))))))))))))
(oW (ldW true 3 h15 x13) fun v37 =>
(sW (stW 3 h15 x12 v37) fun h38 =>
(oW (ldP true 3 h38 x12) fun v39 =>
(gcV h Q v39 h38))))))))))))
theorem W_homographlaw28_line_eq (a0 : Value) (h : Heap) (Q : Value → Heap → Prop) : fW Try.prog ⟨[(3, [0, 2, 3, 4])], []⟩ Try.f20 [a0] h Q = W_homographlaw28_line a0 h Q := by kernel_rfl
theorem W_homographlaw28_line_ok {a0 : Value} {h : Heap} {Q : Value → Heap → Prop} (e : W_homographlaw28_line a0 h Q) : acall Try.prog F_homographlaw28_line [a0] h Q :=
  by refine acall_of_fW mixed ⟨[(3, [0, 2, 3, 4])], []⟩ Try.func20 (by kernel_rfl) ?_; rw [W_homographlaw28_line_eq]; exact e

/-- homograph/homographref26.All: loops {21: [2, 5, 6, 9, 10, 11, 12, 13], 16: [2, 5, 6, 9, 10, 11], 13: [2, 5, 6, 9, 10], 10: [2, 5, 6, 9], 4: [2, 3, 5, 6, 7]}; joins {} -/
def W_homographref26_All (a0 a1 : Value) (h : Heap) (Q : Value → Heap → Prop) : Prop :=
(hW (boxA h a0) fun v1 h2 =>
(hW (boxA h2 a1) fun v3 h4 =>
(oW (ldW true 3 h4 v3) fun v5 =>
(callW Try.prog (fn F_homographref23_Come) [v5] h4 fun v6 h7 =>
(∃ (I8 : Nat → List Value → Heap → Prop) (k9 : Nat), gcL h (I8 k9) [v1, v3, v6, (.slice none 0 0), (.int .i64 0)] h7 ∧
∀ k11 : Nat, ∀ x12 : Value, ∀ x13 : Value, ∀ x14 : Value, ∀ x15 : Value, ∀ x16 : Value, ∀ h17, I8 k11 [x12, x13, x14, x15, x16] h17 →
(oW (faW 2 1 x13) fun v18 =>
(oW (ldW false 1 h17 v18) fun v19 =>
(oW (lenS v19) fun v20 =>
(oW (binN .lss x16 v20) fun v21 =>
(bW v21
(oW (faW 2 1 x13) fun v22 =>
(oW (ldW false 1 h17 v22) fun v23 =>
(oW (iaS 3 v23 x16) fun v24 =>
(oW (ldW true 3 h17 v24) fun v25 =>
(letH (h17 ++ [.row [(.int .i64 0), (.int .i64 0), (.int .i64 0)] .exact]) fun h26 =>
(sW (stW 3 h26 (.pointer (some ⟨h17.length, 0, none⟩)) v25) fun h27 =>
(oW (faW 1 1 (.pointer (some ⟨h17.length, 0, none⟩))) fun v28 =>
(oW (ldW false 1 h27 v28) fun v29 =>
(oW (iaS 1 x14 v29) fun v30 =>
(oW (ldW false 1 h27 v30) fun v31 =>
(bW v31
(oW (faW 0 1 (.pointer (some ⟨h17.length, 0, none⟩))) fun v32 =>
(oW (ldW false 1 h27 v32) fun v33 =>
(oW (faW 1 1 (.pointer (some ⟨h17.length, 0, none⟩))) fun v34 =>
(oW (ldW false 1 h27 v34) fun v35 =>
(oW (faW 1 1 x13) fun v36 =>
(oW (ldW false 1 h27 v36) fun v37 =>
(oW (faW 2 1 (.pointer (some ⟨h17.length, 0, none⟩))) fun v38 =>
(oW (ldW false 1 h27 v38) fun v39 =>
(oW (iaS 1 v37 v39) fun v40 =>
(oW (ldW false 1 h27 v40) fun v41 =>
(oW (bldW [(.int .i64 0), (.int .i64 0), (.int .i64 0)] [(0, 1, v33), (1, 1, v35), (2, 1, v41)]) fun v42 =>
(callW Try.prog (fn F_homographref26_PutFact) [x15, v42] h27 fun v43 h44 =>
(keptW [v40, v38, v36, v34, v32] h27 h44 ∧
(oW (binN .add x16 (.int .i64 1)) fun v45 =>
(∃ m10, m10 < k11 ∧ gcL h (I8 m10) [x12, x13, x14, v43, v45] h44)))))))))))))))
(oW (binN .add x16 (.int .i64 1)) fun v46 =>
(∃ m10, m10 < k11 ∧ gcL h (I8 m10) [x12, x13, x14, x15, v46] h27)))))))))))))
(∃ (I47 : Nat → List Value → Heap → Prop) (k48 : Nat), gcL h (I47 k48) [x12, x14, x15, (.int .i64 (-1))] h17 ∧
∀ k50 : Nat, ∀ x51 : Value, ∀ x52 : Value, ∀ x53 : Value, ∀ x54 : Value, ∀ h55, I47 k50 [x51, x52, x53, x54] h55 →
(oW (lenS x53) fun v56 =>
(oW (binN .neq x54 v56) fun v57 =>
(bW v57
(oW (lenS x53) fun v58 =>
(∃ (I59 : Nat → List Value → Heap → Prop) (k60 : Nat), gcL h (I59 k60) [x51, x52, x53, v58, (.int .i64 0)] h55 ∧
∀ k62 : Nat, ∀ x63 : Value, ∀ x64 : Value, ∀ x65 : Value, ∀ x66 : Value, ∀ x67 : Value, ∀ h68, I59 k62 [x63, x64, x65, x66, x67] h68 →
(oW (faW 3 1 x63) fun v69 =>
(oW (ldW false 1 h68 v69) fun v70 =>
(oW (lenS v70) fun v71 =>
(oW (binN .lss x67 v71) fun v72 =>
(bW v72
(∃ (I73 : Nat → List Value → Heap → Prop) (k74 : Nat), gcL h (I73 k74) [x63, x64, x65, x66, x67, (.int .i64 0)] h68 ∧
∀ k76 : Nat, ∀ x77 : Value, ∀ x78 : Value, ∀ x79 : Value, ∀ x80 : Value, ∀ x81 : Value, ∀ x82 : Value, ∀ h83, I73 k76 [x77, x78, x79, x80, x81, x82] h83 →
(oW (lenS x78) fun v84 =>
(oW (binN .lss x82 v84) fun v85 =>
(bW v85
(oW (iaS 1 x78 x82) fun v86 =>
(oW (ldW false 1 h83 v86) fun v87 =>
(oW (unA .not v87) fun v88 =>
(bW v88
(oW (binN .add x82 (.int .i64 1)) fun v89 =>
(∃ m75, m75 < k76 ∧ gcL h (I73 m75) [x77, x78, x79, x80, x81, v89] h83))
(oW (faW 3 1 x77) fun v90 =>
(oW (ldW false 1 h83 v90) fun v91 =>
(oW (iaS 1 v91 x81) fun v92 =>
(oW (ldW false 1 h83 v92) fun v93 =>
(oW (slS 1 h83 v93 (some (.int .i64 1)) none none) fun v94 =>
(callW Try.prog (fn F_homographref26_spans) [x79, v94, x82] h83 fun v95 h96 =>
(∃ (I97 : Nat → List Value → Heap → Prop) (k98 : Nat), gcL h (I97 k98) [x77, x78, x79, x80, x81, x82, v95, (.int .i64 0)] h96 ∧
∀ k100 : Nat, ∀ x101 : Value, ∀ x102 : Value, ∀ x103 : Value, ∀ x104 : Value, ∀ x105 : Value, ∀ x106 : Value, ∀ x107 : Value, ∀ x108 : Value, ∀ h109, I97 k100 [x101, x102, x103, x104, x105, x106, x107, x108] h109 →
(oW (lenS x107) fun v110 =>
(oW (binN .lss x108 v110) fun v111 =>
(bW v111
(oW (faW 3 1 x101) fun v112 =>
(oW (ldW false 1 h109 v112) fun v113 =>
(oW (iaS 1 v113 x105) fun v114 =>
(oW (ldW false 1 h109 v114) fun v115 =>
(oW (iaS 1 v115 (.int .i64 0)) fun v116 =>
(oW (ldW false 1 h109 v116) fun v117 =>
(oW (iaS 1 x107 x108) fun v118 =>
(oW (ldW false 1 h109 v118) fun v119 =>
(oW (bldW [(.int .i64 0), (.int .i64 0), (.int .i64 0)] [(0, 1, v117), (1, 1, x106), (2, 1, v119)]) fun v120 =>
(callW Try.prog (fn F_homographref26_PutFact) [x103, v120] h109 fun v121 h122 =>
(keptW [v118, v116, v114, v112] h109 h122 ∧
(oW (binN .add x108 (.int .i64 1)) fun v123 =>
(∃ m99, m99 < k100 ∧ gcL h (I97 m99) [x101, x102, v121, x104, x105, x106, x107, v123] h122)))))))))))))
(oW (binN .add x106 (.int .i64 1)) fun v124 =>
(∃ m75, m75 < k76 ∧ gcL h (I73 m75) [x101, x102, x103, x104, x105, v124] h109))))))))))))))))
(oW (binN .add x81 (.int .i64 1)) fun v125 =>
(∃ m61, m61 < k62 ∧ gcL h (I59 m61) [x77, x78, x79, x80, v125] h83))))))
(∃ m49, m49 < k50 ∧ gcL h (I47 m49) [x63, x64, x65, x66] h68))))))))
(gcV h Q x53 h55)))))))))))))))
theorem W_homographref26_All_eq (a0 a1 : Value) (h : Heap) (Q : Value → Heap → Prop) : fW Try.prog ⟨[(21, [2, 5, 6, 9, 10, 11, 12, 13]), (16, [2, 5, 6, 9, 10, 11]), (13, [2, 5, 6, 9, 10]), (10, [2, 5, 6, 9]), (4, [2, 3, 5, 6, 7])], []⟩ Try.f21 [a0, a1] h Q = W_homographref26_All a0 a1 h Q := by kernel_rfl
theorem W_homographref26_All_ok {a0 a1 : Value} {h : Heap} {Q : Value → Heap → Prop} (e : W_homographref26_All a0 a1 h Q) : acall Try.prog F_homographref26_All [a0, a1] h Q :=
  by refine acall_of_fW mixed ⟨[(21, [2, 5, 6, 9, 10, 11, 12, 13]), (16, [2, 5, 6, 9, 10, 11]), (13, [2, 5, 6, 9, 10]), (10, [2, 5, 6, 9]), (4, [2, 3, 5, 6, 7])], []⟩ Try.func21 (by kernel_rfl) ?_; rw [W_homographref26_All_eq]; exact e

/-- homograph/count.of: loops {15: [2, 5, 11, 12, 13, 47, 48, 49, 56, 57], 12: [2, 5, 11, 47, 48, 49], 3: [1, 2, 5, 18, 19, 20]}; joins {} -/
def W_count_of (a0 a1 : Value) (h : Heap) (Q : Value → Heap → Prop) : Prop :=
(hW (boxA h a0) fun v1 h2 =>
(letH (h2 ++ [.map []]) fun h3 =>
(oW (lenS a1) fun v4 =>
(∃ (I5 : Nat → List Value → Heap → Prop) (k6 : Nat), gcL h (I5 k6) [a1, v1, (.map (some h2.length)), a1, v4, (.int .i64 0)] h3 ∧
∀ k8 : Nat, ∀ x9 : Value, ∀ x10 : Value, ∀ x11 : Value, ∀ x12 : Value, ∀ x13 : Value, ∀ x14 : Value, ∀ h15, I5 k8 [x9, x10, x11, x12, x13, x14] h15 →
(oW (binN .lss x14 x13) fun v16 =>
(bW v16
(oW (iaS 4 x12 x14) fun v17 =>
(oW (ldW true 4 h15 v17) fun v18 =>
(letH (h15 ++ [.row [(.int .i64 0), (.int .i64 0), (.int .i64 0), (.slice none 0 0)] .exact]) fun h19 =>
(sW (stW 4 h19 (.pointer (some ⟨h15.length, 0, none⟩)) v18) fun h20 =>
(oW (faW 0 1 (.pointer (some ⟨h15.length, 0, none⟩))) fun v21 =>
(oW (ldW false 1 h20 v21) fun v22 =>
(oW (faW 1 1 (.pointer (some ⟨h15.length, 0, none⟩))) fun v23 =>
(oW (ldW false 1 h20 v23) fun v24 =>
(oW (faW 2 1 (.pointer (some ⟨h15.length, 0, none⟩))) fun v25 =>
(oW (ldW false 1 h20 v25) fun v26 =>
(oW (bldW [(.int .i64 0), (.int .i64 0), (.int .i64 0)] [(0, 1, v22), (1, 1, v24), (2, 1, v26)]) fun v27 =>
(letH (h20 ++ [.row [(.int .i64 0), (.int .i64 0), (.int .i64 0)] .exact]) fun h28 =>
(sW (stW 3 h28 (.pointer (some ⟨h20.length, 0, none⟩)) v27) fun h29 =>
(oW (ldW true 3 h29 (.pointer (some ⟨h20.length, 0, none⟩))) fun v30 =>
(oW (lookupA Try.prog h29 88 x11 v30 true) fun v31 =>
(oW (extractA v31 0) fun v32 =>
(oW (extractA v31 1) fun v33 =>
(oW (unA .not v33) fun v34 =>
(bW v34
(oW (ldW true 3 h29 (.pointer (some ⟨h20.length, 0, none⟩))) fun v35 =>
(sW (updateA Try.prog h29 88 x11 v35 x14) fun h36 =>
(oW (binN .add x14 (.int .i64 1)) fun v37 =>
(∃ m7, m7 < k8 ∧ gcL h (I5 m7) [x9, x10, x11, x12, x13, v37] h36))))
(oW (binN .add x14 (.int .i64 1)) fun v38 =>
(∃ m7, m7 < k8 ∧ gcL h (I5 m7) [x9, x10, x11, x12, x13, v38] h29)))))))))))))))))))))
(oW (lenS x9) fun v39 =>
(hW (mksW [(.slice none 0 0)] 24 h15 v39 v39) fun v40 h41 =>
(oW (lenS x9) fun v42 =>
(∃ (I43 : Nat → List Value → Heap → Prop) (k44 : Nat), gcL h (I43 k44) [x10, x11, v40, x9, v42, (.int .i64 0)] h41 ∧
∀ k46 : Nat, ∀ x47 : Value, ∀ x48 : Value, ∀ x49 : Value, ∀ x50 : Value, ∀ x51 : Value, ∀ x52 : Value, ∀ h53, I43 k46 [x47, x48, x49, x50, x51, x52] h53 →
(oW (binN .lss x52 x51) fun v54 =>
(bW v54
(oW (iaS 4 x50 x52) fun v55 =>
(oW (ldW true 4 h53 v55) fun v56 =>
(letH (h53 ++ [.row [(.int .i64 0), (.int .i64 0), (.int .i64 0), (.slice none 0 0)] .exact]) fun h57 =>
(sW (stW 4 h57 (.pointer (some ⟨h53.length, 0, none⟩)) v56) fun h58 =>
(oW (faW 3 1 (.pointer (some ⟨h53.length, 0, none⟩))) fun v59 =>
(oW (ldW false 1 h58 v59) fun v60 =>
(oW (lenS v60) fun v61 =>
(∃ (I62 : Nat → List Value → Heap → Prop) (k63 : Nat), gcL h (I62 k63) [x47, x48, x49, x52, (.pointer (some ⟨h53.length, 0, none⟩)), x50, x51, x52, v61, (.int .i64 0)] h58 ∧
∀ k65 : Nat, ∀ x66 : Value, ∀ x67 : Value, ∀ x68 : Value, ∀ x69 : Value, ∀ x70 : Value, ∀ x71 : Value, ∀ x72 : Value, ∀ x73 : Value, ∀ x74 : Value, ∀ x75 : Value, ∀ h76, I62 k65 [x66, x67, x68, x69, x70, x71, x72, x73, x74, x75] h76 →
(oW (binN .lss x75 x74) fun v77 =>
(bW v77
(oW (ldW true 5 h76 x66) fun v78 =>
(oW (ldW true 4 h76 x70) fun v79 =>
(callW Try.prog (fn F_count_kids) [v78, v79, x75, x67] h76 fun v80 h81 =>
(oW (extractA v80 0) fun v82 =>
(oW (extractA v80 1) fun v83 =>
(bW v83
(oW (iaS 1 x68 x69) fun v84 =>
(oW (ldW false 1 h81 v84) fun v85 =>
(hW (bslW h81 1 [(.slice none 0 0)] [(0, 1, v82)]) fun v86 h87 =>
(hW (apW 1 24 h87 v85 v86) fun v88 h89 =>
(oW (iaS 1 x68 x69) fun v90 =>
(sW (stW 1 h89 v90 v88) fun h91 =>
(oW (binN .add x75 (.int .i64 1)) fun v92 =>
(∃ m64, m64 < k65 ∧ gcL h (I62 m64) [x66, x67, x68, x69, x70, x71, x72, x73, x74, v92] h91))))))))
(oW (binN .add x75 (.int .i64 1)) fun v93 =>
(∃ m64, m64 < k65 ∧ gcL h (I62 m64) [x66, x67, x68, x69, x70, x71, x72, x73, x74, v93] h81))))))))
(oW (binN .add x73 (.int .i64 1)) fun v94 =>
(∃ m45, m45 < k46 ∧ gcL h (I43 m45) [x66, x67, x68, x71, x72, v94] h76))))))))))))
(gcV h Q x49 h53)))))))))))))
theorem W_count_of_eq (a0 a1 : Value) (h : Heap) (Q : Value → Heap → Prop) : fW Try.prog ⟨[(15, [2, 5, 11, 12, 13, 47, 48, 49, 56, 57]), (12, [2, 5, 11, 47, 48, 49]), (3, [1, 2, 5, 18, 19, 20])], []⟩ Try.f22 [a0, a1] h Q = W_count_of a0 a1 h Q := by kernel_rfl
theorem W_count_of_ok {a0 a1 : Value} {h : Heap} {Q : Value → Heap → Prop} (e : W_count_of a0 a1 h Q) : acall Try.prog F_count_of [a0, a1] h Q :=
  by refine acall_of_fW mixed ⟨[(15, [2, 5, 11, 12, 13, 47, 48, 49, 56, 57]), (12, [2, 5, 11, 47, 48, 49]), (3, [1, 2, 5, 18, 19, 20])], []⟩ Try.func22 (by kernel_rfl) ?_; rw [W_count_of_eq]; exact e

/-- (homograph/count.knots).steps: loops {6: [3, 4, 11, 12, 13, 18, 19, 20], 3: [3, 11, 12, 13]}; joins {} -/
def W_count_knots_steps (a0 : Value) (h : Heap) (Q : Value → Heap → Prop) : Prop :=
(oW (lenS a0) fun v1 =>
(hW (mksW [(.slice none 0 0)] 24 h v1 v1) fun v2 h3 =>
(oW (lenS a0) fun v4 =>
(∃ (I5 : Nat → List Value → Heap → Prop) (k6 : Nat), gcL h (I5 k6) [v2, a0, v4, (.int .i64 0)] h3 ∧
∀ k8 : Nat, ∀ x9 : Value, ∀ x10 : Value, ∀ x11 : Value, ∀ x12 : Value, ∀ h13, I5 k8 [x9, x10, x11, x12] h13 →
(oW (binN .lss x12 x11) fun v14 =>
(bW v14
(oW (iaS 1 x10 x12) fun v15 =>
(oW (ldW false 1 h13 v15) fun v16 =>
(oW (lenS v16) fun v17 =>
(∃ (I18 : Nat → List Value → Heap → Prop) (k19 : Nat), gcL h (I18 k19) [x9, x12, x10, x11, x12, v16, v17, (.int .i64 0)] h13 ∧
∀ k21 : Nat, ∀ x22 : Value, ∀ x23 : Value, ∀ x24 : Value, ∀ x25 : Value, ∀ x26 : Value, ∀ x27 : Value, ∀ x28 : Value, ∀ x29 : Value, ∀ h30, I18 k21 [x22, x23, x24, x25, x26, x27, x28, x29] h30 →
(oW (binN .lss x29 x28) fun v31 =>
(bW v31
(oW (iaS 1 x27 x29) fun v32 =>
(oW (ldW false 1 h30 v32) fun v33 =>
(oW (iaS 1 x22 x23) fun v34 =>
(oW (ldW false 1 h30 v34) fun v35 =>
(hW (apW 1 8 h30 v35 v33) fun v36 h37 =>
(oW (iaS 1 x22 x23) fun v38 =>
(sW (stW 1 h37 v38 v36) fun h39 =>
(oW (binN .add x29 (.int .i64 1)) fun v40 =>
(∃ m20, m20 < k21 ∧ gcL h (I18 m20) [x22, x23, x24, x25, x26, x27, x28, v40] h39)))))))))
(oW (iaS 1 x22 x23) fun v41 =>
(oW (ldW false 1 h30 v41) fun v42 =>
(callW Try.prog (fn F_slices_Sort_int_int) [v42] h30 fun v43 h44 =>
(oW (iaS 1 x22 x23) fun v45 =>
(oW (ldW false 1 h44 v45) fun v46 =>
(callW Try.prog (fn F_slices_Compact_int_int) [v46] h44 fun v47 h48 =>
(oW (iaS 1 x22 x23) fun v49 =>
(sW (stW 1 h48 v49 v47) fun h50 =>
(oW (binN .add x26 (.int .i64 1)) fun v51 =>
(∃ m7, m7 < k8 ∧ gcL h (I5 m7) [x22, x24, x25, v51] h50))))))))))))))))
(gcV h Q x9 h13)))))))
theorem W_count_knots_steps_eq (a0 : Value) (h : Heap) (Q : Value → Heap → Prop) : fW Try.prog ⟨[(6, [3, 4, 11, 12, 13, 18, 19, 20]), (3, [3, 11, 12, 13])], []⟩ Try.f23 [a0] h Q = W_count_knots_steps a0 h Q := by kernel_rfl
theorem W_count_knots_steps_ok {a0 : Value} {h : Heap} {Q : Value → Heap → Prop} (e : W_count_knots_steps a0 h Q) : acall Try.prog F_count_knots_steps [a0] h Q :=
  by refine acall_of_fW mixed ⟨[(6, [3, 4, 11, 12, 13, 18, 19, 20]), (3, [3, 11, 12, 13])], []⟩ Try.func23 (by kernel_rfl) ?_; rw [W_count_knots_steps_eq]; exact e

/-- homograph/count.behind: loops {3: [0, 5, 6]}; joins {} -/
def W_count_behind (a0 a1 : Value) (h : Heap) (Q : Value → Heap → Prop) : Prop :=
(oW (lenS a0) fun v1 =>
(hW (mksW [(.bool false)] 1 h v1 v1) fun v2 h3 =>
(oW (iaS 1 a0 a1) fun v4 =>
(oW (ldW false 1 h3 v4) fun v5 =>
(callW Try.prog (fn F_slices_Clone_int_int) [v5] h3 fun v6 h7 =>
(∃ (I8 : Nat → List Value → Heap → Prop) (k9 : Nat), gcL h (I8 k9) [a0, v2, v6] h7 ∧
∀ k11 : Nat, ∀ x12 : Value, ∀ x13 : Value, ∀ x14 : Value, ∀ h15, I8 k11 [x12, x13, x14] h15 →
(oW (lenS x14) fun v16 =>
(oW (binN .gtr v16 (.int .i64 0)) fun v17 =>
(bW v17
(oW (lenS x14) fun v18 =>
(oW (binN .sub v18 (.int .i64 1)) fun v19 =>
(oW (iaS 1 x14 v19) fun v20 =>
(oW (ldW false 1 h15 v20) fun v21 =>
(oW (lenS x14) fun v22 =>
(oW (binN .sub v22 (.int .i64 1)) fun v23 =>
(oW (slS 1 h15 x14 none (some v23) none) fun v24 =>
(oW (iaS 1 x13 v21) fun v25 =>
(oW (ldW false 1 h15 v25) fun v26 =>
(oW (unA .not v26) fun v27 =>
(bW v27
(oW (iaS 1 x13 v21) fun v28 =>
(sW (stW 1 h15 v28 (.bool true)) fun h29 =>
(oW (iaS 1 x12 v21) fun v30 =>
(oW (ldW false 1 h29 v30) fun v31 =>
(hW (apW 1 8 h29 v24 v31) fun v32 h33 =>
(∃ m10, m10 < k11 ∧ gcL h (I8 m10) [x12, x13, v32] h33))))))
(∃ m10, m10 < k11 ∧ gcL h (I8 m10) [x12, x13, v24] h15))))))))))))
(gcV h Q x13 h15))))))))))
theorem W_count_behind_eq (a0 a1 : Value) (h : Heap) (Q : Value → Heap → Prop) : fW Try.prog ⟨[(3, [0, 5, 6])], []⟩ Try.f24 [a0, a1] h Q = W_count_behind a0 a1 h Q := by kernel_rfl
theorem W_count_behind_ok {a0 a1 : Value} {h : Heap} {Q : Value → Heap → Prop} (e : W_count_behind a0 a1 h Q) : acall Try.prog F_count_behind [a0, a1] h Q :=
  by refine acall_of_fW mixed ⟨[(3, [0, 5, 6])], []⟩ Try.func24 (by kernel_rfl) ?_; rw [W_count_behind_eq]; exact e

/-- (homograph/count.knots).fertile: loops {7: [3, 4, 5, 14, 15, 16, 21, 22, 23], 4: [3, 4, 14, 15, 16]}; joins {} -/
def W_count_knots_fertile (a0 : Value) (h : Heap) (Q : Value → Heap → Prop) : Prop :=
(callW Try.prog (fn F_count_knots_least) [a0] h fun v1 h2 =>
(letH (h2 ++ [.row [(.slice none 0 0)] .exact]) fun h3 =>
(sW (stW 1 h3 (.pointer (some ⟨h2.length, 0, none⟩)) v1) fun h4 =>
(oW (lenS a0) fun v5 =>
(hW (mksW [(.slice none 0 0)] 24 h4 v5 v5) fun v6 h7 =>
(oW (lenS a0) fun v8 =>
(∃ (I9 : Nat → List Value → Heap → Prop) (k10 : Nat), gcL h (I9 k10) [(.pointer (some ⟨h2.length, 0, none⟩)), v6, a0, v8, (.int .i64 0)] h7 ∧
∀ k12 : Nat, ∀ x13 : Value, ∀ x14 : Value, ∀ x15 : Value, ∀ x16 : Value, ∀ x17 : Value, ∀ h18, I9 k12 [x13, x14, x15, x16, x17] h18 →
(oW (binN .lss x17 x16) fun v19 =>
(bW v19
(oW (iaS 1 x15 x17) fun v20 =>
(oW (ldW false 1 h18 v20) fun v21 =>
(oW (lenS v21) fun v22 =>
(∃ (I23 : Nat → List Value → Heap → Prop) (k24 : Nat), gcL h (I23 k24) [x13, x14, x17, x15, x16, x17, v21, v22, (.int .i64 0)] h18 ∧
∀ k26 : Nat, ∀ x27 : Value, ∀ x28 : Value, ∀ x29 : Value, ∀ x30 : Value, ∀ x31 : Value, ∀ x32 : Value, ∀ x33 : Value, ∀ x34 : Value, ∀ x35 : Value, ∀ h36, I23 k26 [x27, x28, x29, x30, x31, x32, x33, x34, x35] h36 →
(oW (binN .lss x35 x34) fun v37 =>
(bW v37
(oW (iaS 1 x33 x35) fun v38 =>
(oW (ldW false 1 h36 v38) fun v39 =>
(callW Try.prog (fn F_slices_ContainsFunc_int_int) [v39, (.func (.func F_count_knots_fertile_D1) #[] #[x27])] h36 fun v40 h41 =>
(oW (unA .not v40) fun v42 =>
(bW v42
(oW (iaS 1 x28 x29) fun v43 =>
(oW (ldW false 1 h41 v43) fun v44 =>
(hW (bslW h41 1 [(.slice none 0 0)] [(0, 1, v39)]) fun v45 h46 =>
(hW (apW 1 24 h46 v44 v45) fun v47 h48 =>
(oW (iaS 1 x28 x29) fun v49 =>
(sW (stW 1 h48 v49 v47) fun h50 =>
(oW (binN .add x35 (.int .i64 1)) fun v51 =>
(∃ m25, m25 < k26 ∧ gcL h (I23 m25) [x27, x28, x29, x30, x31, x32, x33, x34, v51] h50))))))))
(oW (binN .add x35 (.int .i64 1)) fun v52 =>
(∃ m25, m25 < k26 ∧ gcL h (I23 m25) [x27, x28, x29, x30, x31, x32, x33, x34, v52] h41)))))))
(oW (binN .add x32 (.int .i64 1)) fun v53 =>
(∃ m11, m11 < k12 ∧ gcL h (I9 m11) [x27, x28, x30, x31, v53] h36))))))))
(gcV h Q x14 h18))))))))))
theorem W_count_knots_fertile_eq (a0 : Value) (h : Heap) (Q : Value → Heap → Prop) : fW Try.prog ⟨[(7, [3, 4, 5, 14, 15, 16, 21, 22, 23]), (4, [3, 4, 14, 15, 16])], []⟩ Try.f25 [a0] h Q = W_count_knots_fertile a0 h Q := by kernel_rfl
theorem W_count_knots_fertile_ok {a0 : Value} {h : Heap} {Q : Value → Heap → Prop} (e : W_count_knots_fertile a0 h Q) : acall Try.prog F_count_knots_fertile [a0] h Q :=
  by refine acall_of_fW mixed ⟨[(7, [3, 4, 5, 14, 15, 16, 21, 22, 23]), (4, [3, 4, 14, 15, 16])], []⟩ Try.func25 (by kernel_rfl) ?_; rw [W_count_knots_fertile_eq]; exact e

/-- (homograph/count.knots).total: loops {10: [0, 1, 2, 9, 12, 26, 27, 28, 32, 33, 34], 6: [0, 1, 2, 9, 26, 27, 28]}; joins {} -/
def W_count_knots_total (a0 a1 a2 : Value) (h : Heap) (Q : Value → Heap → Prop) : Prop :=
(oW (lkS (.int .i64) (.int .i64 0) true h a2 a1) fun v1 =>
(oW (extractA v1 0) fun v2 =>
(oW (extractA v1 1) fun v3 =>
(bW v3
(gcV h Q v2 h)
(oW (iaS 1 a0 a1) fun v4 =>
(oW (ldW false 1 h v4) fun v5 =>
(oW (lenS v5) fun v6 =>
(∃ (I7 : Nat → List Value → Heap → Prop) (k8 : Nat), gcL h (I7 k8) [a0, a1, a2, (.int .i64 0), v5, v6, (.int .i64 0)] h ∧
∀ k10 : Nat, ∀ x11 : Value, ∀ x12 : Value, ∀ x13 : Value, ∀ x14 : Value, ∀ x15 : Value, ∀ x16 : Value, ∀ x17 : Value, ∀ h18, I7 k10 [x11, x12, x13, x14, x15, x16, x17] h18 →
(oW (binN .lss x17 x16) fun v19 =>
(bW v19
(oW (iaS 1 x15 x17) fun v20 =>
(oW (ldW false 1 h18 v20) fun v21 =>
(oW (lenS v21) fun v22 =>
(∃ (I23 : Nat → List Value → Heap → Prop) (k24 : Nat), gcL h (I23 k24) [x11, x12, x13, x14, (.int .i64 1), x15, x16, x17, v21, v22, (.int .i64 0)] h18 ∧
∀ k26 : Nat, ∀ x27 : Value, ∀ x28 : Value, ∀ x29 : Value, ∀ x30 : Value, ∀ x31 : Value, ∀ x32 : Value, ∀ x33 : Value, ∀ x34 : Value, ∀ x35 : Value, ∀ x36 : Value, ∀ x37 : Value, ∀ h38, I23 k26 [x27, x28, x29, x30, x31, x32, x33, x34, x35, x36, x37] h38 →
(oW (binN .lss x37 x36) fun v39 =>
(bW v39
(oW (iaS 1 x35 x37) fun v40 =>
(oW (ldW false 1 h38 v40) fun v41 =>
(callW Try.prog (fn F_count_knots_total) [x27, v41, x29] h38 fun v42 h43 =>
(callW Try.prog (fn F_count_mul) [x31, v42] h43 fun v44 h45 =>
(oW (binN .add x37 (.int .i64 1)) fun v46 =>
(∃ m25, m25 < k26 ∧ gcL h (I23 m25) [x27, x28, x29, x30, v44, x32, x33, x34, x35, x36, v46] h45))))))
(callW Try.prog (fn F_count_add) [x30, x31] h38 fun v47 h48 =>
(oW (binN .add x34 (.int .i64 1)) fun v49 =>
(∃ m9, m9 < k10 ∧ gcL h (I7 m9) [x27, x28, x29, v47, x32, x33, v49] h48)))))))))
(sW (upS (.int .i64) h18 x13 x12 x14) fun h50 =>
(gcV h Q x14 h50))))))))))))
theorem W_count_knots_total_eq (a0 a1 a2 : Value) (h : Heap) (Q : Value → Heap → Prop) : fW Try.prog ⟨[(10, [0, 1, 2, 9, 12, 26, 27, 28, 32, 33, 34]), (6, [0, 1, 2, 9, 26, 27, 28])], []⟩ Try.f26 [a0, a1, a2] h Q = W_count_knots_total a0 a1 a2 h Q := by kernel_rfl
theorem W_count_knots_total_ok {a0 a1 a2 : Value} {h : Heap} {Q : Value → Heap → Prop} (e : W_count_knots_total a0 a1 a2 h Q) : acall Try.prog F_count_knots_total [a0, a1, a2] h Q :=
  by refine acall_of_fW mixed ⟨[(10, [0, 1, 2, 9, 12, 26, 27, 28, 32, 33, 34]), (6, [0, 1, 2, 9, 26, 27, 28])], []⟩ Try.func26 (by kernel_rfl) ?_; rw [W_count_knots_total_eq]; exact e

/-- homograph/homographref28.fertile: loops {11: [0, 3, 4, 5, 6, 7, 8], 7: [0, 3, 4, 5, 6], 4: [0, 3, 4, 5]}; joins {} -/
def W_homographref28_fertile (a0 : Value) (h : Heap) (Q : Value → Heap → Prop) : Prop :=
(callW Try.prog (fn F_homographref28_least) [a0] h fun v1 h2 =>
(oW (lenS a0) fun v3 =>
(hW (mksW [(.slice none 0 0)] 24 h2 v3 v3) fun v4 h5 =>
(∃ (I6 : Nat → List Value → Heap → Prop) (k7 : Nat), gcL h (I6 k7) [a0, v1, v4, (.int .i64 0)] h5 ∧
∀ k9 : Nat, ∀ x10 : Value, ∀ x11 : Value, ∀ x12 : Value, ∀ x13 : Value, ∀ h14, I6 k9 [x10, x11, x12, x13] h14 →
(oW (lenS x10) fun v15 =>
(oW (binN .lss x13 v15) fun v16 =>
(bW v16
(∃ (I17 : Nat → List Value → Heap → Prop) (k18 : Nat), gcL h (I17 k18) [x10, x11, x12, x13, (.int .i64 0)] h14 ∧
∀ k20 : Nat, ∀ x21 : Value, ∀ x22 : Value, ∀ x23 : Value, ∀ x24 : Value, ∀ x25 : Value, ∀ h26, I17 k20 [x21, x22, x23, x24, x25] h26 →
(oW (iaS 1 x21 x24) fun v27 =>
(oW (ldW false 1 h26 v27) fun v28 =>
(oW (lenS v28) fun v29 =>
(oW (binN .lss x25 v29) fun v30 =>
(bW v30
(∃ (I31 : Nat → List Value → Heap → Prop) (k32 : Nat), gcL h (I31 k32) [x21, x22, x23, x24, x25, (.bool true), (.int .i64 0)] h26 ∧
∀ k34 : Nat, ∀ x35 : Value, ∀ x36 : Value, ∀ x37 : Value, ∀ x38 : Value, ∀ x39 : Value, ∀ x40 : Value, ∀ x41 : Value, ∀ h42, I31 k34 [x35, x36, x37, x38, x39, x40, x41] h42 →
(oW (iaS 1 x35 x38) fun v43 =>
(oW (ldW false 1 h42 v43) fun v44 =>
(oW (iaS 1 v44 x39) fun v45 =>
(oW (ldW false 1 h42 v45) fun v46 =>
(oW (lenS v46) fun v47 =>
(oW (binN .lss x41 v47) fun v48 =>
(bW v48
(bW x40
(oW (iaS 1 x35 x38) fun v49 =>
(oW (ldW false 1 h42 v49) fun v50 =>
(oW (iaS 1 v50 x39) fun v51 =>
(oW (ldW false 1 h42 v51) fun v52 =>
(oW (iaS 1 v52 x41) fun v53 =>
(oW (ldW false 1 h42 v53) fun v54 =>
(oW (iaS 1 x36 v54) fun v55 =>
(oW (ldW false 1 h42 v55) fun v56 =>
(oW (binN .gtr v56 (.int .i64 0)) fun v57 =>
(oW (binN .add x41 (.int .i64 1)) fun v58 =>
(∃ m33, m33 < k34 ∧ gcL h (I31 m33) [x35, x36, x37, x38, x39, v57, v58] h42)))))))))))
(oW (binN .add x41 (.int .i64 1)) fun v59 =>
(∃ m33, m33 < k34 ∧ gcL h (I31 m33) [x35, x36, x37, x38, x39, (.bool false), v59] h42)))
(bW x40
(oW (iaS 1 x37 x38) fun v60 =>
(oW (ldW false 1 h42 v60) fun v61 =>
(oW (iaS 1 x35 x38) fun v62 =>
(oW (ldW false 1 h42 v62) fun v63 =>
(oW (iaS 1 v63 x39) fun v64 =>
(oW (ldW false 1 h42 v64) fun v65 =>
(hW (bslW h42 1 [(.slice none 0 0)] [(0, 1, v65)]) fun v66 h67 =>
(keptW [v64, v62, v60] h42 h67 ∧
(hW (apW 1 24 h67 v61 v66) fun v68 h69 =>
(keptW [v64, v62] h67 h69 ∧
(oW (iaS 1 x37 x38) fun v70 =>
(sW (stW 1 h69 v70 v68) fun h71 =>
(oW (binN .add x39 (.int .i64 1)) fun v72 =>
(∃ m19, m19 < k20 ∧ gcL h (I17 m19) [x35, x36, x37, x38, v72] h71))))))))))))))
(oW (binN .add x39 (.int .i64 1)) fun v73 =>
(∃ m19, m19 < k20 ∧ gcL h (I17 m19) [x35, x36, x37, x38, v73] h42)))))))))))
(oW (binN .add x24 (.int .i64 1)) fun v74 =>
(∃ m8, m8 < k9 ∧ gcL h (I6 m8) [x21, x22, x23, v74] h26))))))))
(gcV h Q x12 h14))))))))
theorem W_homographref28_fertile_eq (a0 : Value) (h : Heap) (Q : Value → Heap → Prop) : fW Try.prog ⟨[(11, [0, 3, 4, 5, 6, 7, 8]), (7, [0, 3, 4, 5, 6]), (4, [0, 3, 4, 5])], []⟩ Try.f27 [a0] h Q = W_homographref28_fertile a0 h Q := by kernel_rfl
theorem W_homographref28_fertile_ok {a0 : Value} {h : Heap} {Q : Value → Heap → Prop} (e : W_homographref28_fertile a0 h Q) : acall Try.prog F_homographref28_fertile [a0] h Q :=
  by refine acall_of_fW mixed ⟨[(11, [0, 3, 4, 5, 6, 7, 8]), (7, [0, 3, 4, 5, 6]), (4, [0, 3, 4, 5])], []⟩ Try.func27 (by kernel_rfl) ?_; rw [W_homographref28_fertile_eq]; exact e

/-- homograph/homographref28.kids: loops {6: [1, 2, 5, 6, 7], 3: [1, 2, 5, 6]}; joins {} -/
def W_homographref28_kids (a0 a1 : Value) (h : Heap) (Q : Value → Heap → Prop) : Prop :=
(hW (boxA h a0) fun v1 h2 =>
(oW (lenS a1) fun v3 =>
(hW (mksW [(.slice none 0 0)] 24 h2 v3 v3) fun v4 h5 =>
(∃ (I6 : Nat → List Value → Heap → Prop) (k7 : Nat), gcL h (I6 k7) [a1, v1, v4, (.int .i64 0)] h5 ∧
∀ k9 : Nat, ∀ x10 : Value, ∀ x11 : Value, ∀ x12 : Value, ∀ x13 : Value, ∀ h14, I6 k9 [x10, x11, x12, x13] h14 →
(oW (lenS x10) fun v15 =>
(oW (binN .lss x13 v15) fun v16 =>
(bW v16
(∃ (I17 : Nat → List Value → Heap → Prop) (k18 : Nat), gcL h (I17 k18) [x10, x11, x12, x13, (.int .i64 0)] h14 ∧
∀ k20 : Nat, ∀ x21 : Value, ∀ x22 : Value, ∀ x23 : Value, ∀ x24 : Value, ∀ x25 : Value, ∀ h26, I17 k20 [x21, x22, x23, x24, x25] h26 →
(oW (iaS 4 x21 x24) fun v27 =>
(oW (faW 3 1 v27) fun v28 =>
(oW (ldW false 1 h26 v28) fun v29 =>
(oW (lenS v29) fun v30 =>
(oW (binN .lss x25 v30) fun v31 =>
(bW v31
(oW (ldW true 5 h26 x22) fun v32 =>
(callW Try.prog (fn F_homographref28_Kids) [v32, x21, x24, x25] h26 fun v33 h34 =>
(oW (extractA v33 0) fun v35 =>
(oW (extractA v33 1) fun v36 =>
(bW v36
(oW (iaS 1 x23 x24) fun v37 =>
(oW (ldW false 1 h34 v37) fun v38 =>
(hW (bslW h34 1 [(.slice none 0 0)] [(0, 1, v35)]) fun v39 h40 =>
(hW (apW 1 24 h40 v38 v39) fun v41 h42 =>
(oW (iaS 1 x23 x24) fun v43 =>
(sW (stW 1 h42 v43 v41) fun h44 =>
(oW (binN .add x25 (.int .i64 1)) fun v45 =>
(∃ m19, m19 < k20 ∧ gcL h (I17 m19) [x21, x22, x23, x24, v45] h44))))))))
(oW (binN .add x25 (.int .i64 1)) fun v46 =>
(∃ m19, m19 < k20 ∧ gcL h (I17 m19) [x21, x22, x23, x24, v46] h34)))))))
(oW (binN .add x24 (.int .i64 1)) fun v47 =>
(∃ m8, m8 < k9 ∧ gcL h (I6 m8) [x21, x22, x23, v47] h26)))))))))
(gcV h Q x12 h14))))))))
theorem W_homographref28_kids_eq (a0 a1 : Value) (h : Heap) (Q : Value → Heap → Prop) : fW Try.prog ⟨[(6, [1, 2, 5, 6, 7]), (3, [1, 2, 5, 6])], []⟩ Try.f28 [a0, a1] h Q = W_homographref28_kids a0 a1 h Q := by kernel_rfl
theorem W_homographref28_kids_ok {a0 a1 : Value} {h : Heap} {Q : Value → Heap → Prop} (e : W_homographref28_kids a0 a1 h Q) : acall Try.prog F_homographref28_kids [a0, a1] h Q :=
  by refine acall_of_fW mixed ⟨[(6, [1, 2, 5, 6, 7]), (3, [1, 2, 5, 6])], []⟩ Try.func28 (by kernel_rfl) ?_; rw [W_homographref28_kids_eq]; exact e

/-- homograph/homographref28.leads: loops {22: [3, 4, 9, 10, 11], 19: [3, 4, 9, 10], 16: [3, 4, 9], 11: [0, 3, 4, 5, 6, 7, 8], 8: [0, 3, 4, 5, 6, 7], 4: [0, 3, 4, 5]}; joins {} -/
def W_homographref28_leads (a0 : Value) (h : Heap) (Q : Value → Heap → Prop) : Prop :=
(oW (lenS a0) fun v1 =>
(∃ (I2 : Nat → List Value → Heap → Prop) (k3 : Nat), gcL h (I2 k3) [a0, v1, (.slice none 0 0), (.int .i64 0)] h ∧
∀ k5 : Nat, ∀ x6 : Value, ∀ x7 : Value, ∀ x8 : Value, ∀ x9 : Value, ∀ h10, I2 k5 [x6, x7, x8, x9] h10 →
(oW (binN .lss x9 x7) fun v11 =>
(bW v11
(hW (mksW [(.bool false)] 1 h10 x7 x7) fun v12 h13 =>
(∃ (I14 : Nat → List Value → Heap → Prop) (k15 : Nat), gcL h (I14 k15) [x6, x7, x8, x9, v12, (.int .i64 0)] h13 ∧
∀ k17 : Nat, ∀ x18 : Value, ∀ x19 : Value, ∀ x20 : Value, ∀ x21 : Value, ∀ x22 : Value, ∀ x23 : Value, ∀ h24, I14 k17 [x18, x19, x20, x21, x22, x23] h24 →
(oW (iaS 1 x18 x21) fun v25 =>
(oW (ldW false 1 h24 v25) fun v26 =>
(oW (lenS v26) fun v27 =>
(oW (binN .lss x23 v27) fun v28 =>
(bW v28
(∃ (I29 : Nat → List Value → Heap → Prop) (k30 : Nat), gcL h (I29 k30) [x18, x19, x20, x21, x22, x23, (.int .i64 0)] h24 ∧
∀ k32 : Nat, ∀ x33 : Value, ∀ x34 : Value, ∀ x35 : Value, ∀ x36 : Value, ∀ x37 : Value, ∀ x38 : Value, ∀ x39 : Value, ∀ h40, I29 k32 [x33, x34, x35, x36, x37, x38, x39] h40 →
(oW (iaS 1 x33 x36) fun v41 =>
(oW (ldW false 1 h40 v41) fun v42 =>
(oW (iaS 1 v42 x38) fun v43 =>
(oW (ldW false 1 h40 v43) fun v44 =>
(oW (lenS v44) fun v45 =>
(oW (binN .lss x39 v45) fun v46 =>
(bW v46
(oW (iaS 1 x33 x36) fun v47 =>
(oW (ldW false 1 h40 v47) fun v48 =>
(oW (iaS 1 v48 x38) fun v49 =>
(oW (ldW false 1 h40 v49) fun v50 =>
(oW (iaS 1 v50 x39) fun v51 =>
(oW (ldW false 1 h40 v51) fun v52 =>
(oW (iaS 1 x37 v52) fun v53 =>
(sW (stW 1 h40 v53 (.bool true)) fun h54 =>
(oW (binN .add x39 (.int .i64 1)) fun v55 =>
(∃ m31, m31 < k32 ∧ gcL h (I29 m31) [x33, x34, x35, x36, x37, x38, v55] h54))))))))))
(oW (binN .add x38 (.int .i64 1)) fun v56 =>
(∃ m16, m16 < k17 ∧ gcL h (I14 m16) [x33, x34, x35, x36, x37, v56] h40))))))))))
(hW (bslW h24 1 [(.slice none 0 0)] [(0, 1, x22)]) fun v57 h58 =>
(hW (apW 1 24 h58 x20 v57) fun v59 h60 =>
(oW (binN .add x21 (.int .i64 1)) fun v61 =>
(∃ m4, m4 < k5 ∧ gcL h (I2 m4) [x18, x19, v59, v61] h60)))))))))))
(∃ (I62 : Nat → List Value → Heap → Prop) (k63 : Nat), gcL h (I62 k63) [x7, x8, (.int .i64 0)] h10 ∧
∀ k65 : Nat, ∀ x66 : Value, ∀ x67 : Value, ∀ x68 : Value, ∀ h69, I62 k65 [x66, x67, x68] h69 →
(oW (binN .lss x68 x66) fun v70 =>
(bW v70
(∃ (I71 : Nat → List Value → Heap → Prop) (k72 : Nat), gcL h (I71 k72) [x66, x67, x68, (.int .i64 0)] h69 ∧
∀ k74 : Nat, ∀ x75 : Value, ∀ x76 : Value, ∀ x77 : Value, ∀ x78 : Value, ∀ h79, I71 k74 [x75, x76, x77, x78] h79 →
(oW (binN .lss x78 x75) fun v80 =>
(bW v80
(∃ (I81 : Nat → List Value → Heap → Prop) (k82 : Nat), gcL h (I81 k82) [x75, x76, x77, x78, (.int .i64 0)] h79 ∧
∀ k84 : Nat, ∀ x85 : Value, ∀ x86 : Value, ∀ x87 : Value, ∀ x88 : Value, ∀ x89 : Value, ∀ h90, I81 k84 [x85, x86, x87, x88, x89] h90 →
(oW (binN .lss x89 x85) fun v91 =>
(bW v91
(oW (iaS 1 x86 x88) fun v92 =>
(oW (ldW false 1 h90 v92) fun v93 =>
(oW (iaS 1 v93 x87) fun v94 =>
(oW (ldW false 1 h90 v94) fun v95 =>
(bW v95
(oW (iaS 1 x86 x88) fun v96 =>
(oW (ldW false 1 h90 v96) fun v97 =>
(oW (iaS 1 x86 x88) fun v98 =>
(oW (ldW false 1 h90 v98) fun v99 =>
(oW (iaS 1 v99 x89) fun v100 =>
(oW (ldW false 1 h90 v100) fun v101 =>
(bW v101
(oW (iaS 1 v97 x89) fun v102 =>
(sW (stW 1 h90 v102 (.bool true)) fun h103 =>
(oW (binN .add x89 (.int .i64 1)) fun v104 =>
(∃ m83, m83 < k84 ∧ gcL h (I81 m83) [x85, x86, x87, x88, v104] h103))))
(oW (iaS 1 x86 x87) fun v105 =>
(oW (ldW false 1 h90 v105) fun v106 =>
(oW (iaS 1 v106 x89) fun v107 =>
(oW (ldW false 1 h90 v107) fun v108 =>
(oW (iaS 1 v97 x89) fun v109 =>
(sW (stW 1 h90 v109 v108) fun h110 =>
(oW (binN .add x89 (.int .i64 1)) fun v111 =>
(∃ m83, m83 < k84 ∧ gcL h (I81 m83) [x85, x86, x87, x88, v111] h110)))))))))))))))
(oW (binN .add x88 (.int .i64 1)) fun v112 =>
(∃ m73, m73 < k74 ∧ gcL h (I71 m73) [x85, x86, x87, v112] h90)))))))
(bW (.bool false)
(oW (iaS 1 x86 x88) fun v113 =>
(oW (ldW false 1 h90 v113) fun v114 =>
(oW (iaS 1 x86 x88) fun v115 =>
(oW (ldW false 1 h90 v115) fun v116 =>
(oW (iaS 1 v116 x89) fun v117 =>
(oW (ldW false 1 h90 v117) fun v118 =>
(bW v118
(oW (iaS 1 v114 x89) fun v119 =>
(sW (stW 1 h90 v119 (.bool true)) fun h120 =>
(oW (binN .add x89 (.int .i64 1)) fun v121 =>
(∃ m83, m83 < k84 ∧ gcL h (I81 m83) [x85, x86, x87, x88, v121] h120))))
(oW (iaS 1 x86 x87) fun v122 =>
(oW (ldW false 1 h90 v122) fun v123 =>
(oW (iaS 1 v123 x89) fun v124 =>
(oW (ldW false 1 h90 v124) fun v125 =>
(oW (iaS 1 v114 x89) fun v126 =>
(sW (stW 1 h90 v126 v125) fun h127 =>
(oW (binN .add x89 (.int .i64 1)) fun v128 =>
(∃ m83, m83 < k84 ∧ gcL h (I81 m83) [x85, x86, x87, x88, v128] h127)))))))))))))))
(oW (binN .add x88 (.int .i64 1)) fun v129 =>
(∃ m73, m73 < k74 ∧ gcL h (I71 m73) [x85, x86, x87, v129] h90))))))
(oW (binN .add x77 (.int .i64 1)) fun v130 =>
(∃ m64, m64 < k65 ∧ gcL h (I62 m64) [x75, x76, v130] h79)))))
(gcV h Q x67 h69))))))))
theorem W_homographref28_leads_eq (a0 : Value) (h : Heap) (Q : Value → Heap → Prop) : fW Try.prog ⟨[(22, [3, 4, 9, 10, 11]), (19, [3, 4, 9, 10]), (16, [3, 4, 9]), (11, [0, 3, 4, 5, 6, 7, 8]), (8, [0, 3, 4, 5, 6, 7]), (4, [0, 3, 4, 5])], []⟩ Try.f29 [a0] h Q = W_homographref28_leads a0 h Q := by kernel_rfl
theorem W_homographref28_leads_ok {a0 : Value} {h : Heap} {Q : Value → Heap → Prop} (e : W_homographref28_leads a0 h Q) : acall Try.prog F_homographref28_leads [a0] h Q :=
  by refine acall_of_fW mixed ⟨[(22, [3, 4, 9, 10, 11]), (19, [3, 4, 9, 10]), (16, [3, 4, 9]), (11, [0, 3, 4, 5, 6, 7, 8]), (8, [0, 3, 4, 5, 6, 7]), (4, [0, 3, 4, 5])], []⟩ Try.func29 (by kernel_rfl) ?_; rw [W_homographref28_leads_eq]; exact e

/-- homograph/homographref28.total: loops {9: [0, 1, 2, 8, 9, 10, 11], 5: [0, 1, 2, 8, 9]}; joins {} -/
def W_homographref28_total (a0 a1 a2 : Value) (h : Heap) (Q : Value → Heap → Prop) : Prop :=
(oW (iaS 1 a1 a2) fun v1 =>
(oW (ldW false 1 h v1) fun v2 =>
(oW (binN .geq v2 (.int .i64 0)) fun v3 =>
(bW v3
(oW (iaS 1 a1 a2) fun v4 =>
(oW (ldW false 1 h v4) fun v5 =>
(gcV h Q (.tuple #[a1, v5]) h)))
(∃ (I6 : Nat → List Value → Heap → Prop) (k7 : Nat), gcL h (I6 k7) [a0, a1, a2, (.int .i64 0), (.int .i64 0)] h ∧
∀ k9 : Nat, ∀ x10 : Value, ∀ x11 : Value, ∀ x12 : Value, ∀ x13 : Value, ∀ x14 : Value, ∀ h15, I6 k9 [x10, x11, x12, x13, x14] h15 →
(oW (iaS 1 x10 x12) fun v16 =>
(oW (ldW false 1 h15 v16) fun v17 =>
(oW (lenS v17) fun v18 =>
(oW (binN .lss x14 v18) fun v19 =>
(bW v19
(∃ (I20 : Nat → List Value → Heap → Prop) (k21 : Nat), gcL h (I20 k21) [x10, x11, x12, x13, x14, (.int .i64 1), (.int .i64 0)] h15 ∧
∀ k23 : Nat, ∀ x24 : Value, ∀ x25 : Value, ∀ x26 : Value, ∀ x27 : Value, ∀ x28 : Value, ∀ x29 : Value, ∀ x30 : Value, ∀ h31, I20 k23 [x24, x25, x26, x27, x28, x29, x30] h31 →
(oW (iaS 1 x24 x26) fun v32 =>
(oW (ldW false 1 h31 v32) fun v33 =>
(oW (iaS 1 v33 x28) fun v34 =>
(oW (ldW false 1 h31 v34) fun v35 =>
(oW (lenS v35) fun v36 =>
(oW (binN .lss x30 v36) fun v37 =>
(bW v37
(oW (iaS 1 x24 x26) fun v38 =>
(oW (ldW false 1 h31 v38) fun v39 =>
(oW (iaS 1 v39 x28) fun v40 =>
(oW (ldW false 1 h31 v40) fun v41 =>
(oW (iaS 1 v41 x30) fun v42 =>
(oW (ldW false 1 h31 v42) fun v43 =>
(callW Try.prog (fn F_homographref28_total) [x24, x25, v43] h31 fun v44 h45 =>
(oW (extractA v44 0) fun v46 =>
(oW (extractA v44 1) fun v47 =>
(callW Try.prog (fn F_homographref28_Mul) [x29, v47] h45 fun v48 h49 =>
(oW (binN .add x30 (.int .i64 1)) fun v50 =>
(∃ m22, m22 < k23 ∧ gcL h (I20 m22) [x24, v46, x26, x27, x28, v48, v50] h49))))))))))))
(callW Try.prog (fn F_homographref28_Add) [x27, x29] h31 fun v51 h52 =>
(oW (binN .add x28 (.int .i64 1)) fun v53 =>
(∃ m8, m8 < k9 ∧ gcL h (I6 m8) [x24, x25, x26, v51, v53] h52)))))))))))
(oW (iaS 1 x11 x12) fun v54 =>
(sW (stW 1 h15 v54 x13) fun h55 =>
(gcV h Q (.tuple #[x11, x13]) h55)))))))))))))
theorem W_homographref28_total_eq (a0 a1 a2 : Value) (h : Heap) (Q : Value → Heap → Prop) : fW Try.prog ⟨[(9, [0, 1, 2, 8, 9, 10, 11]), (5, [0, 1, 2, 8, 9])], []⟩ Try.f30 [a0, a1, a2] h Q = W_homographref28_total a0 a1 a2 h Q := by kernel_rfl
theorem W_homographref28_total_ok {a0 a1 a2 : Value} {h : Heap} {Q : Value → Heap → Prop} (e : W_homographref28_total a0 a1 a2 h Q) : acall Try.prog F_homographref28_total [a0, a1, a2] h Q :=
  by refine acall_of_fW mixed ⟨[(9, [0, 1, 2, 8, 9, 10, 11]), (5, [0, 1, 2, 8, 9])], []⟩ Try.func30 (by kernel_rfl) ?_; rw [W_homographref28_total_eq]; exact e

/-- (homograph/count.knots).least: loops {}; joins {} -/
def W_count_knots_least (a0 : Value) (h : Heap) (Q : Value → Heap → Prop) : Prop :=
(oW (lenS a0) fun v1 =>
(hW (mksW [(.int .i64 0)] 8 h v1 v1) fun v2 h3 =>
(letH (h3 ++ [.row [(.slice none 0 0)] .exact]) fun h4 =>
(sW (stW 1 h4 (.pointer (some ⟨h3.length, 0, none⟩)) v2) fun h5 =>
(letH (h5 ++ [.row [.nilFunc] .exact]) fun h6 =>
(sW (stW 1 h6 (.pointer (some ⟨h5.length, 0, none⟩)) (.func (.func F_count_knots_least_D1) #[] #[(.pointer (some ⟨h3.length, 0, none⟩))])) fun h7 =>
(callW Try.prog (fn F_count_until_int) [a0, (.func (.func F_count_knots_least_D2) #[] #[(.pointer (some ⟨h5.length, 0, none⟩)), (.pointer (some ⟨h3.length, 0, none⟩))])] h7 fun v8 h9 =>
(oW (ldW false 1 h9 (.pointer (some ⟨h3.length, 0, none⟩))) fun v10 =>
(gcV h Q v10 h9)))))))))
theorem W_count_knots_least_eq (a0 : Value) (h : Heap) (Q : Value → Heap → Prop) : fW Try.prog ⟨[], []⟩ Try.f31 [a0] h Q = W_count_knots_least a0 h Q := by kernel_rfl
theorem W_count_knots_least_ok {a0 : Value} {h : Heap} {Q : Value → Heap → Prop} (e : W_count_knots_least a0 h Q) : acall Try.prog F_count_knots_least [a0] h Q :=
  by refine acall_of_fW mixed ⟨[], []⟩ Try.func31 (by kernel_rfl) ?_; rw [W_count_knots_least_eq]; exact e

/-- homograph/count.around: loops {12: [0, 1, 5, 7, 9, 20, 21, 22, 42, 43, 44], 6: [0, 1, 5, 7, 20, 21, 22], 3: [0, 1, 5, 6]}; joins {} -/
def W_count_around (a0 a1 : Value) (h : Heap) (Q : Value → Heap → Prop) : Prop :=
(letH (h ++ [.map []]) fun h1 =>
(hW (bslW h1 1 [(.int .i64 0)] [(0, 1, a1)]) fun v2 h3 =>
(hW (bslW h3 1 [(.slice none 0 0)] [(0, 1, v2)]) fun v4 h5 =>
(∃ (I6 : Nat → List Value → Heap → Prop) (k7 : Nat), gcL h (I6 k7) [a0, a1, (.map (some h.length)), v4] h5 ∧
∀ k9 : Nat, ∀ x10 : Value, ∀ x11 : Value, ∀ x12 : Value, ∀ x13 : Value, ∀ h14, I6 k9 [x10, x11, x12, x13] h14 →
(oW (lenS x13) fun v15 =>
(oW (binN .gtr v15 (.int .i64 0)) fun v16 =>
(bW v16
(oW (lenS x13) fun v17 =>
(∃ (I18 : Nat → List Value → Heap → Prop) (k19 : Nat), gcL h (I18 k19) [x10, x11, x12, (.slice none 0 0), x13, v17, (.int .i64 0)] h14 ∧
∀ k21 : Nat, ∀ x22 : Value, ∀ x23 : Value, ∀ x24 : Value, ∀ x25 : Value, ∀ x26 : Value, ∀ x27 : Value, ∀ x28 : Value, ∀ h29, I18 k21 [x22, x23, x24, x25, x26, x27, x28] h29 →
(oW (binN .lss x28 x27) fun v30 =>
(bW v30
(oW (iaS 1 x26 x28) fun v31 =>
(oW (ldW false 1 h29 v31) fun v32 =>
(oW (lenS v32) fun v33 =>
(oW (binN .sub v33 (.int .i64 1)) fun v34 =>
(oW (iaS 1 v32 v34) fun v35 =>
(oW (ldW false 1 h29 v35) fun v36 =>
(oW (iaS 1 x22 v36) fun v37 =>
(oW (ldW false 1 h29 v37) fun v38 =>
(callW Try.prog (fn F_slices_Contains_int_int) [v38, x23] h29 fun v39 h40 =>
(bW v39
(gcV h Q v32 h40)
(oW (iaS 1 x22 v36) fun v41 =>
(oW (ldW false 1 h40 v41) fun v42 =>
(oW (lenS v42) fun v43 =>
(∃ (I44 : Nat → List Value → Heap → Prop) (k45 : Nat), gcL h (I44 k45) [x22, x23, x24, x25, v32, x26, x27, x28, v42, v43, (.int .i64 0)] h40 ∧
∀ k47 : Nat, ∀ x48 : Value, ∀ x49 : Value, ∀ x50 : Value, ∀ x51 : Value, ∀ x52 : Value, ∀ x53 : Value, ∀ x54 : Value, ∀ x55 : Value, ∀ x56 : Value, ∀ x57 : Value, ∀ x58 : Value, ∀ h59, I44 k47 [x48, x49, x50, x51, x52, x53, x54, x55, x56, x57, x58] h59 →
(oW (binN .lss x58 x57) fun v60 =>
(bW v60
(oW (iaS 1 x56 x58) fun v61 =>
(oW (ldW false 1 h59 v61) fun v62 =>
(oW (lkS (.int .i64) (.slice none 0 0) false h59 x50 v62) fun v63 =>
(oW (eqW (nilS_ v63 (.slice none 0 0))) fun v64 =>
(bW v64
(callW Try.prog (fn F_slices_Clone_int_int) [x52] h59 fun v65 h66 =>
(hW (bslW h66 1 [(.int .i64 0)] [(0, 1, v62)]) fun v67 h68 =>
(hW (apW 1 8 h68 v65 v67) fun v69 h70 =>
(sW (upS (.int .i64) h70 x50 v62 v69) fun h71 =>
(oW (lkS (.int .i64) (.slice none 0 0) false h71 x50 v62) fun v72 =>
(hW (bslW h71 1 [(.slice none 0 0)] [(0, 1, v72)]) fun v73 h74 =>
(hW (apW 1 24 h74 x51 v73) fun v75 h76 =>
(oW (binN .add x58 (.int .i64 1)) fun v77 =>
(∃ m46, m46 < k47 ∧ gcL h (I44 m46) [x48, x49, x50, v75, x52, x53, x54, x55, x56, x57, v77] h76)))))))))
(oW (binN .add x58 (.int .i64 1)) fun v78 =>
(∃ m46, m46 < k47 ∧ gcL h (I44 m46) [x48, x49, x50, x51, x52, x53, x54, x55, x56, x57, v78] h59)))))))
(oW (binN .add x55 (.int .i64 1)) fun v79 =>
(∃ m20, m20 < k21 ∧ gcL h (I18 m20) [x48, x49, x50, x51, x53, x54, v79] h59))))))))))))))))))
(∃ m8, m8 < k9 ∧ gcL h (I6 m8) [x22, x23, x24, x25] h29)))))
(gcV h Q (.slice none 0 0) h14))))))))
theorem W_count_around_eq (a0 a1 : Value) (h : Heap) (Q : Value → Heap → Prop) : fW Try.prog ⟨[(12, [0, 1, 5, 7, 9, 20, 21, 22, 42, 43, 44]), (6, [0, 1, 5, 7, 20, 21, 22]), (3, [0, 1, 5, 6])], []⟩ Try.f32 [a0, a1] h Q = W_count_around a0 a1 h Q := by kernel_rfl
theorem W_count_around_ok {a0 a1 : Value} {h : Heap} {Q : Value → Heap → Prop} (e : W_count_around a0 a1 h Q) : acall Try.prog F_count_around [a0, a1] h Q :=
  by refine acall_of_fW mixed ⟨[(12, [0, 1, 5, 7, 9, 20, 21, 22, 42, 43, 44]), (6, [0, 1, 5, 7, 20, 21, 22]), (3, [0, 1, 5, 6])], []⟩ Try.func32 (by kernel_rfl) ?_; rw [W_count_around_eq]; exact e

/-- homograph/count.Sizes$1: loops {11: [0, 1, 2, 3, 7, 8]}; joins {} -/
def W_count_Sizes_D1 (a0 a1 a2 a3 : Value) (h : Heap) (Q : Value → Heap → Prop) : Prop :=
(oW (lenS a0) fun v1 =>
(oW (binN .lss a1 v1) fun v2 =>
(bW v2
(gcV h Q (.int .i64 0) h)
(oW (lenS a0) fun v3 =>
(oW (binN .eql v3 (.int .i64 0)) fun v4 =>
(bW v4
(oW (binN .gtr a1 (.int .i64 0)) fun v5 =>
(bW v5
(gcV h Q (.int .i64 0) h)
(oW (lenS a0) fun v6 =>
(oW (binN .eql v6 (.int .i64 0)) fun v7 =>
(bW v7
(gcV h Q (.int .i64 1) h)
(oW (lenS a0) fun v8 =>
(oW (binN .eql v8 (.int .i64 1)) fun v9 =>
(bW v9
(oW (ldW false 1 h a2) fun v10 =>
(oW (iaS 1 a0 (.int .i64 0)) fun v11 =>
(oW (ldW false 1 h v11) fun v12 =>
(oW (iaS 1 v10 v12) fun v13 =>
(oW (ldW false 1 h v13) fun v14 =>
(oW (iaS 1 v14 a1) fun v15 =>
(oW (ldW false 1 h v15) fun v16 =>
(gcV h Q v16 h))))))))
(∃ (I17 : Nat → List Value → Heap → Prop) (k18 : Nat), gcL h (I17 k18) [a0, a1, a2, a3, (.int .i64 0), (.int .i64 1)] h ∧
∀ k20 : Nat, ∀ x21 : Value, ∀ x22 : Value, ∀ x23 : Value, ∀ x24 : Value, ∀ x25 : Value, ∀ x26 : Value, ∀ h27, I17 k20 [x21, x22, x23, x24, x25, x26] h27 →
(oW (binN .leq x26 x22) fun v28 =>
(bW v28
(oW (ldW false 1 h27 x23) fun v29 =>
(oW (iaS 1 x21 (.int .i64 0)) fun v30 =>
(oW (ldW false 1 h27 v30) fun v31 =>
(oW (iaS 1 v29 v31) fun v32 =>
(oW (ldW false 1 h27 v32) fun v33 =>
(oW (iaS 1 v33 x26) fun v34 =>
(oW (ldW false 1 h27 v34) fun v35 =>
(oW (binN .gtr v35 (.int .i64 0)) fun v36 =>
(bW v36
(oW (ldW false 1 h27 x24) fun v37 =>
(oW (slS 1 h27 x21 (some (.int .i64 1)) none none) fun v38 =>
(oW (binN .sub x22 x26) fun v39 =>
(callW Try.prog v37 [v38, v39] h27 fun v40 h41 =>
(keptW [x21, x24] h27 h41 ∧
(callW Try.prog (fn F_count_mul) [v35, v40] h41 fun v42 h43 =>
(keptW [x21, x24] h41 h43 ∧
(callW Try.prog (fn F_count_add) [x25, v42] h43 fun v44 h45 =>
(keptW [x21, x24] h43 h45 ∧
(oW (binN .add x26 (.int .i64 1)) fun v46 =>
(∃ m19, m19 < k20 ∧ gcL h (I17 m19) [x21, x22, x23, x24, v44, v46] h45)))))))))))
(oW (binN .add x26 (.int .i64 1)) fun v47 =>
(∃ m19, m19 < k20 ∧ gcL h (I17 m19) [x21, x22, x23, x24, x25, v47] h27)))))))))))
(gcV h Q x25 h27))))))))))))
(bW (.bool false)
(gcV h Q (.int .i64 0) h)
(oW (lenS a0) fun v48 =>
(oW (binN .eql v48 (.int .i64 0)) fun v49 =>
(bW v49
(gcV h Q (.int .i64 1) h)
(oW (lenS a0) fun v50 =>
(oW (binN .eql v50 (.int .i64 1)) fun v51 =>
(bW v51
(oW (ldW false 1 h a2) fun v52 =>
(oW (iaS 1 a0 (.int .i64 0)) fun v53 =>
(oW (ldW false 1 h v53) fun v54 =>
(oW (iaS 1 v52 v54) fun v55 =>
(oW (ldW false 1 h v55) fun v56 =>
(oW (iaS 1 v56 a1) fun v57 =>
(oW (ldW false 1 h v57) fun v58 =>
(gcV h Q v58 h))))))))
(∃ (I59 : Nat → List Value → Heap → Prop) (k60 : Nat), gcL h (I59 k60) [a0, a1, a2, a3, (.int .i64 0), (.int .i64 1)] h ∧
∀ k62 : Nat, ∀ x63 : Value, ∀ x64 : Value, ∀ x65 : Value, ∀ x66 : Value, ∀ x67 : Value, ∀ x68 : Value, ∀ h69, I59 k62 [x63, x64, x65, x66, x67, x68] h69 →
(oW (binN .leq x68 x64) fun v70 =>
(bW v70
(oW (ldW false 1 h69 x65) fun v71 =>
(oW (iaS 1 x63 (.int .i64 0)) fun v72 =>
(oW (ldW false 1 h69 v72) fun v73 =>
(oW (iaS 1 v71 v73) fun v74 =>
(oW (ldW false 1 h69 v74) fun v75 =>
(oW (iaS 1 v75 x68) fun v76 =>
(oW (ldW false 1 h69 v76) fun v77 =>
(oW (binN .gtr v77 (.int .i64 0)) fun v78 =>
(bW v78
(oW (ldW false 1 h69 x66) fun v79 =>
(oW (slS 1 h69 x63 (some (.int .i64 1)) none none) fun v80 =>
(oW (binN .sub x64 x68) fun v81 =>
(callW Try.prog v79 [v80, v81] h69 fun v82 h83 =>
(keptW [x63, x66] h69 h83 ∧
(callW Try.prog (fn F_count_mul) [v77, v82] h83 fun v84 h85 =>
(keptW [x63, x66] h83 h85 ∧
(callW Try.prog (fn F_count_add) [x67, v84] h85 fun v86 h87 =>
(keptW [x63, x66] h85 h87 ∧
(oW (binN .add x68 (.int .i64 1)) fun v88 =>
(∃ m61, m61 < k62 ∧ gcL h (I59 m61) [x63, x64, x65, x66, v86, v88] h87)))))))))))
(oW (binN .add x68 (.int .i64 1)) fun v89 =>
(∃ m61, m61 < k62 ∧ gcL h (I59 m61) [x63, x64, x65, x66, x67, v89] h69)))))))))))
(gcV h Q x67 h69)))))))))))))))))
theorem W_count_Sizes_D1_eq (a0 a1 a2 a3 : Value) (h : Heap) (Q : Value → Heap → Prop) : fW Try.prog ⟨[(11, [0, 1, 2, 3, 7, 8])], []⟩ Try.f33 [a0, a1, a2, a3] h Q = W_count_Sizes_D1 a0 a1 a2 a3 h Q := by kernel_rfl
theorem W_count_Sizes_D1_ok {a0 a1 a2 a3 : Value} {h : Heap} {Q : Value → Heap → Prop} (e : W_count_Sizes_D1 a0 a1 a2 a3 h Q) : acall Try.prog F_count_Sizes_D1 [a0, a1, a2, a3] h Q :=
  by refine acall_of_fW mixed ⟨[(11, [0, 1, 2, 3, 7, 8])], []⟩ Try.func33 (by kernel_rfl) ?_; rw [W_count_Sizes_D1_eq]; exact e

/-- homograph/count.add: loops {}; joins {} -/
def W_count_add (a0 a1 : Value) (h : Heap) (Q : Value → Heap → Prop) : Prop :=
(oW (binN .sub (.int .i64 9223372036854775807) a1) fun v1 =>
(oW (binN .gtr a0 v1) fun v2 =>
(bW v2
(gcV h Q (.int .i64 9223372036854775807) h)
(oW (binN .add a0 a1) fun v3 =>
(gcV h Q v3 h)))))
theorem W_count_add_eq (a0 a1 : Value) (h : Heap) (Q : Value → Heap → Prop) : fW Try.prog ⟨[], []⟩ Try.f34 [a0, a1] h Q = W_count_add a0 a1 h Q := by kernel_rfl
theorem W_count_add_ok {a0 a1 : Value} {h : Heap} {Q : Value → Heap → Prop} (e : W_count_add a0 a1 h Q) : acall Try.prog F_count_add [a0, a1] h Q :=
  by refine acall_of_fW mixed ⟨[], []⟩ Try.func34 (by kernel_rfl) ?_; rw [W_count_add_eq]; exact e

/-- homograph/count.mul: loops {}; joins {} -/
def W_count_mul (a0 a1 : Value) (h : Heap) (Q : Value → Heap → Prop) : Prop :=
(oW (binN .gtr a1 (.int .i64 0)) fun v1 =>
(bW v1
(oW (binN .quo (.int .i64 9223372036854775807) a1) fun v2 =>
(oW (binN .gtr a0 v2) fun v3 =>
(bW v3
(gcV h Q (.int .i64 9223372036854775807) h)
(oW (binN .mul a0 a1) fun v4 =>
(gcV h Q v4 h)))))
(bW (.bool false)
(gcV h Q (.int .i64 9223372036854775807) h)
(oW (binN .mul a0 a1) fun v5 =>
(gcV h Q v5 h)))))
theorem W_count_mul_eq (a0 a1 : Value) (h : Heap) (Q : Value → Heap → Prop) : fW Try.prog ⟨[], []⟩ Try.f35 [a0, a1] h Q = W_count_mul a0 a1 h Q := by kernel_rfl
theorem W_count_mul_ok {a0 a1 : Value} {h : Heap} {Q : Value → Heap → Prop} (e : W_count_mul a0 a1 h Q) : acall Try.prog F_count_mul [a0, a1] h Q :=
  by refine acall_of_fW mixed ⟨[], []⟩ Try.func35 (by kernel_rfl) ?_; rw [W_count_mul_eq]; exact e

/-- homograph/homographref28.most: loops {}; joins {} -/
def W_homographref28_most (h : Heap) (Q : Value → Heap → Prop) : Prop :=
(gcV h Q (.int .i64 9223372036854775807) h)
theorem W_homographref28_most_eq (h : Heap) (Q : Value → Heap → Prop) : fW Try.prog ⟨[], []⟩ Try.f36 [] h Q = W_homographref28_most  h Q := by kernel_rfl
theorem W_homographref28_most_ok {h : Heap} {Q : Value → Heap → Prop} (e : W_homographref28_most  h Q) : acall Try.prog F_homographref28_most [] h Q :=
  by refine acall_of_fW mixed ⟨[], []⟩ Try.func36 (by kernel_rfl) ?_; rw [W_homographref28_most_eq]; exact e

/-- homograph/homographref27.right: loops {4: [2, 3, 5]}; joins {} -/
def W_homographref27_right (a0 a1 : Value) (h : Heap) (Q : Value → Heap → Prop) : Prop :=
(hW (boxA h a0) fun v1 h2 =>
(hW (boxA h2 a1) fun v3 h4 =>
(oW (ldW true 5 h4 v1) fun v5 =>
(callW Try.prog (fn F_homographref16_Check) [v5] h4 fun v6 h7 =>
(oW (binN .neq v6 (.int .i64 0)) fun v8 =>
(bW v8
(bW (.bool true)
(gcV h Q (.bool false) h7)
(∃ (I9 : Nat → List Value → Heap → Prop) (k10 : Nat), gcL h (I9 k10) [v1, v3, (.int .i64 0)] h7 ∧
∀ k12 : Nat, ∀ x13 : Value, ∀ x14 : Value, ∀ x15 : Value, ∀ h16, I9 k12 [x13, x14, x15] h16 →
(oW (faW 2 1 x14) fun v17 =>
(oW (ldW false 1 h16 v17) fun v18 =>
(oW (lenS v18) fun v19 =>
(oW (binN .lss x15 v19) fun v20 =>
(bW v20
(oW (faW 2 1 x14) fun v21 =>
(oW (ldW false 1 h16 v21) fun v22 =>
(oW (iaS 3 v22 x15) fun v23 =>
(oW (faW 0 1 v23) fun v24 =>
(oW (ldW false 1 h16 v24) fun v25 =>
(oW (faW 1 1 x13) fun v26 =>
(oW (ldW false 1 h16 v26) fun v27 =>
(oW (binN .geq v25 v27) fun v28 =>
(bW v28
(gcV h Q (.bool false) h16)
(oW (binN .add x15 (.int .i64 1)) fun v29 =>
(∃ m11, m11 < k12 ∧ gcL h (I9 m11) [x13, x14, v29] h16)))))))))))
(gcV h Q (.bool true) h16))))))))
(oW (ldW true 3 h7 v3) fun v30 =>
(callW Try.prog (fn F_homographref23_Check) [v30] h7 fun v31 h32 =>
(oW (binN .neq v31 (.int .i64 0)) fun v33 =>
(bW v33
(gcV h Q (.bool false) h32)
(∃ (I34 : Nat → List Value → Heap → Prop) (k35 : Nat), gcL h (I34 k35) [v1, v3, (.int .i64 0)] h32 ∧
∀ k37 : Nat, ∀ x38 : Value, ∀ x39 : Value, ∀ x40 : Value, ∀ h41, I34 k37 [x38, x39, x40] h41 →
(oW (faW 2 1 x39) fun v42 =>
(oW (ldW false 1 h41 v42) fun v43 =>
(oW (lenS v43) fun v44 =>
(oW (binN .lss x40 v44) fun v45 =>
(bW v45
(oW (faW 2 1 x39) fun v46 =>
(oW (ldW false 1 h41 v46) fun v47 =>
(oW (iaS 3 v47 x40) fun v48 =>
(oW (faW 0 1 v48) fun v49 =>
(oW (ldW false 1 h41 v49) fun v50 =>
(oW (faW 1 1 x38) fun v51 =>
(oW (ldW false 1 h41 v51) fun v52 =>
(oW (binN .geq v50 v52) fun v53 =>
(bW v53
(gcV h Q (.bool false) h41)
(oW (binN .add x40 (.int .i64 1)) fun v54 =>
(∃ m36, m36 < k37 ∧ gcL h (I34 m36) [x38, x39, v54] h41)))))))))))
(gcV h Q (.bool true) h41)))))))))))))))))
theorem W_homographref27_right_eq (a0 a1 : Value) (h : Heap) (Q : Value → Heap → Prop) : fW Try.prog ⟨[(4, [2, 3, 5])], []⟩ Try.f37 [a0, a1] h Q = W_homographref27_right a0 a1 h Q := by kernel_rfl
theorem W_homographref27_right_ok {a0 a1 : Value} {h : Heap} {Q : Value → Heap → Prop} (e : W_homographref27_right a0 a1 h Q) : acall Try.prog F_homographref27_right [a0, a1] h Q :=
  by refine acall_of_fW mixed ⟨[(4, [2, 3, 5])], []⟩ Try.func37 (by kernel_rfl) ?_; rw [W_homographref27_right_eq]; exact e

/-- homograph/homographref27.root: loops {}; joins {} -/
def W_homographref27_root (a0 a1 : Value) (h : Heap) (Q : Value → Heap → Prop) : Prop :=
(hW (boxA h a0) fun v1 h2 =>
(hW (boxA h2 a1) fun v3 h4 =>
(letH (h4 ++ [.row [(.int .i64 0), (.int .i64 0), (.int .i64 0)] .exact]) fun h5 =>
(oW (faW 4 1 v1) fun v6 =>
(oW (ldW false 1 h5 v6) fun v7 =>
(oW (faW 1 1 v3) fun v8 =>
(oW (ldW false 1 h5 v8) fun v9 =>
(oW (iaS 1 v9 (.int .i64 0)) fun v10 =>
(oW (ldW false 1 h5 v10) fun v11 =>
(oW (faW 0 1 v3) fun v12 =>
(oW (ldW false 1 h5 v12) fun v13 =>
(oW (bldW [(.int .i64 0), (.int .i64 0), (.int .i64 0)] [(0, 1, v7), (1, 1, v11), (2, 1, v13)]) fun v14 =>
(sW (stW 3 h5 (.pointer (some ⟨h4.length, 0, none⟩)) v14) fun h15 =>
(oW (ldP true 3 h15 (.pointer (some ⟨h4.length, 0, none⟩))) fun v16 =>
(gcV h Q v16 h15)))))))))))))))
theorem W_homographref27_root_eq (a0 a1 : Value) (h : Heap) (Q : Value → Heap → Prop) : fW Try.prog ⟨[], []⟩ Try.f38 [a0, a1] h Q = W_homographref27_root a0 a1 h Q := by kernel_rfl
theorem W_homographref27_root_ok {a0 a1 : Value} {h : Heap} {Q : Value → Heap → Prop} (e : W_homographref27_root a0 a1 h Q) : acall Try.prog F_homographref27_root [a0, a1] h Q :=
  by refine acall_of_fW mixed ⟨[], []⟩ Try.func38 (by kernel_rfl) ?_; rw [W_homographref27_root_eq]; exact e

/-- homograph/homographref27.has: loops {2: [0, 3, 5]}; joins {} -/
def W_homographref27_has (a0 a1 : Value) (h : Heap) (Q : Value → Heap → Prop) : Prop :=
(hW (boxA h a1) fun v1 h2 =>
(∃ (I3 : Nat → List Value → Heap → Prop) (k4 : Nat), gcL h (I3 k4) [a0, v1, (.int .i64 0)] h2 ∧
∀ k6 : Nat, ∀ x7 : Value, ∀ x8 : Value, ∀ x9 : Value, ∀ h10, I3 k6 [x7, x8, x9] h10 →
(oW (lenS x7) fun v11 =>
(oW (binN .lss x9 v11) fun v12 =>
(bW v12
(oW (iaS 3 x7 x9) fun v13 =>
(oW (ldW true 3 h10 v13) fun v14 =>
(oW (ldW true 3 h10 x8) fun v15 =>
(oW (binA Try.prog .eql 78 v14 v15) fun v16 =>
(bW v16
(gcV h Q (.bool true) h10)
(oW (binN .add x9 (.int .i64 1)) fun v17 =>
(∃ m5, m5 < k6 ∧ gcL h (I3 m5) [x7, x8, v17] h10)))))))
(gcV h Q (.bool false) h10))))))
theorem W_homographref27_has_eq (a0 a1 : Value) (h : Heap) (Q : Value → Heap → Prop) : fW Try.prog ⟨[(2, [0, 3, 5])], []⟩ Try.f39 [a0, a1] h Q = W_homographref27_has a0 a1 h Q := by kernel_rfl
theorem W_homographref27_has_ok {a0 a1 : Value} {h : Heap} {Q : Value → Heap → Prop} (e : W_homographref27_has a0 a1 h Q) : acall Try.prog F_homographref27_has [a0, a1] h Q :=
  by refine acall_of_fW mixed ⟨[(2, [0, 3, 5])], []⟩ Try.func39 (by kernel_rfl) ?_; rw [W_homographref27_has_eq]; exact e

/-- homograph/homographref27.ways: loops {16: [2, 4, 7, 9, 12, 13, 14], 11: [2, 4, 7, 9, 12], 4: [5, 7, 9, 10]}; joins {} -/
def W_homographref27_ways (a0 a1 a2 a3 : Value) (h : Heap) (Q : Value → Heap → Prop) : Prop :=
(hW (boxA h a0) fun v1 h2 =>
(hW (boxA h2 a1) fun v3 h4 =>
(hW (boxA h4 a3) fun v5 h6 =>
(oW (faW 0 1 v5) fun v7 =>
(oW (ldW false 1 h6 v7) fun v8 =>
(oW (faW 1 1 v1) fun v9 =>
(oW (ldW false 1 h6 v9) fun v10 =>
(oW (binN .lss v8 v10) fun v11 =>
(bW v11
(∃ (I12 : Nat → List Value → Heap → Prop) (k13 : Nat), gcL h (I12 k13) [v3, v5, (.slice none 0 0), (.int .i64 0)] h6 ∧
∀ k15 : Nat, ∀ x16 : Value, ∀ x17 : Value, ∀ x18 : Value, ∀ x19 : Value, ∀ h20, I12 k15 [x16, x17, x18, x19] h20 →
(oW (faW 2 1 x16) fun v21 =>
(oW (ldW false 1 h20 v21) fun v22 =>
(oW (lenS v22) fun v23 =>
(oW (binN .lss x19 v23) fun v24 =>
(bW v24
(oW (faW 2 1 x16) fun v25 =>
(oW (ldW false 1 h20 v25) fun v26 =>
(oW (iaS 3 v26 x19) fun v27 =>
(oW (ldW true 3 h20 v27) fun v28 =>
(letH (h20 ++ [.row [(.int .i64 0), (.int .i64 0), (.int .i64 0)] .exact]) fun h29 =>
(sW (stW 3 h29 (.pointer (some ⟨h20.length, 0, none⟩)) v28) fun h30 =>
(oW (faW 0 1 (.pointer (some ⟨h20.length, 0, none⟩))) fun v31 =>
(oW (ldW false 1 h30 v31) fun v32 =>
(oW (faW 0 1 x17) fun v33 =>
(oW (ldW false 1 h30 v33) fun v34 =>
(oW (binN .eql v32 v34) fun v35 =>
(bW v35
(oW (faW 1 1 (.pointer (some ⟨h20.length, 0, none⟩))) fun v36 =>
(oW (ldW false 1 h30 v36) fun v37 =>
(oW (faW 1 1 x17) fun v38 =>
(oW (ldW false 1 h30 v38) fun v39 =>
(oW (binN .eql v37 v39) fun v40 =>
(bW v40
(oW (faW 1 1 x16) fun v41 =>
(oW (ldW false 1 h30 v41) fun v42 =>
(oW (faW 2 1 (.pointer (some ⟨h20.length, 0, none⟩))) fun v43 =>
(oW (ldW false 1 h30 v43) fun v44 =>
(oW (iaS 1 v42 v44) fun v45 =>
(oW (ldW false 1 h30 v45) fun v46 =>
(oW (faW 2 1 x17) fun v47 =>
(oW (ldW false 1 h30 v47) fun v48 =>
(oW (binN .eql v46 v48) fun v49 =>
(bW v49
(oW (faW 1 1 x17) fun v50 =>
(oW (ldW false 1 h30 v50) fun v51 =>
(oW (faW 2 1 (.pointer (some ⟨h20.length, 0, none⟩))) fun v52 =>
(oW (ldW false 1 h30 v52) fun v53 =>
(hW (bslW h30 2 [(.int .i64 0), (.int .i64 0)] [(0, 1, v51), (1, 1, v53)]) fun v54 h55 =>
(oW (bldW [(.int .i64 0), (.slice none 0 0)] [(0, 1, (.int .i64 (-1))), (1, 1, v54)]) fun v56 =>
(hW (bslW h55 1 [(.int .i64 0), (.slice none 0 0)] [(0, 2, v56)]) fun v57 h58 =>
(hW (apW 2 32 h58 x18 v57) fun v59 h60 =>
(oW (binN .add x19 (.int .i64 1)) fun v61 =>
(∃ m14, m14 < k15 ∧ gcL h (I12 m14) [x16, x17, v59, v61] h60))))))))))
(oW (binN .add x19 (.int .i64 1)) fun v62 =>
(∃ m14, m14 < k15 ∧ gcL h (I12 m14) [x16, x17, x18, v62] h30))))))))))))
(bW (.bool false)
(oW (faW 1 1 x17) fun v63 =>
(oW (ldW false 1 h30 v63) fun v64 =>
(oW (faW 2 1 (.pointer (some ⟨h20.length, 0, none⟩))) fun v65 =>
(oW (ldW false 1 h30 v65) fun v66 =>
(hW (bslW h30 2 [(.int .i64 0), (.int .i64 0)] [(0, 1, v64), (1, 1, v66)]) fun v67 h68 =>
(oW (bldW [(.int .i64 0), (.slice none 0 0)] [(0, 1, (.int .i64 (-1))), (1, 1, v67)]) fun v69 =>
(hW (bslW h68 1 [(.int .i64 0), (.slice none 0 0)] [(0, 2, v69)]) fun v70 h71 =>
(hW (apW 2 32 h71 x18 v70) fun v72 h73 =>
(oW (binN .add x19 (.int .i64 1)) fun v74 =>
(∃ m14, m14 < k15 ∧ gcL h (I12 m14) [x16, x17, v72, v74] h73))))))))))
(oW (binN .add x19 (.int .i64 1)) fun v75 =>
(∃ m14, m14 < k15 ∧ gcL h (I12 m14) [x16, x17, x18, v75] h30)))))))))
(bW (.bool false)
(oW (faW 1 1 x17) fun v76 =>
(oW (ldW false 1 h30 v76) fun v77 =>
(oW (faW 2 1 (.pointer (some ⟨h20.length, 0, none⟩))) fun v78 =>
(oW (ldW false 1 h30 v78) fun v79 =>
(hW (bslW h30 2 [(.int .i64 0), (.int .i64 0)] [(0, 1, v77), (1, 1, v79)]) fun v80 h81 =>
(oW (bldW [(.int .i64 0), (.slice none 0 0)] [(0, 1, (.int .i64 (-1))), (1, 1, v80)]) fun v82 =>
(hW (bslW h81 1 [(.int .i64 0), (.slice none 0 0)] [(0, 2, v82)]) fun v83 h84 =>
(hW (apW 2 32 h84 x18 v83) fun v85 h86 =>
(oW (binN .add x19 (.int .i64 1)) fun v87 =>
(∃ m14, m14 < k15 ∧ gcL h (I12 m14) [x16, x17, v85, v87] h86))))))))))
(oW (binN .add x19 (.int .i64 1)) fun v88 =>
(∃ m14, m14 < k15 ∧ gcL h (I12 m14) [x16, x17, x18, v88] h30)))))))))))))))
(gcV h Q x18 h20)))))))
(∃ (I89 : Nat → List Value → Heap → Prop) (k90 : Nat), gcL h (I89 k90) [a2, v1, v5, (.slice none 0 0), (.int .i64 0)] h6 ∧
∀ k92 : Nat, ∀ x93 : Value, ∀ x94 : Value, ∀ x95 : Value, ∀ x96 : Value, ∀ x97 : Value, ∀ h98, I89 k92 [x93, x94, x95, x96, x97] h98 →
(oW (faW 3 1 x94) fun v99 =>
(oW (ldW false 1 h98 v99) fun v100 =>
(oW (lenS v100) fun v101 =>
(oW (binN .lss x97 v101) fun v102 =>
(bW v102
(oW (faW 3 1 x94) fun v103 =>
(oW (ldW false 1 h98 v103) fun v104 =>
(oW (iaS 1 v104 x97) fun v105 =>
(oW (ldW false 1 h98 v105) fun v106 =>
(oW (iaS 1 v106 (.int .i64 0)) fun v107 =>
(oW (ldW false 1 h98 v107) fun v108 =>
(oW (faW 0 1 x95) fun v109 =>
(oW (ldW false 1 h98 v109) fun v110 =>
(oW (binN .neq v108 v110) fun v111 =>
(bW v111
(oW (binN .add x97 (.int .i64 1)) fun v112 =>
(∃ m91, m91 < k92 ∧ gcL h (I89 m91) [x93, x94, x95, x96, v112] h98))
(oW (faW 3 1 x94) fun v113 =>
(oW (ldW false 1 h98 v113) fun v114 =>
(oW (iaS 1 v114 x97) fun v115 =>
(oW (ldW false 1 h98 v115) fun v116 =>
(oW (slS 1 h98 v116 (some (.int .i64 1)) none none) fun v117 =>
(oW (faW 1 1 x95) fun v118 =>
(oW (ldW false 1 h98 v118) fun v119 =>
(oW (faW 2 1 x95) fun v120 =>
(oW (ldW false 1 h98 v120) fun v121 =>
(hW (bslW h98 1 [(.int .i64 0)] [(0, 1, v119)]) fun v122 h123 =>
(keptW [v120, v118, v116, v115, v113] h98 h123 ∧
(callW Try.prog (fn F_homographref27_splits) [x93, v117, v122, v121] h123 fun v124 h125 =>
(keptW [v118, v115, v113] h123 h125 ∧
(∃ (I126 : Nat → List Value → Heap → Prop) (k127 : Nat), gcL h (I126 k127) [x93, x94, x95, x96, x97, v124, (.int .i64 0)] h125 ∧
∀ k129 : Nat, ∀ x130 : Value, ∀ x131 : Value, ∀ x132 : Value, ∀ x133 : Value, ∀ x134 : Value, ∀ x135 : Value, ∀ x136 : Value, ∀ h137, I126 k129 [x130, x131, x132, x133, x134, x135, x136] h137 →
(oW (lenS x135) fun v138 =>
(oW (binN .lss x136 v138) fun v139 =>
(bW v139
(oW (iaS 1 x135 x136) fun v140 =>
(oW (ldW false 1 h137 v140) fun v141 =>
(oW (iaS 1 x135 x136) fun v142 =>
(oW (ldW false 1 h137 v142) fun v143 =>
(oW (lenS v143) fun v144 =>
(oW (binN .sub v144 (.int .i64 1)) fun v145 =>
(oW (iaS 1 v141 v145) fun v146 =>
(oW (ldW false 1 h137 v146) fun v147 =>
(oW (faW 2 1 x132) fun v148 =>
(oW (ldW false 1 h137 v148) fun v149 =>
(oW (binN .eql v147 v149) fun v150 =>
(bW v150
(oW (iaS 1 x135 x136) fun v151 =>
(oW (ldW false 1 h137 v151) fun v152 =>
(oW (bldW [(.int .i64 0), (.slice none 0 0)] [(0, 1, x134), (1, 1, v152)]) fun v153 =>
(hW (bslW h137 1 [(.int .i64 0), (.slice none 0 0)] [(0, 2, v153)]) fun v154 h155 =>
(hW (apW 2 32 h155 x133 v154) fun v156 h157 =>
(oW (binN .add x136 (.int .i64 1)) fun v158 =>
(∃ m128, m128 < k129 ∧ gcL h (I126 m128) [x130, x131, x132, v156, x134, x135, v158] h157)))))))
(oW (binN .add x136 (.int .i64 1)) fun v159 =>
(∃ m128, m128 < k129 ∧ gcL h (I126 m128) [x130, x131, x132, x133, x134, x135, v159] h137))))))))))))))
(oW (binN .add x134 (.int .i64 1)) fun v160 =>
(∃ m91, m91 < k92 ∧ gcL h (I89 m91) [x130, x131, x132, x133, v160] h137)))))))))))))))))))))))))))))
(gcV h Q x96 h98))))))))))))))))
theorem W_homographref27_ways_eq (a0 a1 a2 a3 : Value) (h : Heap) (Q : Value → Heap → Prop) : fW Try.prog ⟨[(16, [2, 4, 7, 9, 12, 13, 14]), (11, [2, 4, 7, 9, 12]), (4, [5, 7, 9, 10])], []⟩ Try.f40 [a0, a1, a2, a3] h Q = W_homographref27_ways a0 a1 a2 a3 h Q := by kernel_rfl
theorem W_homographref27_ways_ok {a0 a1 a2 a3 : Value} {h : Heap} {Q : Value → Heap → Prop} (e : W_homographref27_ways a0 a1 a2 a3 h Q) : acall Try.prog F_homographref27_ways [a0, a1, a2, a3] h Q :=
  by refine acall_of_fW mixed ⟨[(16, [2, 4, 7, 9, 12, 13, 14]), (11, [2, 4, 7, 9, 12]), (4, [5, 7, 9, 10])], []⟩ Try.func40 (by kernel_rfl) ?_; rw [W_homographref27_ways_eq]; exact e

/-- homograph/homographref27.Kids: loops {11: [7, 8, 9, 10]}; joins {6: [3, 4, 7], 3: [2, 3, 4]} -/
def W_homographref27_Kids (a0 a1 a2 : Value) (h : Heap) (Q : Value → Heap → Prop) : Prop :=
(hW (boxA h a0) fun v1 h2 =>
(hW (boxA h2 a1) fun v3 h4 =>
(∃ M5 : List Value → Heap → Prop,
(oW (binN .lss a2 (.int .i64 0)) fun v6 =>
(bW v6
(bW (.bool true)
(gcV h Q (.slice none 0 0) h4)
(gcL h M5 [a2, v1, v3] h4))
(oW (faW 3 1 v3) fun v7 =>
(oW (ldW false 1 h4 v7) fun v8 =>
(oW (lenS v8) fun v9 =>
(oW (binN .geq a2 v9) fun v10 =>
(bW v10
(gcV h Q (.slice none 0 0) h4)
(gcL h M5 [a2, v1, v3] h4)))))))) ∧
∀ x11 : Value, ∀ x12 : Value, ∀ x13 : Value, ∀ h14, M5 [x11, x12, x13] h14 →
(oW (faW 3 1 x13) fun v15 =>
(oW (ldW false 1 h14 v15) fun v16 =>
(oW (iaS 2 v16 x11) fun v17 =>
(oW (ldW true 2 h14 v17) fun v18 =>
(letH (h14 ++ [.row [(.int .i64 0), (.slice none 0 0)] .exact]) fun h19 =>
(sW (stW 2 h19 (.pointer (some ⟨h14.length, 0, none⟩)) v18) fun h20 =>
(∃ M21 : List Value → Heap → Prop,
(oW (faW 0 1 (.pointer (some ⟨h14.length, 0, none⟩))) fun v22 =>
(oW (ldW false 1 h20 v22) fun v23 =>
(oW (binN .lss v23 (.int .i64 0)) fun v24 =>
(bW v24
(bW (.bool true)
(gcV h Q (.slice none 0 0) h20)
(gcL h M21 [x12, x13, (.pointer (some ⟨h14.length, 0, none⟩))] h20))
(oW (faW 0 1 (.pointer (some ⟨h14.length, 0, none⟩))) fun v25 =>
(oW (ldW false 1 h20 v25) fun v26 =>
(oW (faW 3 1 x12) fun v27 =>
(oW (ldW false 1 h20 v27) fun v28 =>
(oW (lenS v28) fun v29 =>
(oW (binN .geq v26 v29) fun v30 =>
(bW v30
(bW (.bool true)
(gcV h Q (.slice none 0 0) h20)
(gcL h M21 [x12, x13, (.pointer (some ⟨h14.length, 0, none⟩))] h20))
(oW (faW 3 1 x12) fun v31 =>
(oW (ldW false 1 h20 v31) fun v32 =>
(oW (faW 0 1 (.pointer (some ⟨h14.length, 0, none⟩))) fun v33 =>
(oW (ldW false 1 h20 v33) fun v34 =>
(oW (iaS 1 v32 v34) fun v35 =>
(oW (ldW false 1 h20 v35) fun v36 =>
(oW (lenS v36) fun v37 =>
(oW (binN .eql v37 (.int .i64 0)) fun v38 =>
(bW v38
(gcV h Q (.slice none 0 0) h20)
(gcL h M21 [x12, x13, (.pointer (some ⟨h14.length, 0, none⟩))] h20))))))))))))))))))))) ∧
∀ x39 : Value, ∀ x40 : Value, ∀ x41 : Value, ∀ h42, M21 [x39, x40, x41] h42 →
(oW (faW 3 1 x39) fun v43 =>
(oW (ldW false 1 h42 v43) fun v44 =>
(oW (faW 0 1 x41) fun v45 =>
(oW (ldW false 1 h42 v45) fun v46 =>
(oW (iaS 1 v44 v46) fun v47 =>
(oW (ldW false 1 h42 v47) fun v48 =>
(oW (iaS 1 v48 (.int .i64 0)) fun v49 =>
(oW (ldW false 1 h42 v49) fun v50 =>
(oW (faW 0 1 x40) fun v51 =>
(oW (ldW false 1 h42 v51) fun v52 =>
(oW (binN .neq v50 v52) fun v53 =>
(bW v53
(bW (.bool true)
(gcV h Q (.slice none 0 0) h42)
(∃ (I54 : Nat → List Value → Heap → Prop) (k55 : Nat), gcL h (I54 k55) [x41, v48, (.slice none 0 0), (.int .i64 1)] h42 ∧
∀ k57 : Nat, ∀ x58 : Value, ∀ x59 : Value, ∀ x60 : Value, ∀ x61 : Value, ∀ h62, I54 k57 [x58, x59, x60, x61] h62 →
(oW (lenS x59) fun v63 =>
(oW (binN .lss x61 v63) fun v64 =>
(bW v64
(oW (iaS 1 x59 x61) fun v65 =>
(oW (ldW false 1 h62 v65) fun v66 =>
(oW (faW 1 1 x58) fun v67 =>
(oW (ldW false 1 h62 v67) fun v68 =>
(oW (binN .sub x61 (.int .i64 1)) fun v69 =>
(oW (iaS 1 v68 v69) fun v70 =>
(oW (ldW false 1 h62 v70) fun v71 =>
(oW (faW 1 1 x58) fun v72 =>
(oW (ldW false 1 h62 v72) fun v73 =>
(oW (iaS 1 v73 x61) fun v74 =>
(oW (ldW false 1 h62 v74) fun v75 =>
(oW (bldW [(.int .i64 0), (.int .i64 0), (.int .i64 0)] [(0, 1, v66), (1, 1, v71), (2, 1, v75)]) fun v76 =>
(hW (bslW h62 1 [(.int .i64 0), (.int .i64 0), (.int .i64 0)] [(0, 3, v76)]) fun v77 h78 =>
(keptW [v74, v72, v70, v67, v65] h62 h78 ∧
(hW (apW 3 24 h78 x60 v77) fun v79 h80 =>
(keptW [v74, v72, v70, v67, v65] h78 h80 ∧
(oW (binN .add x61 (.int .i64 1)) fun v81 =>
(∃ m56, m56 < k57 ∧ gcL h (I54 m56) [x58, x59, v79, v81] h80))))))))))))))))))
(gcV h Q x60 h62))))))
(oW (faW 1 1 x41) fun v82 =>
(oW (ldW false 1 h42 v82) fun v83 =>
(oW (lenS v83) fun v84 =>
(oW (lenS v48) fun v85 =>
(oW (binN .neq v84 v85) fun v86 =>
(bW v86
(gcV h Q (.slice none 0 0) h42)
(∃ (I87 : Nat → List Value → Heap → Prop) (k88 : Nat), gcL h (I87 k88) [x41, v48, (.slice none 0 0), (.int .i64 1)] h42 ∧
∀ k90 : Nat, ∀ x91 : Value, ∀ x92 : Value, ∀ x93 : Value, ∀ x94 : Value, ∀ h95, I87 k90 [x91, x92, x93, x94] h95 →
(oW (lenS x92) fun v96 =>
(oW (binN .lss x94 v96) fun v97 =>
(bW v97
(oW (iaS 1 x92 x94) fun v98 =>
(oW (ldW false 1 h95 v98) fun v99 =>
(oW (faW 1 1 x91) fun v100 =>
(oW (ldW false 1 h95 v100) fun v101 =>
(oW (binN .sub x94 (.int .i64 1)) fun v102 =>
(oW (iaS 1 v101 v102) fun v103 =>
(oW (ldW false 1 h95 v103) fun v104 =>
(oW (faW 1 1 x91) fun v105 =>
(oW (ldW false 1 h95 v105) fun v106 =>
(oW (iaS 1 v106 x94) fun v107 =>
(oW (ldW false 1 h95 v107) fun v108 =>
(oW (bldW [(.int .i64 0), (.int .i64 0), (.int .i64 0)] [(0, 1, v99), (1, 1, v104), (2, 1, v108)]) fun v109 =>
(hW (bslW h95 1 [(.int .i64 0), (.int .i64 0), (.int .i64 0)] [(0, 3, v109)]) fun v110 h111 =>
(keptW [v107, v105, v103, v100, v98] h95 h111 ∧
(hW (apW 3 24 h111 x93 v110) fun v112 h113 =>
(keptW [v107, v105, v103, v100, v98] h111 h113 ∧
(oW (binN .add x94 (.int .i64 1)) fun v114 =>
(∃ m89, m89 < k90 ∧ gcL h (I87 m89) [x91, x92, v112, v114] h113))))))))))))))))))
(gcV h Q x93 h95)))))))))))))))))))))))))))))))))
theorem W_homographref27_Kids_eq (a0 a1 a2 : Value) (h : Heap) (Q : Value → Heap → Prop) : fW Try.prog ⟨[(11, [7, 8, 9, 10])], [(6, [3, 4, 7]), (3, [2, 3, 4])]⟩ Try.f41 [a0, a1, a2] h Q = W_homographref27_Kids a0 a1 a2 h Q := by kernel_rfl
theorem W_homographref27_Kids_ok {a0 a1 a2 : Value} {h : Heap} {Q : Value → Heap → Prop} (e : W_homographref27_Kids a0 a1 a2 h Q) : acall Try.prog F_homographref27_Kids [a0, a1, a2] h Q :=
  by refine acall_of_fW mixed ⟨[(11, [7, 8, 9, 10])], [(6, [3, 4, 7]), (3, [2, 3, 4])]⟩ Try.func41 (by kernel_rfl) ?_; rw [W_homographref27_Kids_eq]; exact e

/-- homograph/homographref26.PutFact: loops {2: [0, 3, 5]}; joins {} -/
def W_homographref26_PutFact (a0 a1 : Value) (h : Heap) (Q : Value → Heap → Prop) : Prop :=
(hW (boxA h a1) fun v1 h2 =>
(∃ (I3 : Nat → List Value → Heap → Prop) (k4 : Nat), gcL h (I3 k4) [a0, v1, (.int .i64 0)] h2 ∧
∀ k6 : Nat, ∀ x7 : Value, ∀ x8 : Value, ∀ x9 : Value, ∀ h10, I3 k6 [x7, x8, x9] h10 →
(oW (lenS x7) fun v11 =>
(oW (binN .lss x9 v11) fun v12 =>
(bW v12
(oW (iaS 3 x7 x9) fun v13 =>
(oW (ldW true 3 h10 v13) fun v14 =>
(oW (ldW true 3 h10 x8) fun v15 =>
(callW Try.prog (fn F_homographref26_Less) [v14, v15] h10 fun v16 h17 =>
(keptW [x8, v13, x7] h10 h17 ∧
(bW v16
(oW (binN .add x9 (.int .i64 1)) fun v18 =>
(∃ m5, m5 < k6 ∧ gcL h (I3 m5) [x7, x8, v18] h17))
(oW (lenS x7) fun v19 =>
(oW (binN .lss x9 v19) fun v20 =>
(bW v20
(oW (iaS 3 x7 x9) fun v21 =>
(oW (ldW true 3 h17 v21) fun v22 =>
(oW (ldW true 3 h17 x8) fun v23 =>
(oW (binA Try.prog .eql 78 v22 v23) fun v24 =>
(bW v24
(gcV h Q x7 h17)
(oW (slS 3 h17 x7 none (some x9) none) fun v25 =>
(hW (apW 3 24 h17 (.slice none 0 0) v25) fun v26 h27 =>
(oW (ldW true 3 h27 x8) fun v28 =>
(hW (bslW h27 1 [(.int .i64 0), (.int .i64 0), (.int .i64 0)] [(0, 3, v28)]) fun v29 h30 =>
(hW (apW 3 24 h30 v26 v29) fun v31 h32 =>
(oW (slS 3 h32 x7 (some x9) none none) fun v33 =>
(hW (apW 3 24 h32 v31 v33) fun v34 h35 =>
(gcV h Q v34 h35)))))))))))))
(bW (.bool false)
(gcV h Q x7 h17)
(oW (slS 3 h17 x7 none (some x9) none) fun v36 =>
(hW (apW 3 24 h17 (.slice none 0 0) v36) fun v37 h38 =>
(oW (ldW true 3 h38 x8) fun v39 =>
(hW (bslW h38 1 [(.int .i64 0), (.int .i64 0), (.int .i64 0)] [(0, 3, v39)]) fun v40 h41 =>
(hW (apW 3 24 h41 v37 v40) fun v42 h43 =>
(oW (slS 3 h43 x7 (some x9) none none) fun v44 =>
(hW (apW 3 24 h43 v42 v44) fun v45 h46 =>
(gcV h Q v45 h46))))))))))))))))))
(bW (.bool false)
(oW (binN .add x9 (.int .i64 1)) fun v47 =>
(∃ m5, m5 < k6 ∧ gcL h (I3 m5) [x7, x8, v47] h10))
(oW (lenS x7) fun v48 =>
(oW (binN .lss x9 v48) fun v49 =>
(bW v49
(oW (iaS 3 x7 x9) fun v50 =>
(oW (ldW true 3 h10 v50) fun v51 =>
(oW (ldW true 3 h10 x8) fun v52 =>
(oW (binA Try.prog .eql 78 v51 v52) fun v53 =>
(bW v53
(gcV h Q x7 h10)
(oW (slS 3 h10 x7 none (some x9) none) fun v54 =>
(hW (apW 3 24 h10 (.slice none 0 0) v54) fun v55 h56 =>
(oW (ldW true 3 h56 x8) fun v57 =>
(hW (bslW h56 1 [(.int .i64 0), (.int .i64 0), (.int .i64 0)] [(0, 3, v57)]) fun v58 h59 =>
(hW (apW 3 24 h59 v55 v58) fun v60 h61 =>
(oW (slS 3 h61 x7 (some x9) none none) fun v62 =>
(hW (apW 3 24 h61 v60 v62) fun v63 h64 =>
(gcV h Q v63 h64)))))))))))))
(bW (.bool false)
(gcV h Q x7 h10)
(oW (slS 3 h10 x7 none (some x9) none) fun v65 =>
(hW (apW 3 24 h10 (.slice none 0 0) v65) fun v66 h67 =>
(oW (ldW true 3 h67 x8) fun v68 =>
(hW (bslW h67 1 [(.int .i64 0), (.int .i64 0), (.int .i64 0)] [(0, 3, v68)]) fun v69 h70 =>
(hW (apW 3 24 h70 v66 v69) fun v71 h72 =>
(oW (slS 3 h72 x7 (some x9) none none) fun v73 =>
(hW (apW 3 24 h72 v71 v73) fun v74 h75 =>
(gcV h Q v74 h75))))))))))))))))))
theorem W_homographref26_PutFact_eq (a0 a1 : Value) (h : Heap) (Q : Value → Heap → Prop) : fW Try.prog ⟨[(2, [0, 3, 5])], []⟩ Try.f42 [a0, a1] h Q = W_homographref26_PutFact a0 a1 h Q := by kernel_rfl
theorem W_homographref26_PutFact_ok {a0 a1 : Value} {h : Heap} {Q : Value → Heap → Prop} (e : W_homographref26_PutFact a0 a1 h Q) : acall Try.prog F_homographref26_PutFact [a0, a1] h Q :=
  by refine acall_of_fW mixed ⟨[(2, [0, 3, 5])], []⟩ Try.func42 (by kernel_rfl) ?_; rw [W_homographref26_PutFact_eq]; exact e

/-- homograph/homographref23.Come: loops {4: [1, 3, 4]}; joins {} -/
def W_homographref23_Come (a0 : Value) (h : Heap) (Q : Value → Heap → Prop) : Prop :=
(hW (boxA h a0) fun v1 h2 =>
(oW (faW 0 1 v1) fun v3 =>
(oW (ldW false 1 h2 v3) fun v4 =>
(oW (binN .add v4 (.int .i64 1)) fun v5 =>
(hW (mksW [(.bool false)] 1 h2 v5 v5) fun v6 h7 =>
(oW (faW 1 1 v1) fun v8 =>
(oW (ldW false 1 h7 v8) fun v9 =>
(oW (iaS 1 v9 (.int .i64 0)) fun v10 =>
(oW (ldW false 1 h7 v10) fun v11 =>
(oW (iaS 1 v6 v11) fun v12 =>
(sW (stW 1 h7 v12 (.bool true)) fun h13 =>
(∃ (I14 : Nat → List Value → Heap → Prop) (k15 : Nat), gcL h (I14 k15) [v1, v6, (.int .i64 0)] h13 ∧
∀ k17 : Nat, ∀ x18 : Value, ∀ x19 : Value, ∀ x20 : Value, ∀ h21, I14 k17 [x18, x19, x20] h21 →
(oW (faW 2 1 x18) fun v22 =>
(oW (ldW false 1 h21 v22) fun v23 =>
(oW (lenS v23) fun v24 =>
(oW (binN .lss x20 v24) fun v25 =>
(bW v25
(oW (faW 2 1 x18) fun v26 =>
(oW (ldW false 1 h21 v26) fun v27 =>
(oW (iaS 3 v27 x20) fun v28 =>
(oW (faW 1 1 v28) fun v29 =>
(oW (ldW false 1 h21 v29) fun v30 =>
(oW (iaS 1 x19 v30) fun v31 =>
(oW (ldW false 1 h21 v31) fun v32 =>
(bW v32
(oW (faW 1 1 x18) fun v33 =>
(oW (ldW false 1 h21 v33) fun v34 =>
(oW (faW 2 1 x18) fun v35 =>
(oW (ldW false 1 h21 v35) fun v36 =>
(oW (iaS 3 v36 x20) fun v37 =>
(oW (faW 2 1 v37) fun v38 =>
(oW (ldW false 1 h21 v38) fun v39 =>
(oW (iaS 1 v34 v39) fun v40 =>
(oW (ldW false 1 h21 v40) fun v41 =>
(oW (iaS 1 x19 v41) fun v42 =>
(sW (stW 1 h21 v42 (.bool true)) fun h43 =>
(oW (binN .add x20 (.int .i64 1)) fun v44 =>
(∃ m16, m16 < k17 ∧ gcL h (I14 m16) [x18, x19, v44] h43)))))))))))))
(oW (binN .add x20 (.int .i64 1)) fun v45 =>
(∃ m16, m16 < k17 ∧ gcL h (I14 m16) [x18, x19, v45] h21))))))))))
(gcV h Q x19 h21))))))))))))))))))
theorem W_homographref23_Come_eq (a0 : Value) (h : Heap) (Q : Value → Heap → Prop) : fW Try.prog ⟨[(4, [1, 3, 4])], []⟩ Try.f43 [a0] h Q = W_homographref23_Come a0 h Q := by kernel_rfl
theorem W_homographref23_Come_ok {a0 : Value} {h : Heap} {Q : Value → Heap → Prop} (e : W_homographref23_Come a0 h Q) : acall Try.prog F_homographref23_Come [a0] h Q :=
  by refine acall_of_fW mixed ⟨[(4, [1, 3, 4])], []⟩ Try.func43 (by kernel_rfl) ?_; rw [W_homographref23_Come_eq]; exact e

/-- homograph/homographref26.spans: loops {20: [0, 1, 7, 8, 9, 12, 13, 14], 16: [0, 1, 7, 8, 9, 12], 10: [0, 1, 7, 8, 9, 10, 11], 7: [0, 1, 7, 8, 9, 10], 3: [0, 1, 7, 8]}; joins {} -/
def W_homographref26_spans (a0 a1 a2 : Value) (h : Heap) (Q : Value → Heap → Prop) : Prop :=
(hW (bslW h 1 [(.int .i64 0)] [(0, 1, a2)]) fun v1 h2 =>
(∃ (I3 : Nat → List Value → Heap → Prop) (k4 : Nat), gcL h (I3 k4) [a0, a1, v1, (.int .i64 0)] h2 ∧
∀ k6 : Nat, ∀ x7 : Value, ∀ x8 : Value, ∀ x9 : Value, ∀ x10 : Value, ∀ h11, I3 k6 [x7, x8, x9, x10] h11 →
(oW (lenS x8) fun v12 =>
(oW (binN .lss x10 v12) fun v13 =>
(bW v13
(∃ (I14 : Nat → List Value → Heap → Prop) (k15 : Nat), gcL h (I14 k15) [x7, x8, x9, x10, (.slice none 0 0), (.int .i64 0)] h11 ∧
∀ k17 : Nat, ∀ x18 : Value, ∀ x19 : Value, ∀ x20 : Value, ∀ x21 : Value, ∀ x22 : Value, ∀ x23 : Value, ∀ h24, I14 k17 [x18, x19, x20, x21, x22, x23] h24 →
(oW (lenS x20) fun v25 =>
(oW (binN .lss x23 v25) fun v26 =>
(bW v26
(∃ (I27 : Nat → List Value → Heap → Prop) (k28 : Nat), gcL h (I27 k28) [x18, x19, x20, x21, x22, x23, (.int .i64 0)] h24 ∧
∀ k30 : Nat, ∀ x31 : Value, ∀ x32 : Value, ∀ x33 : Value, ∀ x34 : Value, ∀ x35 : Value, ∀ x36 : Value, ∀ x37 : Value, ∀ h38, I27 k30 [x31, x32, x33, x34, x35, x36, x37] h38 →
(oW (lenS x31) fun v39 =>
(oW (binN .lss x37 v39) fun v40 =>
(bW v40
(oW (iaS 3 x31 x37) fun v41 =>
(oW (faW 0 1 v41) fun v42 =>
(oW (ldW false 1 h38 v42) fun v43 =>
(oW (iaS 1 x32 x34) fun v44 =>
(oW (ldW false 1 h38 v44) fun v45 =>
(oW (binN .eql v43 v45) fun v46 =>
(bW v46
(oW (iaS 3 x31 x37) fun v47 =>
(oW (faW 1 1 v47) fun v48 =>
(oW (ldW false 1 h38 v48) fun v49 =>
(oW (iaS 1 x33 x36) fun v50 =>
(oW (ldW false 1 h38 v50) fun v51 =>
(oW (binN .eql v49 v51) fun v52 =>
(bW v52
(oW (iaS 3 x31 x37) fun v53 =>
(oW (faW 2 1 v53) fun v54 =>
(oW (ldW false 1 h38 v54) fun v55 =>
(hW (bslW h38 1 [(.int .i64 0)] [(0, 1, v55)]) fun v56 h57 =>
(hW (apW 1 8 h57 x35 v56) fun v58 h59 =>
(oW (binN .add x37 (.int .i64 1)) fun v60 =>
(∃ m29, m29 < k30 ∧ gcL h (I27 m29) [x31, x32, x33, x34, v58, x36, v60] h59)))))))
(oW (binN .add x37 (.int .i64 1)) fun v61 =>
(∃ m29, m29 < k30 ∧ gcL h (I27 m29) [x31, x32, x33, x34, x35, x36, v61] h38)))))))))
(bW (.bool false)
(oW (iaS 3 x31 x37) fun v62 =>
(oW (faW 2 1 v62) fun v63 =>
(oW (ldW false 1 h38 v63) fun v64 =>
(hW (bslW h38 1 [(.int .i64 0)] [(0, 1, v64)]) fun v65 h66 =>
(hW (apW 1 8 h66 x35 v65) fun v67 h68 =>
(oW (binN .add x37 (.int .i64 1)) fun v69 =>
(∃ m29, m29 < k30 ∧ gcL h (I27 m29) [x31, x32, x33, x34, v67, x36, v69] h68)))))))
(oW (binN .add x37 (.int .i64 1)) fun v70 =>
(∃ m29, m29 < k30 ∧ gcL h (I27 m29) [x31, x32, x33, x34, x35, x36, v70] h38))))))))))
(oW (binN .add x36 (.int .i64 1)) fun v71 =>
(∃ m16, m16 < k17 ∧ gcL h (I14 m16) [x31, x32, x33, x34, x35, v71] h38))))))
(∃ (I72 : Nat → List Value → Heap → Prop) (k73 : Nat), gcL h (I72 k73) [x18, x19, (.slice none 0 0), x21, x22, (.int .i64 0)] h24 ∧
∀ k75 : Nat, ∀ x76 : Value, ∀ x77 : Value, ∀ x78 : Value, ∀ x79 : Value, ∀ x80 : Value, ∀ x81 : Value, ∀ h82, I72 k75 [x76, x77, x78, x79, x80, x81] h82 →
(oW (lenS x80) fun v83 =>
(oW (binN .lss x81 v83) fun v84 =>
(bW v84
(∃ (I85 : Nat → List Value → Heap → Prop) (k86 : Nat), gcL h (I85 k86) [x76, x77, x78, x79, x80, x81, (.bool false), (.int .i64 0)] h82 ∧
∀ k88 : Nat, ∀ x89 : Value, ∀ x90 : Value, ∀ x91 : Value, ∀ x92 : Value, ∀ x93 : Value, ∀ x94 : Value, ∀ x95 : Value, ∀ x96 : Value, ∀ h97, I85 k88 [x89, x90, x91, x92, x93, x94, x95, x96] h97 →
(oW (lenS x91) fun v98 =>
(oW (binN .lss x96 v98) fun v99 =>
(bW v99
(bW x95
(oW (binN .add x96 (.int .i64 1)) fun v100 =>
(∃ m87, m87 < k88 ∧ gcL h (I85 m87) [x89, x90, x91, x92, x93, x94, (.bool true), v100] h97))
(oW (iaS 1 x91 x96) fun v101 =>
(oW (ldW false 1 h97 v101) fun v102 =>
(oW (iaS 1 x93 x94) fun v103 =>
(oW (ldW false 1 h97 v103) fun v104 =>
(oW (binN .eql v102 v104) fun v105 =>
(oW (binN .add x96 (.int .i64 1)) fun v106 =>
(∃ m87, m87 < k88 ∧ gcL h (I85 m87) [x89, x90, x91, x92, x93, x94, v105, v106] h97))))))))
(oW (unA .not x95) fun v107 =>
(bW v107
(oW (iaS 1 x93 x94) fun v108 =>
(oW (ldW false 1 h97 v108) fun v109 =>
(hW (bslW h97 1 [(.int .i64 0)] [(0, 1, v109)]) fun v110 h111 =>
(hW (apW 1 8 h111 x91 v110) fun v112 h113 =>
(oW (binN .add x94 (.int .i64 1)) fun v114 =>
(∃ m74, m74 < k75 ∧ gcL h (I72 m74) [x89, x90, v112, x92, x93, v114] h113))))))
(oW (binN .add x94 (.int .i64 1)) fun v115 =>
(∃ m74, m74 < k75 ∧ gcL h (I72 m74) [x89, x90, x91, x92, x93, v115] h97))))))))
(oW (binN .add x79 (.int .i64 1)) fun v116 =>
(∃ m5, m5 < k6 ∧ gcL h (I3 m5) [x76, x77, x78, v116] h82))))))))))
(gcV h Q x9 h11))))))
theorem W_homographref26_spans_eq (a0 a1 a2 : Value) (h : Heap) (Q : Value → Heap → Prop) : fW Try.prog ⟨[(20, [0, 1, 7, 8, 9, 12, 13, 14]), (16, [0, 1, 7, 8, 9, 12]), (10, [0, 1, 7, 8, 9, 10, 11]), (7, [0, 1, 7, 8, 9, 10]), (3, [0, 1, 7, 8])], []⟩ Try.f44 [a0, a1, a2] h Q = W_homographref26_spans a0 a1 a2 h Q := by kernel_rfl
theorem W_homographref26_spans_ok {a0 a1 a2 : Value} {h : Heap} {Q : Value → Heap → Prop} (e : W_homographref26_spans a0 a1 a2 h Q) : acall Try.prog F_homographref26_spans [a0, a1, a2] h Q :=
  by refine acall_of_fW mixed ⟨[(20, [0, 1, 7, 8, 9, 12, 13, 14]), (16, [0, 1, 7, 8, 9, 12]), (10, [0, 1, 7, 8, 9, 10, 11]), (7, [0, 1, 7, 8, 9, 10]), (3, [0, 1, 7, 8])], []⟩ Try.func44 (by kernel_rfl) ?_; rw [W_homographref26_spans_eq]; exact e

/-- homograph/count.kids: loops {8: [3, 11, 74, 75, 76]}; joins {6: [2, 3, 4, 5]} -/
def W_count_kids (a0 a1 a2 a3 : Value) (h : Heap) (Q : Value → Heap → Prop) : Prop :=
(hW (boxA h a0) fun v1 h2 =>
(hW (boxA h2 a1) fun v3 h4 =>
(oW (faW 3 1 v3) fun v5 =>
(oW (ldW false 1 h4 v5) fun v6 =>
(oW (iaS 2 v6 a2) fun v7 =>
(oW (ldW true 2 h4 v7) fun v8 =>
(letH (h4 ++ [.row [(.int .i64 0), (.slice none 0 0)] .exact]) fun h9 =>
(sW (stW 2 h9 (.pointer (some ⟨h4.length, 0, none⟩)) v8) fun h10 =>
(oW (faW 0 1 (.pointer (some ⟨h4.length, 0, none⟩))) fun v11 =>
(oW (ldW false 1 h10 v11) fun v12 =>
(oW (binN .eql v12 (.int .i64 (-1))) fun v13 =>
(bW v13
(gcV h Q (.tuple #[(.slice none 0 0), (.bool true)]) h10)
(∃ M14 : List Value → Heap → Prop,
(oW (faW 0 1 (.pointer (some ⟨h4.length, 0, none⟩))) fun v15 =>
(oW (ldW false 1 h10 v15) fun v16 =>
(oW (binN .lss v16 (.int .i64 0)) fun v17 =>
(bW v17
(bW (.bool true)
(gcV h Q (.tuple #[(.slice none 0 0), (.bool false)]) h10)
(gcL h M14 [a2, a3, v1, v3] h10))
(oW (faW 0 1 (.pointer (some ⟨h4.length, 0, none⟩))) fun v18 =>
(oW (ldW false 1 h10 v18) fun v19 =>
(oW (faW 3 1 v1) fun v20 =>
(oW (ldW false 1 h10 v20) fun v21 =>
(oW (lenS v21) fun v22 =>
(oW (binN .geq v19 v22) fun v23 =>
(bW v23
(bW (.bool true)
(gcV h Q (.tuple #[(.slice none 0 0), (.bool false)]) h10)
(gcL h M14 [a2, a3, v1, v3] h10))
(oW (faW 3 1 v1) fun v24 =>
(oW (ldW false 1 h10 v24) fun v25 =>
(oW (faW 0 1 (.pointer (some ⟨h4.length, 0, none⟩))) fun v26 =>
(oW (ldW false 1 h10 v26) fun v27 =>
(oW (iaS 1 v25 v27) fun v28 =>
(oW (ldW false 1 h10 v28) fun v29 =>
(oW (lenS v29) fun v30 =>
(oW (binN .eql v30 (.int .i64 0)) fun v31 =>
(bW v31
(bW (.bool true)
(gcV h Q (.tuple #[(.slice none 0 0), (.bool false)]) h10)
(gcL h M14 [a2, a3, v1, v3] h10))
(oW (faW 3 1 v1) fun v32 =>
(oW (ldW false 1 h10 v32) fun v33 =>
(oW (faW 0 1 (.pointer (some ⟨h4.length, 0, none⟩))) fun v34 =>
(oW (ldW false 1 h10 v34) fun v35 =>
(oW (iaS 1 v33 v35) fun v36 =>
(oW (ldW false 1 h10 v36) fun v37 =>
(oW (iaS 1 v37 (.int .i64 0)) fun v38 =>
(oW (ldW false 1 h10 v38) fun v39 =>
(oW (faW 0 1 v3) fun v40 =>
(oW (ldW false 1 h10 v40) fun v41 =>
(oW (binN .neq v39 v41) fun v42 =>
(bW v42
(bW (.bool true)
(gcV h Q (.tuple #[(.slice none 0 0), (.bool false)]) h10)
(gcL h M14 [a2, a3, v1, v3] h10))
(oW (faW 1 1 (.pointer (some ⟨h4.length, 0, none⟩))) fun v43 =>
(oW (ldW false 1 h10 v43) fun v44 =>
(oW (lenS v44) fun v45 =>
(oW (faW 3 1 v1) fun v46 =>
(oW (ldW false 1 h10 v46) fun v47 =>
(oW (faW 0 1 (.pointer (some ⟨h4.length, 0, none⟩))) fun v48 =>
(oW (ldW false 1 h10 v48) fun v49 =>
(oW (iaS 1 v47 v49) fun v50 =>
(oW (ldW false 1 h10 v50) fun v51 =>
(oW (lenS v51) fun v52 =>
(oW (binN .neq v45 v52) fun v53 =>
(bW v53
(gcV h Q (.tuple #[(.slice none 0 0), (.bool false)]) h10)
(gcL h M14 [a2, a3, v1, v3] h10))))))))))))))))))))))))))))))))))))))))))))) ∧
∀ x54 : Value, ∀ x55 : Value, ∀ x56 : Value, ∀ x57 : Value, ∀ h58, M14 [x54, x55, x56, x57] h58 →
(oW (ldW true 5 h58 x56) fun v59 =>
(oW (ldW true 4 h58 x57) fun v60 =>
(callW Try.prog (fn F_forest_Kids) [v59, v60, x54] h58 fun v61 h62 =>
(oW (lenS v61) fun v63 =>
(∃ (I64 : Nat → List Value → Heap → Prop) (k65 : Nat), gcL h (I64 k65) [x55, (.slice none 0 0), v61, v63, (.int .i64 0)] h62 ∧
∀ k67 : Nat, ∀ x68 : Value, ∀ x69 : Value, ∀ x70 : Value, ∀ x71 : Value, ∀ x72 : Value, ∀ h73, I64 k67 [x68, x69, x70, x71, x72] h73 →
(oW (binN .lss x72 x71) fun v74 =>
(bW v74
(oW (iaS 3 x70 x72) fun v75 =>
(oW (ldW true 3 h73 v75) fun v76 =>
(letH (h73 ++ [.row [(.int .i64 0), (.int .i64 0), (.int .i64 0)] .exact]) fun h77 =>
(sW (stW 3 h77 (.pointer (some ⟨h73.length, 0, none⟩)) v76) fun h78 =>
(oW (faW 0 1 (.pointer (some ⟨h73.length, 0, none⟩))) fun v79 =>
(oW (ldW false 1 h78 v79) fun v80 =>
(oW (faW 1 1 (.pointer (some ⟨h73.length, 0, none⟩))) fun v81 =>
(oW (ldW false 1 h78 v81) fun v82 =>
(oW (faW 2 1 (.pointer (some ⟨h73.length, 0, none⟩))) fun v83 =>
(oW (ldW false 1 h78 v83) fun v84 =>
(oW (bldW [(.int .i64 0), (.int .i64 0), (.int .i64 0)] [(0, 1, v80), (1, 1, v82), (2, 1, v84)]) fun v85 =>
(oW (lookupA Try.prog h78 88 x68 v85 true) fun v86 =>
(oW (extractA v86 0) fun v87 =>
(oW (extractA v86 1) fun v88 =>
(oW (unA .not v88) fun v89 =>
(bW v89
(gcV h Q (.tuple #[(.slice none 0 0), (.bool false)]) h78)
(hW (bslW h78 1 [(.int .i64 0)] [(0, 1, v87)]) fun v90 h91 =>
(hW (apW 1 8 h91 x69 v90) fun v92 h93 =>
(oW (binN .add x72 (.int .i64 1)) fun v94 =>
(∃ m66, m66 < k67 ∧ gcL h (I64 m66) [x68, v92, x70, x71, v94] h93))))))))))))))))))))
(gcV h Q (.tuple #[x69, (.bool true)]) h73)))))))))))))))))))))
theorem W_count_kids_eq (a0 a1 a2 a3 : Value) (h : Heap) (Q : Value → Heap → Prop) : fW Try.prog ⟨[(8, [3, 11, 74, 75, 76])], [(6, [2, 3, 4, 5])]⟩ Try.f45 [a0, a1, a2, a3] h Q = W_count_kids a0 a1 a2 a3 h Q := by kernel_rfl
theorem W_count_kids_ok {a0 a1 a2 a3 : Value} {h : Heap} {Q : Value → Heap → Prop} (e : W_count_kids a0 a1 a2 a3 h Q) : acall Try.prog F_count_kids [a0, a1, a2, a3] h Q :=
  by refine acall_of_fW mixed ⟨[(8, [3, 11, 74, 75, 76])], [(6, [2, 3, 4, 5])]⟩ Try.func45 (by kernel_rfl) ?_; rw [W_count_kids_eq]; exact e

/-- slices.Compact[[]int,int]: loops {9: [0, 3, 4, 5], 4: [0, 3]}; joins {} -/
def W_slices_Compact_int_int (a0 : Value) (h : Heap) (Q : Value → Heap → Prop) : Prop :=
(oW (lenS a0) fun v1 =>
(oW (binN .lss v1 (.int .i64 2)) fun v2 =>
(bW v2
(gcV h Q a0 h)
(∃ (I3 : Nat → List Value → Heap → Prop) (k4 : Nat), gcL h (I3 k4) [a0, (.int .i64 1)] h ∧
∀ k6 : Nat, ∀ x7 : Value, ∀ x8 : Value, ∀ h9, I3 k6 [x7, x8] h9 →
(oW (lenS x7) fun v10 =>
(oW (binN .lss x8 v10) fun v11 =>
(bW v11
(oW (iaS 1 x7 x8) fun v12 =>
(oW (ldW false 1 h9 v12) fun v13 =>
(oW (binN .sub x8 (.int .i64 1)) fun v14 =>
(oW (iaS 1 x7 v14) fun v15 =>
(oW (ldW false 1 h9 v15) fun v16 =>
(oW (binN .eql v13 v16) fun v17 =>
(bW v17
(oW (slS 1 h9 x7 (some x8) none none) fun v18 =>
(∃ (I19 : Nat → List Value → Heap → Prop) (k20 : Nat), gcL h (I19 k20) [x7, x8, v18, (.int .i64 1)] h9 ∧
∀ k22 : Nat, ∀ x23 : Value, ∀ x24 : Value, ∀ x25 : Value, ∀ x26 : Value, ∀ h27, I19 k22 [x23, x24, x25, x26] h27 →
(oW (lenS x25) fun v28 =>
(oW (binN .lss x26 v28) fun v29 =>
(bW v29
(oW (iaS 1 x25 x26) fun v30 =>
(oW (ldW false 1 h27 v30) fun v31 =>
(oW (binN .sub x26 (.int .i64 1)) fun v32 =>
(oW (iaS 1 x25 v32) fun v33 =>
(oW (ldW false 1 h27 v33) fun v34 =>
(oW (binN .neq v31 v34) fun v35 =>
(bW v35
(oW (iaS 1 x25 x26) fun v36 =>
(oW (ldW false 1 h27 v36) fun v37 =>
(oW (iaS 1 x23 x24) fun v38 =>
(sW (stW 1 h27 v38 v37) fun h39 =>
(oW (binN .add x24 (.int .i64 1)) fun v40 =>
(oW (binN .add x26 (.int .i64 1)) fun v41 =>
(∃ m21, m21 < k22 ∧ gcL h (I19 m21) [x23, v40, x25, v41] h39)))))))
(oW (binN .add x26 (.int .i64 1)) fun v42 =>
(∃ m21, m21 < k22 ∧ gcL h (I19 m21) [x23, x24, x25, v42] h27)))))))))
(oW (slS 1 h27 x23 (some x24) none none) fun v43 =>
(sW (clrW [(.int .i64 0)] 1 h27 v43) fun h44 =>
(oW (slS 1 h44 x23 none (some x24) none) fun v45 =>
(gcV h Q v45 h44)))))))))
(oW (binN .add x8 (.int .i64 1)) fun v46 =>
(∃ m5, m5 < k6 ∧ gcL h (I3 m5) [x7, v46] h9)))))))))
(gcV h Q x7 h9))))))))
theorem W_slices_Compact_int_int_eq (a0 : Value) (h : Heap) (Q : Value → Heap → Prop) : fW Try.prog ⟨[(9, [0, 3, 4, 5]), (4, [0, 3])], []⟩ Try.f47 [a0] h Q = W_slices_Compact_int_int a0 h Q := by kernel_rfl
theorem W_slices_Compact_int_int_ok {a0 : Value} {h : Heap} {Q : Value → Heap → Prop} (e : W_slices_Compact_int_int a0 h Q) : acall Try.prog F_slices_Compact_int_int [a0] h Q :=
  by refine acall_of_fW mixed ⟨[(9, [0, 3, 4, 5]), (4, [0, 3])], []⟩ Try.func47 (by kernel_rfl) ?_; rw [W_slices_Compact_int_int_eq]; exact e

/-- slices.Clone[[]int,int]: loops {}; joins {} -/
def W_slices_Clone_int_int (a0 : Value) (h : Heap) (Q : Value → Heap → Prop) : Prop :=
(oW (eqW (nilS_ a0 (.slice none 0 0))) fun v1 =>
(bW v1
(gcV h Q (.slice none 0 0) h)
(hW (bslW h 0 [] []) fun v2 h3 =>
(hW (apW 1 8 h3 v2 a0) fun v4 h5 =>
(gcV h Q v4 h5)))))
theorem W_slices_Clone_int_int_eq (a0 : Value) (h : Heap) (Q : Value → Heap → Prop) : fW Try.prog ⟨[], []⟩ Try.f48 [a0] h Q = W_slices_Clone_int_int a0 h Q := by kernel_rfl
theorem W_slices_Clone_int_int_ok {a0 : Value} {h : Heap} {Q : Value → Heap → Prop} (e : W_slices_Clone_int_int a0 h Q) : acall Try.prog F_slices_Clone_int_int [a0] h Q :=
  by refine acall_of_fW mixed ⟨[], []⟩ Try.func48 (by kernel_rfl) ?_; rw [W_slices_Clone_int_int_eq]; exact e

/-- slices.ContainsFunc[[]int,int]: loops {}; joins {} -/
def W_slices_ContainsFunc_int_int (a0 a1 : Value) (h : Heap) (Q : Value → Heap → Prop) : Prop :=
(callW Try.prog (fn F_slices_IndexFunc_int_int) [a0, a1] h fun v1 h2 =>
(oW (binN .geq v1 (.int .i64 0)) fun v3 =>
(gcV h Q v3 h2)))
theorem W_slices_ContainsFunc_int_int_eq (a0 a1 : Value) (h : Heap) (Q : Value → Heap → Prop) : fW Try.prog ⟨[], []⟩ Try.f49 [a0, a1] h Q = W_slices_ContainsFunc_int_int a0 a1 h Q := by kernel_rfl
theorem W_slices_ContainsFunc_int_int_ok {a0 a1 : Value} {h : Heap} {Q : Value → Heap → Prop} (e : W_slices_ContainsFunc_int_int a0 a1 h Q) : acall Try.prog F_slices_ContainsFunc_int_int [a0, a1] h Q :=
  by refine acall_of_fW mixed ⟨[], []⟩ Try.func49 (by kernel_rfl) ?_; rw [W_slices_ContainsFunc_int_int_eq]; exact e

/-- (homograph/count.knots).fertile$1: loops {}; joins {} -/
def W_count_knots_fertile_D1 (a0 a1 : Value) (h : Heap) (Q : Value → Heap → Prop) : Prop :=
(oW (ldW false 1 h a1) fun v1 =>
(oW (iaS 1 v1 a0) fun v2 =>
(oW (ldW false 1 h v2) fun v3 =>
(oW (binN .eql v3 (.int .i64 0)) fun v4 =>
(gcV h Q v4 h)))))
theorem W_count_knots_fertile_D1_eq (a0 a1 : Value) (h : Heap) (Q : Value → Heap → Prop) : fW Try.prog ⟨[], []⟩ Try.f50 [a0, a1] h Q = W_count_knots_fertile_D1 a0 a1 h Q := by kernel_rfl
theorem W_count_knots_fertile_D1_ok {a0 a1 : Value} {h : Heap} {Q : Value → Heap → Prop} (e : W_count_knots_fertile_D1 a0 a1 h Q) : acall Try.prog F_count_knots_fertile_D1 [a0, a1] h Q :=
  by refine acall_of_fW mixed ⟨[], []⟩ Try.func50 (by kernel_rfl) ?_; rw [W_count_knots_fertile_D1_eq]; exact e

/-- homograph/homographref28.least: loops {14: [0, 3, 4, 5, 6, 7, 8, 9], 9: [0, 3, 4, 5, 6], 6: [0, 3, 4, 5], 3: [0, 3, 4]}; joins {} -/
def W_homographref28_least (a0 : Value) (h : Heap) (Q : Value → Heap → Prop) : Prop :=
(oW (lenS a0) fun v1 =>
(hW (mksW [(.int .i64 0)] 8 h v1 v1) fun v2 h3 =>
(∃ (I4 : Nat → List Value → Heap → Prop) (k5 : Nat), gcL h (I4 k5) [a0, v2, (.int .i64 0)] h3 ∧
∀ k7 : Nat, ∀ x8 : Value, ∀ x9 : Value, ∀ x10 : Value, ∀ h11, I4 k7 [x8, x9, x10] h11 →
(oW (lenS x8) fun v12 =>
(oW (binN .leq x10 v12) fun v13 =>
(bW v13
(∃ (I14 : Nat → List Value → Heap → Prop) (k15 : Nat), gcL h (I14 k15) [x8, x9, x10, (.int .i64 0)] h11 ∧
∀ k17 : Nat, ∀ x18 : Value, ∀ x19 : Value, ∀ x20 : Value, ∀ x21 : Value, ∀ h22, I14 k17 [x18, x19, x20, x21] h22 →
(oW (lenS x18) fun v23 =>
(oW (binN .lss x21 v23) fun v24 =>
(bW v24
(∃ (I25 : Nat → List Value → Heap → Prop) (k26 : Nat), gcL h (I25 k26) [x18, x19, x20, x21, (.int .i64 0)] h22 ∧
∀ k28 : Nat, ∀ x29 : Value, ∀ x30 : Value, ∀ x31 : Value, ∀ x32 : Value, ∀ x33 : Value, ∀ h34, I25 k28 [x29, x30, x31, x32, x33] h34 →
(oW (iaS 1 x29 x32) fun v35 =>
(oW (ldW false 1 h34 v35) fun v36 =>
(oW (lenS v36) fun v37 =>
(oW (binN .lss x33 v37) fun v38 =>
(bW v38
(∃ (I39 : Nat → List Value → Heap → Prop) (k40 : Nat), gcL h (I39 k40) [x29, x30, x31, x32, x33, (.int .i64 1), (.bool true), (.int .i64 0)] h34 ∧
∀ k42 : Nat, ∀ x43 : Value, ∀ x44 : Value, ∀ x45 : Value, ∀ x46 : Value, ∀ x47 : Value, ∀ x48 : Value, ∀ x49 : Value, ∀ x50 : Value, ∀ h51, I39 k42 [x43, x44, x45, x46, x47, x48, x49, x50] h51 →
(oW (iaS 1 x43 x46) fun v52 =>
(oW (ldW false 1 h51 v52) fun v53 =>
(oW (iaS 1 v53 x47) fun v54 =>
(oW (ldW false 1 h51 v54) fun v55 =>
(oW (lenS v55) fun v56 =>
(oW (binN .lss x50 v56) fun v57 =>
(bW v57
(oW (iaS 1 x43 x46) fun v58 =>
(oW (ldW false 1 h51 v58) fun v59 =>
(oW (iaS 1 v59 x47) fun v60 =>
(oW (ldW false 1 h51 v60) fun v61 =>
(oW (iaS 1 v61 x50) fun v62 =>
(oW (ldW false 1 h51 v62) fun v63 =>
(oW (iaS 1 x44 v63) fun v64 =>
(oW (ldW false 1 h51 v64) fun v65 =>
(bW x49
(oW (binN .gtr v65 (.int .i64 0)) fun v66 =>
(callW Try.prog (fn F_homographref28_Add) [x48, v65] h51 fun v67 h68 =>
(oW (binN .add x50 (.int .i64 1)) fun v69 =>
(∃ m41, m41 < k42 ∧ gcL h (I39 m41) [x43, x44, x45, x46, x47, v67, v66, v69] h68))))
(callW Try.prog (fn F_homographref28_Add) [x48, v65] h51 fun v70 h71 =>
(oW (binN .add x50 (.int .i64 1)) fun v72 =>
(∃ m41, m41 < k42 ∧ gcL h (I39 m41) [x43, x44, x45, x46, x47, v70, (.bool false), v72] h71))))))))))))
(bW x49
(oW (iaS 1 x44 x46) fun v73 =>
(oW (ldW false 1 h51 v73) fun v74 =>
(oW (binN .eql v74 (.int .i64 0)) fun v75 =>
(bW v75
(bW (.bool true)
(oW (iaS 1 x44 x46) fun v76 =>
(sW (stW 1 h51 v76 x48) fun h77 =>
(oW (binN .add x47 (.int .i64 1)) fun v78 =>
(∃ m27, m27 < k28 ∧ gcL h (I25 m27) [x43, x44, x45, x46, v78] h77))))
(oW (binN .add x47 (.int .i64 1)) fun v79 =>
(∃ m27, m27 < k28 ∧ gcL h (I25 m27) [x43, x44, x45, x46, v79] h51)))
(oW (iaS 1 x44 x46) fun v80 =>
(oW (ldW false 1 h51 v80) fun v81 =>
(oW (binN .lss x48 v81) fun v82 =>
(bW v82
(oW (iaS 1 x44 x46) fun v83 =>
(sW (stW 1 h51 v83 x48) fun h84 =>
(oW (binN .add x47 (.int .i64 1)) fun v85 =>
(∃ m27, m27 < k28 ∧ gcL h (I25 m27) [x43, x44, x45, x46, v85] h84))))
(oW (binN .add x47 (.int .i64 1)) fun v86 =>
(∃ m27, m27 < k28 ∧ gcL h (I25 m27) [x43, x44, x45, x46, v86] h51))))))))))
(bW (.bool false)
(oW (iaS 1 x44 x46) fun v87 =>
(sW (stW 1 h51 v87 x48) fun h88 =>
(oW (binN .add x47 (.int .i64 1)) fun v89 =>
(∃ m27, m27 < k28 ∧ gcL h (I25 m27) [x43, x44, x45, x46, v89] h88))))
(oW (binN .add x47 (.int .i64 1)) fun v90 =>
(∃ m27, m27 < k28 ∧ gcL h (I25 m27) [x43, x44, x45, x46, v90] h51))))))))))))
(oW (binN .add x32 (.int .i64 1)) fun v91 =>
(∃ m16, m16 < k17 ∧ gcL h (I14 m16) [x29, x30, x31, v91] h34))))))))
(oW (binN .add x20 (.int .i64 1)) fun v92 =>
(∃ m6, m6 < k7 ∧ gcL h (I4 m6) [x18, x19, v92] h22))))))
(gcV h Q x9 h11)))))))
theorem W_homographref28_least_eq (a0 : Value) (h : Heap) (Q : Value → Heap → Prop) : fW Try.prog ⟨[(14, [0, 3, 4, 5, 6, 7, 8, 9]), (9, [0, 3, 4, 5, 6]), (6, [0, 3, 4, 5]), (3, [0, 3, 4])], []⟩ Try.f51 [a0] h Q = W_homographref28_least a0 h Q := by kernel_rfl
theorem W_homographref28_least_ok {a0 : Value} {h : Heap} {Q : Value → Heap → Prop} (e : W_homographref28_least a0 h Q) : acall Try.prog F_homographref28_least [a0] h Q :=
  by refine acall_of_fW mixed ⟨[(14, [0, 3, 4, 5, 6, 7, 8, 9]), (9, [0, 3, 4, 5, 6]), (6, [0, 3, 4, 5]), (3, [0, 3, 4])], []⟩ Try.func51 (by kernel_rfl) ?_; rw [W_homographref28_least_eq]; exact e

/-- homograph/homographref28.Kids: loops {10: [1, 12, 13, 14]}; joins {7: [1, 3, 4, 10]} -/
def W_homographref28_Kids (a0 a1 a2 a3 : Value) (h : Heap) (Q : Value → Heap → Prop) : Prop :=
(hW (boxA h a0) fun v1 h2 =>
(oW (iaS 4 a1 a2) fun v3 =>
(oW (ldW true 4 h2 v3) fun v4 =>
(letH (h2 ++ [.row [(.int .i64 0), (.int .i64 0), (.int .i64 0), (.slice none 0 0)] .exact]) fun h5 =>
(sW (stW 4 h5 (.pointer (some ⟨h2.length, 0, none⟩)) v4) fun h6 =>
(oW (faW 3 1 (.pointer (some ⟨h2.length, 0, none⟩))) fun v7 =>
(oW (ldW false 1 h6 v7) fun v8 =>
(oW (iaS 2 v8 a3) fun v9 =>
(oW (ldW true 2 h6 v9) fun v10 =>
(letH (h6 ++ [.row [(.int .i64 0), (.slice none 0 0)] .exact]) fun h11 =>
(sW (stW 2 h11 (.pointer (some ⟨h6.length, 0, none⟩)) v10) fun h12 =>
(oW (faW 0 1 (.pointer (some ⟨h6.length, 0, none⟩))) fun v13 =>
(oW (ldW false 1 h12 v13) fun v14 =>
(oW (binN .eql v14 (.int .i64 (-1))) fun v15 =>
(bW v15
(gcV h Q (.tuple #[(.slice none 0 0), (.bool true)]) h12)
(∃ M16 : List Value → Heap → Prop,
(oW (faW 0 1 (.pointer (some ⟨h6.length, 0, none⟩))) fun v17 =>
(oW (ldW false 1 h12 v17) fun v18 =>
(oW (binN .lss v18 (.int .i64 0)) fun v19 =>
(bW v19
(bW (.bool true)
(gcV h Q (.tuple #[(.slice none 0 0), (.bool false)]) h12)
(gcL h M16 [a1, a3, v1, (.pointer (some ⟨h2.length, 0, none⟩))] h12))
(oW (faW 0 1 (.pointer (some ⟨h6.length, 0, none⟩))) fun v20 =>
(oW (ldW false 1 h12 v20) fun v21 =>
(oW (faW 3 1 v1) fun v22 =>
(oW (ldW false 1 h12 v22) fun v23 =>
(oW (lenS v23) fun v24 =>
(oW (binN .geq v21 v24) fun v25 =>
(bW v25
(bW (.bool true)
(gcV h Q (.tuple #[(.slice none 0 0), (.bool false)]) h12)
(gcL h M16 [a1, a3, v1, (.pointer (some ⟨h2.length, 0, none⟩))] h12))
(oW (faW 3 1 v1) fun v26 =>
(oW (ldW false 1 h12 v26) fun v27 =>
(oW (faW 0 1 (.pointer (some ⟨h6.length, 0, none⟩))) fun v28 =>
(oW (ldW false 1 h12 v28) fun v29 =>
(oW (iaS 1 v27 v29) fun v30 =>
(oW (ldW false 1 h12 v30) fun v31 =>
(oW (lenS v31) fun v32 =>
(oW (binN .eql v32 (.int .i64 0)) fun v33 =>
(bW v33
(bW (.bool true)
(gcV h Q (.tuple #[(.slice none 0 0), (.bool false)]) h12)
(gcL h M16 [a1, a3, v1, (.pointer (some ⟨h2.length, 0, none⟩))] h12))
(oW (faW 3 1 v1) fun v34 =>
(oW (ldW false 1 h12 v34) fun v35 =>
(oW (faW 0 1 (.pointer (some ⟨h6.length, 0, none⟩))) fun v36 =>
(oW (ldW false 1 h12 v36) fun v37 =>
(oW (iaS 1 v35 v37) fun v38 =>
(oW (ldW false 1 h12 v38) fun v39 =>
(oW (iaS 1 v39 (.int .i64 0)) fun v40 =>
(oW (ldW false 1 h12 v40) fun v41 =>
(oW (faW 0 1 (.pointer (some ⟨h2.length, 0, none⟩))) fun v42 =>
(oW (ldW false 1 h12 v42) fun v43 =>
(oW (binN .neq v41 v43) fun v44 =>
(bW v44
(bW (.bool true)
(gcV h Q (.tuple #[(.slice none 0 0), (.bool false)]) h12)
(gcL h M16 [a1, a3, v1, (.pointer (some ⟨h2.length, 0, none⟩))] h12))
(oW (faW 1 1 (.pointer (some ⟨h6.length, 0, none⟩))) fun v45 =>
(oW (ldW false 1 h12 v45) fun v46 =>
(oW (lenS v46) fun v47 =>
(oW (faW 3 1 v1) fun v48 =>
(oW (ldW false 1 h12 v48) fun v49 =>
(oW (faW 0 1 (.pointer (some ⟨h6.length, 0, none⟩))) fun v50 =>
(oW (ldW false 1 h12 v50) fun v51 =>
(oW (iaS 1 v49 v51) fun v52 =>
(oW (ldW false 1 h12 v52) fun v53 =>
(oW (lenS v53) fun v54 =>
(oW (binN .neq v47 v54) fun v55 =>
(bW v55
(gcV h Q (.tuple #[(.slice none 0 0), (.bool false)]) h12)
(gcL h M16 [a1, a3, v1, (.pointer (some ⟨h2.length, 0, none⟩))] h12))))))))))))))))))))))))))))))))))))))))))))) ∧
∀ x56 : Value, ∀ x57 : Value, ∀ x58 : Value, ∀ x59 : Value, ∀ h60, M16 [x56, x57, x58, x59] h60 →
(oW (ldW true 5 h60 x58) fun v61 =>
(oW (ldW true 4 h60 x59) fun v62 =>
(callW Try.prog (fn F_homographref27_Kids) [v61, v62, x57] h60 fun v63 h64 =>
(∃ (I65 : Nat → List Value → Heap → Prop) (k66 : Nat), gcL h (I65 k66) [x56, v63, (.slice none 0 0), (.int .i64 0)] h64 ∧
∀ k68 : Nat, ∀ x69 : Value, ∀ x70 : Value, ∀ x71 : Value, ∀ x72 : Value, ∀ h73, I65 k68 [x69, x70, x71, x72] h73 →
(oW (lenS x70) fun v74 =>
(oW (binN .lss x72 v74) fun v75 =>
(bW v75
(oW (iaS 3 x70 x72) fun v76 =>
(oW (faW 0 1 v76) fun v77 =>
(oW (ldW false 1 h73 v77) fun v78 =>
(oW (iaS 3 x70 x72) fun v79 =>
(oW (faW 1 1 v79) fun v80 =>
(oW (ldW false 1 h73 v80) fun v81 =>
(oW (iaS 3 x70 x72) fun v82 =>
(oW (faW 2 1 v82) fun v83 =>
(oW (ldW false 1 h73 v83) fun v84 =>
(callW Try.prog (fn F_homographref27_Find) [x69, v78, v81, v84] h73 fun v85 h86 =>
(oW (binN .lss v85 (.int .i64 0)) fun v87 =>
(bW v87
(gcV h Q (.tuple #[(.slice none 0 0), (.bool false)]) h86)
(hW (bslW h86 1 [(.int .i64 0)] [(0, 1, v85)]) fun v88 h89 =>
(hW (apW 1 8 h89 x71 v88) fun v90 h91 =>
(oW (binN .add x72 (.int .i64 1)) fun v92 =>
(∃ m67, m67 < k68 ∧ gcL h (I65 m67) [x69, x70, v90, v92] h91))))))))))))))))
(gcV h Q (.tuple #[x71, (.bool true)]) h73))))))))))))))))))))))))
theorem W_homographref28_Kids_eq (a0 a1 a2 a3 : Value) (h : Heap) (Q : Value → Heap → Prop) : fW Try.prog ⟨[(10, [1, 12, 13, 14])], [(7, [1, 3, 4, 10])]⟩ Try.f52 [a0, a1, a2, a3] h Q = W_homographref28_Kids a0 a1 a2 a3 h Q := by kernel_rfl
theorem W_homographref28_Kids_ok {a0 a1 a2 a3 : Value} {h : Heap} {Q : Value → Heap → Prop} (e : W_homographref28_Kids a0 a1 a2 a3 h Q) : acall Try.prog F_homographref28_Kids [a0, a1, a2, a3] h Q :=
  by refine acall_of_fW mixed ⟨[(10, [1, 12, 13, 14])], [(7, [1, 3, 4, 10])]⟩ Try.func52 (by kernel_rfl) ?_; rw [W_homographref28_Kids_eq]; exact e

/-- homograph/homographref28.Mul: loops {}; joins {} -/
def W_homographref28_Mul (a0 a1 : Value) (h : Heap) (Q : Value → Heap → Prop) : Prop :=
(oW (binN .gtr a1 (.int .i64 0)) fun v1 =>
(bW v1
(callW Try.prog (fn F_homographref28_most) [] h fun v2 h3 =>
(oW (binN .quo v2 a1) fun v4 =>
(oW (binN .gtr a0 v4) fun v5 =>
(bW v5
(callW Try.prog (fn F_homographref28_most) [] h3 fun v6 h7 =>
(gcV h Q v6 h7))
(oW (binN .mul a0 a1) fun v8 =>
(gcV h Q v8 h3))))))
(bW (.bool false)
(callW Try.prog (fn F_homographref28_most) [] h fun v9 h10 =>
(gcV h Q v9 h10))
(oW (binN .mul a0 a1) fun v11 =>
(gcV h Q v11 h)))))
theorem W_homographref28_Mul_eq (a0 a1 : Value) (h : Heap) (Q : Value → Heap → Prop) : fW Try.prog ⟨[], []⟩ Try.f53 [a0, a1] h Q = W_homographref28_Mul a0 a1 h Q := by kernel_rfl
theorem W_homographref28_Mul_ok {a0 a1 : Value} {h : Heap} {Q : Value → Heap → Prop} (e : W_homographref28_Mul a0 a1 h Q) : acall Try.prog F_homographref28_Mul [a0, a1] h Q :=
  by refine acall_of_fW mixed ⟨[], []⟩ Try.func53 (by kernel_rfl) ?_; rw [W_homographref28_Mul_eq]; exact e

/-- (homograph/count.knots).least$1: loops {3: [1, 4, 7, 8, 9]}; joins {} -/
def W_count_knots_least_D1 (a0 a1 : Value) (h : Heap) (Q : Value → Heap → Prop) : Prop :=
(oW (lenS a0) fun v1 =>
(∃ (I2 : Nat → List Value → Heap → Prop) (k3 : Nat), gcL h (I2 k3) [a1, (.int .i64 1), a0, v1, (.int .i64 0)] h ∧
∀ k5 : Nat, ∀ x6 : Value, ∀ x7 : Value, ∀ x8 : Value, ∀ x9 : Value, ∀ x10 : Value, ∀ h11, I2 k5 [x6, x7, x8, x9, x10] h11 →
(oW (binN .lss x10 x9) fun v12 =>
(bW v12
(oW (iaS 1 x8 x10) fun v13 =>
(oW (ldW false 1 h11 v13) fun v14 =>
(oW (ldW false 1 h11 x6) fun v15 =>
(oW (iaS 1 v15 v14) fun v16 =>
(oW (ldW false 1 h11 v16) fun v17 =>
(oW (binN .eql v17 (.int .i64 0)) fun v18 =>
(bW v18
(gcV h Q (.int .i64 0) h11)
(oW (ldW false 1 h11 x6) fun v19 =>
(oW (iaS 1 v19 v14) fun v20 =>
(oW (ldW false 1 h11 v20) fun v21 =>
(callW Try.prog (fn F_count_add) [x7, v21] h11 fun v22 h23 =>
(oW (binN .add x10 (.int .i64 1)) fun v24 =>
(∃ m4, m4 < k5 ∧ gcL h (I2 m4) [x6, v22, x8, x9, v24] h23)))))))))))))
(gcV h Q x7 h11)))))
theorem W_count_knots_least_D1_eq (a0 a1 : Value) (h : Heap) (Q : Value → Heap → Prop) : fW Try.prog ⟨[(3, [1, 4, 7, 8, 9])], []⟩ Try.f54 [a0, a1] h Q = W_count_knots_least_D1 a0 a1 h Q := by kernel_rfl
theorem W_count_knots_least_D1_ok {a0 a1 : Value} {h : Heap} {Q : Value → Heap → Prop} (e : W_count_knots_least_D1 a0 a1 h Q) : acall Try.prog F_count_knots_least_D1 [a0, a1] h Q :=
  by refine acall_of_fW mixed ⟨[(3, [1, 4, 7, 8, 9])], []⟩ Try.func54 (by kernel_rfl) ?_; rw [W_count_knots_least_D1_eq]; exact e

/-- homograph/count.until[[][]int]: loops {4: [0, 1, 4, 8, 9, 10], 1: [0, 1, 4]}; joins {} -/
def W_count_until_int (a0 a1 : Value) (h : Heap) (Q : Value → Heap → Prop) : Prop :=
(∃ (I1 : Nat → List Value → Heap → Prop) (k2 : Nat), gcL h (I1 k2) [a0, a1, (.bool true)] h ∧
∀ k4 : Nat, ∀ x5 : Value, ∀ x6 : Value, ∀ x7 : Value, ∀ h8, I1 k4 [x5, x6, x7] h8 →
(bW x7
(oW (lenS x5) fun v9 =>
(∃ (I10 : Nat → List Value → Heap → Prop) (k11 : Nat), gcL h (I10 k11) [x5, x6, (.bool false), x5, v9, (.int .i64 0)] h8 ∧
∀ k13 : Nat, ∀ x14 : Value, ∀ x15 : Value, ∀ x16 : Value, ∀ x17 : Value, ∀ x18 : Value, ∀ x19 : Value, ∀ h20, I10 k13 [x14, x15, x16, x17, x18, x19] h20 →
(oW (binN .lss x19 x18) fun v21 =>
(bW v21
(oW (iaS 1 x17 x19) fun v22 =>
(oW (ldW false 1 h20 v22) fun v23 =>
(callW Try.prog x15 [x19, v23] h20 fun v24 h25 =>
(bW v24
(oW (binN .add x19 (.int .i64 1)) fun v26 =>
(∃ m12, m12 < k13 ∧ gcL h (I10 m12) [x14, x15, (.bool true), x17, x18, v26] h25))
(oW (binN .add x19 (.int .i64 1)) fun v27 =>
(∃ m12, m12 < k13 ∧ gcL h (I10 m12) [x14, x15, x16, x17, x18, v27] h25))))))
(∃ m3, m3 < k4 ∧ gcL h (I1 m3) [x14, x15, x16] h20)))))
(gcV h Q (.tuple #[]) h8)))
theorem W_count_until_int_eq (a0 a1 : Value) (h : Heap) (Q : Value → Heap → Prop) : fW Try.prog ⟨[(4, [0, 1, 4, 8, 9, 10]), (1, [0, 1, 4])], []⟩ Try.f55 [a0, a1] h Q = W_count_until_int a0 a1 h Q := by kernel_rfl
theorem W_count_until_int_ok {a0 a1 : Value} {h : Heap} {Q : Value → Heap → Prop} (e : W_count_until_int a0 a1 h Q) : acall Try.prog F_count_until_int [a0, a1] h Q :=
  by refine acall_of_fW mixed ⟨[(4, [0, 1, 4, 8, 9, 10]), (1, [0, 1, 4])], []⟩ Try.func55 (by kernel_rfl) ?_; rw [W_count_until_int_eq]; exact e

/-- (homograph/count.knots).least$2: loops {3: [0, 2, 3, 7, 11, 12, 13]}; joins {} -/
def W_count_knots_least_D2 (a0 a1 a2 a3 : Value) (h : Heap) (Q : Value → Heap → Prop) : Prop :=
(oW (lenS a1) fun v1 =>
(∃ (I2 : Nat → List Value → Heap → Prop) (k3 : Nat), gcL h (I2 k3) [a0, a2, a3, (.bool false), a1, v1, (.int .i64 0)] h ∧
∀ k5 : Nat, ∀ x6 : Value, ∀ x7 : Value, ∀ x8 : Value, ∀ x9 : Value, ∀ x10 : Value, ∀ x11 : Value, ∀ x12 : Value, ∀ h13, I2 k5 [x6, x7, x8, x9, x10, x11, x12] h13 →
(oW (binN .lss x12 x11) fun v14 =>
(bW v14
(oW (iaS 1 x10 x12) fun v15 =>
(oW (ldW false 1 h13 v15) fun v16 =>
(oW (ldW false 1 h13 x7) fun v17 =>
(callW Try.prog v17 [v16] h13 fun v18 h19 =>
(oW (binN .gtr v18 (.int .i64 0)) fun v20 =>
(bW v20
(oW (ldW false 1 h19 x8) fun v21 =>
(oW (iaS 1 v21 x6) fun v22 =>
(oW (ldW false 1 h19 v22) fun v23 =>
(oW (binN .eql v23 (.int .i64 0)) fun v24 =>
(bW v24
(bW (.bool true)
(oW (ldW false 1 h19 x8) fun v25 =>
(oW (iaS 1 v25 x6) fun v26 =>
(sW (stW 1 h19 v26 v18) fun h27 =>
(oW (binN .add x12 (.int .i64 1)) fun v28 =>
(∃ m4, m4 < k5 ∧ gcL h (I2 m4) [x6, x7, x8, (.bool true), x10, x11, v28] h27)))))
(oW (binN .add x12 (.int .i64 1)) fun v29 =>
(∃ m4, m4 < k5 ∧ gcL h (I2 m4) [x6, x7, x8, x9, x10, x11, v29] h19)))
(oW (ldW false 1 h19 x8) fun v30 =>
(oW (iaS 1 v30 x6) fun v31 =>
(oW (ldW false 1 h19 v31) fun v32 =>
(oW (binN .lss v18 v32) fun v33 =>
(bW v33
(oW (ldW false 1 h19 x8) fun v34 =>
(oW (iaS 1 v34 x6) fun v35 =>
(sW (stW 1 h19 v35 v18) fun h36 =>
(oW (binN .add x12 (.int .i64 1)) fun v37 =>
(∃ m4, m4 < k5 ∧ gcL h (I2 m4) [x6, x7, x8, (.bool true), x10, x11, v37] h36)))))
(oW (binN .add x12 (.int .i64 1)) fun v38 =>
(∃ m4, m4 < k5 ∧ gcL h (I2 m4) [x6, x7, x8, x9, x10, x11, v38] h19))))))))))))
(bW (.bool false)
(oW (ldW false 1 h19 x8) fun v39 =>
(oW (iaS 1 v39 x6) fun v40 =>
(sW (stW 1 h19 v40 v18) fun h41 =>
(oW (binN .add x12 (.int .i64 1)) fun v42 =>
(∃ m4, m4 < k5 ∧ gcL h (I2 m4) [x6, x7, x8, (.bool true), x10, x11, v42] h41)))))
(oW (binN .add x12 (.int .i64 1)) fun v43 =>
(∃ m4, m4 < k5 ∧ gcL h (I2 m4) [x6, x7, x8, x9, x10, x11, v43] h19)))))))))
(gcV h Q x9 h13)))))
theorem W_count_knots_least_D2_eq (a0 a1 a2 a3 : Value) (h : Heap) (Q : Value → Heap → Prop) : fW Try.prog ⟨[(3, [0, 2, 3, 7, 11, 12, 13])], []⟩ Try.f56 [a0, a1, a2, a3] h Q = W_count_knots_least_D2 a0 a1 a2 a3 h Q := by kernel_rfl
theorem W_count_knots_least_D2_ok {a0 a1 a2 a3 : Value} {h : Heap} {Q : Value → Heap → Prop} (e : W_count_knots_least_D2 a0 a1 a2 a3 h Q) : acall Try.prog F_count_knots_least_D2 [a0, a1, a2, a3] h Q :=
  by refine acall_of_fW mixed ⟨[(3, [0, 2, 3, 7, 11, 12, 13])], []⟩ Try.func56 (by kernel_rfl) ?_; rw [W_count_knots_least_D2_eq]; exact e

/-- slices.Contains[[]int,int]: loops {}; joins {} -/
def W_slices_Contains_int_int (a0 a1 : Value) (h : Heap) (Q : Value → Heap → Prop) : Prop :=
(callW Try.prog (fn F_slices_Index_int_int) [a0, a1] h fun v1 h2 =>
(oW (binN .geq v1 (.int .i64 0)) fun v3 =>
(gcV h Q v3 h2)))
theorem W_slices_Contains_int_int_eq (a0 a1 : Value) (h : Heap) (Q : Value → Heap → Prop) : fW Try.prog ⟨[], []⟩ Try.f57 [a0, a1] h Q = W_slices_Contains_int_int a0 a1 h Q := by kernel_rfl
theorem W_slices_Contains_int_int_ok {a0 a1 : Value} {h : Heap} {Q : Value → Heap → Prop} (e : W_slices_Contains_int_int a0 a1 h Q) : acall Try.prog F_slices_Contains_int_int [a0, a1] h Q :=
  by refine acall_of_fW mixed ⟨[], []⟩ Try.func57 (by kernel_rfl) ?_; rw [W_slices_Contains_int_int_eq]; exact e

/-- homograph/homographref16.Check: loops {15: [1, 6], 10: [1, 3, 4, 5], 4: [1, 3]}; joins {3: [1]} -/
def W_homographref16_Check (a0 : Value) (h : Heap) (Q : Value → Heap → Prop) : Prop :=
(hW (boxA h a0) fun v1 h2 =>
(∃ M3 : List Value → Heap → Prop,
(oW (faW 1 1 v1) fun v4 =>
(oW (ldW false 1 h2 v4) fun v5 =>
(oW (binN .lss v5 (.int .i64 0)) fun v6 =>
(bW v6
(bW (.bool true)
(gcV h Q (.int .i64 1) h2)
(gcL h M3 [v1] h2))
(oW (faW 1 1 v1) fun v7 =>
(oW (ldW false 1 h2 v7) fun v8 =>
(oW (faW 0 1 v1) fun v9 =>
(oW (ldW false 1 h2 v9) fun v10 =>
(oW (lenS v10) fun v11 =>
(oW (binN .gtr v8 v11) fun v12 =>
(bW v12
(bW (.bool true)
(gcV h Q (.int .i64 1) h2)
(gcL h M3 [v1] h2))
(oW (faW 2 1 v1) fun v13 =>
(oW (ldW false 1 h2 v13) fun v14 =>
(oW (lenS v14) fun v15 =>
(oW (faW 1 1 v1) fun v16 =>
(oW (ldW false 1 h2 v16) fun v17 =>
(oW (binN .neq v15 v17) fun v18 =>
(bW v18
(bW (.bool true)
(gcV h Q (.int .i64 1) h2)
(gcL h M3 [v1] h2))
(oW (faW 0 1 v1) fun v19 =>
(oW (ldW false 1 h2 v19) fun v20 =>
(oW (lenS v20) fun v21 =>
(oW (binN .gtr v21 (.int .i64 128)) fun v22 =>
(bW v22
(bW (.bool true)
(gcV h Q (.int .i64 1) h2)
(gcL h M3 [v1] h2))
(oW (faW 3 1 v1) fun v23 =>
(oW (ldW false 1 h2 v23) fun v24 =>
(oW (lenS v24) fun v25 =>
(oW (binN .lss v25 (.int .i64 1)) fun v26 =>
(bW v26
(bW (.bool true)
(gcV h Q (.int .i64 1) h2)
(gcL h M3 [v1] h2))
(oW (faW 3 1 v1) fun v27 =>
(oW (ldW false 1 h2 v27) fun v28 =>
(oW (lenS v28) fun v29 =>
(oW (binN .gtr v29 (.int .i64 256)) fun v30 =>
(bW v30
(bW (.bool true)
(gcV h Q (.int .i64 1) h2)
(gcL h M3 [v1] h2))
(oW (ldW true 5 h2 v1) fun v31 =>
(oW (faW 4 1 v1) fun v32 =>
(oW (ldW false 1 h2 v32) fun v33 =>
(callW Try.prog (fn F_homographref16_made) [v31, v33] h2 fun v34 h35 =>
(oW (unA .not v34) fun v36 =>
(bW v36
(gcV h Q (.int .i64 1) h35)
(gcL h M3 [v1] h35)))))))))))))))))))))))))))))))))))))))) ∧
∀ x37 : Value, ∀ h38, M3 [x37] h38 →
(∃ (I39 : Nat → List Value → Heap → Prop) (k40 : Nat), gcL h (I39 k40) [x37, (.int .i64 0)] h38 ∧
∀ k42 : Nat, ∀ x43 : Value, ∀ x44 : Value, ∀ h45, I39 k42 [x43, x44] h45 →
(oW (faW 3 1 x43) fun v46 =>
(oW (ldW false 1 h45 v46) fun v47 =>
(oW (lenS v47) fun v48 =>
(oW (binN .lss x44 v48) fun v49 =>
(bW v49
(oW (faW 3 1 x43) fun v50 =>
(oW (ldW false 1 h45 v50) fun v51 =>
(oW (iaS 1 v51 x44) fun v52 =>
(oW (ldW false 1 h45 v52) fun v53 =>
(oW (lenS v53) fun v54 =>
(oW (binN .lss v54 (.int .i64 1)) fun v55 =>
(bW v55
(bW (.bool true)
(gcV h Q (.int .i64 1) h45)
(∃ (I56 : Nat → List Value → Heap → Prop) (k57 : Nat), gcL h (I56 k57) [x43, x44, v53, (.int .i64 1)] h45 ∧
∀ k59 : Nat, ∀ x60 : Value, ∀ x61 : Value, ∀ x62 : Value, ∀ x63 : Value, ∀ h64, I56 k59 [x60, x61, x62, x63] h64 →
(oW (lenS x62) fun v65 =>
(oW (binN .lss x63 v65) fun v66 =>
(bW v66
(oW (iaS 1 x62 x63) fun v67 =>
(oW (ldW false 1 h64 v67) fun v68 =>
(oW (binN .lss v68 (.int .i64 0)) fun v69 =>
(bW v69
(bW (.bool true)
(gcV h Q (.int .i64 1) h64)
(oW (binN .add x63 (.int .i64 1)) fun v70 =>
(∃ m58, m58 < k59 ∧ gcL h (I56 m58) [x60, x61, x62, v70] h64)))
(oW (iaS 1 x62 x63) fun v71 =>
(oW (ldW false 1 h64 v71) fun v72 =>
(oW (faW 0 1 x60) fun v73 =>
(oW (ldW false 1 h64 v73) fun v74 =>
(oW (lenS v74) fun v75 =>
(oW (binN .geq v72 v75) fun v76 =>
(bW v76
(gcV h Q (.int .i64 1) h64)
(oW (binN .add x63 (.int .i64 1)) fun v77 =>
(∃ m58, m58 < k59 ∧ gcL h (I56 m58) [x60, x61, x62, v77] h64)))))))))))))
(oW (binN .add x61 (.int .i64 1)) fun v78 =>
(∃ m41, m41 < k42 ∧ gcL h (I39 m41) [x60, v78] h64)))))))
(oW (lenS v53) fun v79 =>
(oW (binN .gtr v79 (.int .i64 9)) fun v80 =>
(bW v80
(bW (.bool true)
(gcV h Q (.int .i64 1) h45)
(∃ (I81 : Nat → List Value → Heap → Prop) (k82 : Nat), gcL h (I81 k82) [x43, x44, v53, (.int .i64 1)] h45 ∧
∀ k84 : Nat, ∀ x85 : Value, ∀ x86 : Value, ∀ x87 : Value, ∀ x88 : Value, ∀ h89, I81 k84 [x85, x86, x87, x88] h89 →
(oW (lenS x87) fun v90 =>
(oW (binN .lss x88 v90) fun v91 =>
(bW v91
(oW (iaS 1 x87 x88) fun v92 =>
(oW (ldW false 1 h89 v92) fun v93 =>
(oW (binN .lss v93 (.int .i64 0)) fun v94 =>
(bW v94
(bW (.bool true)
(gcV h Q (.int .i64 1) h89)
(oW (binN .add x88 (.int .i64 1)) fun v95 =>
(∃ m83, m83 < k84 ∧ gcL h (I81 m83) [x85, x86, x87, v95] h89)))
(oW (iaS 1 x87 x88) fun v96 =>
(oW (ldW false 1 h89 v96) fun v97 =>
(oW (faW 0 1 x85) fun v98 =>
(oW (ldW false 1 h89 v98) fun v99 =>
(oW (lenS v99) fun v100 =>
(oW (binN .geq v97 v100) fun v101 =>
(bW v101
(gcV h Q (.int .i64 1) h89)
(oW (binN .add x88 (.int .i64 1)) fun v102 =>
(∃ m83, m83 < k84 ∧ gcL h (I81 m83) [x85, x86, x87, v102] h89)))))))))))))
(oW (binN .add x86 (.int .i64 1)) fun v103 =>
(∃ m41, m41 < k42 ∧ gcL h (I39 m41) [x85, v103] h89)))))))
(oW (ldW true 5 h45 x43) fun v104 =>
(oW (iaS 1 v53 (.int .i64 0)) fun v105 =>
(oW (ldW false 1 h45 v105) fun v106 =>
(callW Try.prog (fn F_homographref16_made) [v104, v106] h45 fun v107 h108 =>
(keptW [v105, x43, v53, v53] h45 h108 ∧
(oW (unA .not v107) fun v109 =>
(bW v109
(gcV h Q (.int .i64 1) h108)
(∃ (I110 : Nat → List Value → Heap → Prop) (k111 : Nat), gcL h (I110 k111) [x43, x44, v53, (.int .i64 1)] h108 ∧
∀ k113 : Nat, ∀ x114 : Value, ∀ x115 : Value, ∀ x116 : Value, ∀ x117 : Value, ∀ h118, I110 k113 [x114, x115, x116, x117] h118 →
(oW (lenS x116) fun v119 =>
(oW (binN .lss x117 v119) fun v120 =>
(bW v120
(oW (iaS 1 x116 x117) fun v121 =>
(oW (ldW false 1 h118 v121) fun v122 =>
(oW (binN .lss v122 (.int .i64 0)) fun v123 =>
(bW v123
(bW (.bool true)
(gcV h Q (.int .i64 1) h118)
(oW (binN .add x117 (.int .i64 1)) fun v124 =>
(∃ m112, m112 < k113 ∧ gcL h (I110 m112) [x114, x115, x116, v124] h118)))
(oW (iaS 1 x116 x117) fun v125 =>
(oW (ldW false 1 h118 v125) fun v126 =>
(oW (faW 0 1 x114) fun v127 =>
(oW (ldW false 1 h118 v127) fun v128 =>
(oW (lenS v128) fun v129 =>
(oW (binN .geq v126 v129) fun v130 =>
(bW v130
(gcV h Q (.int .i64 1) h118)
(oW (binN .add x117 (.int .i64 1)) fun v131 =>
(∃ m112, m112 < k113 ∧ gcL h (I110 m112) [x114, x115, x116, v131] h118)))))))))))))
(oW (binN .add x115 (.int .i64 1)) fun v132 =>
(∃ m41, m41 < k42 ∧ gcL h (I39 m41) [x114, v132] h118)))))))))))))))))))))))
(oW (faW 1 1 x43) fun v133 =>
(oW (ldW false 1 h45 v133) fun v134 =>
(∃ (I135 : Nat → List Value → Heap → Prop) (k136 : Nat), gcL h (I135 k136) [x43, v134] h45 ∧
∀ k138 : Nat, ∀ x139 : Value, ∀ x140 : Value, ∀ h141, I135 k138 [x139, x140] h141 →
(oW (faW 0 1 x139) fun v142 =>
(oW (ldW false 1 h141 v142) fun v143 =>
(oW (lenS v143) fun v144 =>
(oW (binN .lss x140 v144) fun v145 =>
(bW v145
(oW (ldW true 5 h141 x139) fun v146 =>
(callW Try.prog (fn F_homographref16_By) [v146, x140] h141 fun v147 h148 =>
(oW (lenS v147) fun v149 =>
(oW (binN .eql v149 (.int .i64 0)) fun v150 =>
(bW v150
(gcV h Q (.int .i64 1) h148)
(oW (binN .add x140 (.int .i64 1)) fun v151 =>
(∃ m137, m137 < k138 ∧ gcL h (I135 m137) [x139, v151] h148)))))))
(gcV h Q (.int .i64 0) h141)))))))))))))))))
theorem W_homographref16_Check_eq (a0 : Value) (h : Heap) (Q : Value → Heap → Prop) : fW Try.prog ⟨[(15, [1, 6]), (10, [1, 3, 4, 5]), (4, [1, 3])], [(3, [1])]⟩ Try.f58 [a0] h Q = W_homographref16_Check a0 h Q := by kernel_rfl
theorem W_homographref16_Check_ok {a0 : Value} {h : Heap} {Q : Value → Heap → Prop} (e : W_homographref16_Check a0 h Q) : acall Try.prog F_homographref16_Check [a0] h Q :=
  by refine acall_of_fW mixed ⟨[(15, [1, 6]), (10, [1, 3, 4, 5]), (4, [1, 3])], [(3, [1])]⟩ Try.func58 (by kernel_rfl) ?_; rw [W_homographref16_Check_eq]; exact e

/-- homograph/homographref23.Check: loops {10: [1, 5], 4: [1, 3]}; joins {3: [1]} -/
def W_homographref23_Check (a0 : Value) (h : Heap) (Q : Value → Heap → Prop) : Prop :=
(hW (boxA h a0) fun v1 h2 =>
(∃ M3 : List Value → Heap → Prop,
(oW (faW 0 1 v1) fun v4 =>
(oW (ldW false 1 h2 v4) fun v5 =>
(oW (binN .lss v5 (.int .i64 0)) fun v6 =>
(bW v6
(bW (.bool true)
(gcV h Q (.int .i64 1) h2)
(gcL h M3 [v1] h2))
(oW (faW 0 1 v1) fun v7 =>
(oW (ldW false 1 h2 v7) fun v8 =>
(oW (binN .gtr v8 (.int .i64 65536)) fun v9 =>
(bW v9
(bW (.bool true)
(gcV h Q (.int .i64 1) h2)
(gcL h M3 [v1] h2))
(oW (faW 1 1 v1) fun v10 =>
(oW (ldW false 1 h2 v10) fun v11 =>
(oW (lenS v11) fun v12 =>
(oW (faW 0 1 v1) fun v13 =>
(oW (ldW false 1 h2 v13) fun v14 =>
(oW (binN .add v14 (.int .i64 1)) fun v15 =>
(oW (binN .neq v12 v15) fun v16 =>
(bW v16
(gcV h Q (.int .i64 1) h2)
(gcL h M3 [v1] h2))))))))))))))))) ∧
∀ x17 : Value, ∀ h18, M3 [x17] h18 →
(∃ (I19 : Nat → List Value → Heap → Prop) (k20 : Nat), gcL h (I19 k20) [x17, (.int .i64 0)] h18 ∧
∀ k22 : Nat, ∀ x23 : Value, ∀ x24 : Value, ∀ h25, I19 k22 [x23, x24] h25 →
(oW (faW 1 1 x23) fun v26 =>
(oW (ldW false 1 h25 v26) fun v27 =>
(oW (lenS v27) fun v28 =>
(oW (binN .lss x24 v28) fun v29 =>
(bW v29
(oW (faW 1 1 x23) fun v30 =>
(oW (ldW false 1 h25 v30) fun v31 =>
(oW (iaS 1 v31 x24) fun v32 =>
(oW (ldW false 1 h25 v32) fun v33 =>
(oW (binN .lss v33 x24) fun v34 =>
(bW v34
(bW (.bool true)
(gcV h Q (.int .i64 1) h25)
(oW (binN .add x24 (.int .i64 1)) fun v35 =>
(∃ m21, m21 < k22 ∧ gcL h (I19 m21) [x23, v35] h25)))
(oW (faW 0 1 x23) fun v36 =>
(oW (ldW false 1 h25 v36) fun v37 =>
(oW (binN .gtr v33 v37) fun v38 =>
(bW v38
(bW (.bool true)
(gcV h Q (.int .i64 1) h25)
(oW (binN .add x24 (.int .i64 1)) fun v39 =>
(∃ m21, m21 < k22 ∧ gcL h (I19 m21) [x23, v39] h25)))
(oW (faW 1 1 x23) fun v40 =>
(oW (ldW false 1 h25 v40) fun v41 =>
(oW (iaS 1 v41 v33) fun v42 =>
(oW (ldW false 1 h25 v42) fun v43 =>
(oW (binN .neq v43 v33) fun v44 =>
(bW v44
(gcV h Q (.int .i64 1) h25)
(oW (binN .add x24 (.int .i64 1)) fun v45 =>
(∃ m21, m21 < k22 ∧ gcL h (I19 m21) [x23, v45] h25))))))))))))))))))
(∃ (I46 : Nat → List Value → Heap → Prop) (k47 : Nat), gcL h (I46 k47) [x23, (.int .i64 0)] h25 ∧
∀ k49 : Nat, ∀ x50 : Value, ∀ x51 : Value, ∀ h52, I46 k49 [x50, x51] h52 →
(oW (faW 2 1 x50) fun v53 =>
(oW (ldW false 1 h52 v53) fun v54 =>
(oW (lenS v54) fun v55 =>
(oW (binN .lss x51 v55) fun v56 =>
(bW v56
(oW (faW 2 1 x50) fun v57 =>
(oW (ldW false 1 h52 v57) fun v58 =>
(oW (iaS 3 v58 x51) fun v59 =>
(oW (ldW true 3 h52 v59) fun v60 =>
(letH (h52 ++ [.row [(.int .i64 0), (.int .i64 0), (.int .i64 0)] .exact]) fun h61 =>
(sW (stW 3 h61 (.pointer (some ⟨h52.length, 0, none⟩)) v60) fun h62 =>
(oW (faW 1 1 (.pointer (some ⟨h52.length, 0, none⟩))) fun v63 =>
(oW (ldW false 1 h62 v63) fun v64 =>
(oW (binN .lss v64 (.int .i64 0)) fun v65 =>
(bW v65
(bW (.bool true)
(gcV h Q (.int .i64 1) h62)
(oW (binN .add x51 (.int .i64 1)) fun v66 =>
(∃ m48, m48 < k49 ∧ gcL h (I46 m48) [x50, v66] h62)))
(oW (faW 2 1 (.pointer (some ⟨h52.length, 0, none⟩))) fun v67 =>
(oW (ldW false 1 h62 v67) fun v68 =>
(oW (faW 1 1 (.pointer (some ⟨h52.length, 0, none⟩))) fun v69 =>
(oW (ldW false 1 h62 v69) fun v70 =>
(oW (binN .leq v68 v70) fun v71 =>
(bW v71
(bW (.bool true)
(gcV h Q (.int .i64 1) h62)
(oW (binN .add x51 (.int .i64 1)) fun v72 =>
(∃ m48, m48 < k49 ∧ gcL h (I46 m48) [x50, v72] h62)))
(oW (faW 2 1 (.pointer (some ⟨h52.length, 0, none⟩))) fun v73 =>
(oW (ldW false 1 h62 v73) fun v74 =>
(oW (faW 0 1 x50) fun v75 =>
(oW (ldW false 1 h62 v75) fun v76 =>
(oW (binN .gtr v74 v76) fun v77 =>
(bW v77
(bW (.bool true)
(gcV h Q (.int .i64 1) h62)
(oW (binN .add x51 (.int .i64 1)) fun v78 =>
(∃ m48, m48 < k49 ∧ gcL h (I46 m48) [x50, v78] h62)))
(oW (faW 0 1 (.pointer (some ⟨h52.length, 0, none⟩))) fun v79 =>
(oW (ldW false 1 h62 v79) fun v80 =>
(oW (binN .lss v80 (.int .i64 0)) fun v81 =>
(bW v81
(bW (.bool true)
(gcV h Q (.int .i64 1) h62)
(oW (binN .add x51 (.int .i64 1)) fun v82 =>
(∃ m48, m48 < k49 ∧ gcL h (I46 m48) [x50, v82] h62)))
(oW (faW 0 1 (.pointer (some ⟨h52.length, 0, none⟩))) fun v83 =>
(oW (ldW false 1 h62 v83) fun v84 =>
(oW (binN .geq v84 (.int .i64 32)) fun v85 =>
(bW v85
(bW (.bool true)
(gcV h Q (.int .i64 1) h62)
(oW (binN .add x51 (.int .i64 1)) fun v86 =>
(∃ m48, m48 < k49 ∧ gcL h (I46 m48) [x50, v86] h62)))
(oW (binN .gtr x51 (.int .i64 0)) fun v87 =>
(bW v87
(oW (faW 2 1 x50) fun v88 =>
(oW (ldW false 1 h62 v88) fun v89 =>
(oW (binN .sub x51 (.int .i64 1)) fun v90 =>
(oW (iaS 3 v89 v90) fun v91 =>
(oW (ldW true 3 h62 v91) fun v92 =>
(oW (ldW true 3 h62 (.pointer (some ⟨h52.length, 0, none⟩))) fun v93 =>
(callW Try.prog (fn F_homographref23_less) [v92, v93] h62 fun v94 h95 =>
(keptW [(.pointer (some ⟨h52.length, 0, none⟩)), v91, v88, v83, v79, v75, v73, v69, v67, v63] h62 h95 ∧
(oW (unA .not v94) fun v96 =>
(bW v96
(gcV h Q (.int .i64 1) h95)
(oW (binN .add x51 (.int .i64 1)) fun v97 =>
(∃ m48, m48 < k49 ∧ gcL h (I46 m48) [x50, v97] h95))))))))))))
(bW (.bool false)
(gcV h Q (.int .i64 1) h62)
(oW (binN .add x51 (.int .i64 1)) fun v98 =>
(∃ m48, m48 < k49 ∧ gcL h (I46 m48) [x50, v98] h62)))))))))))))))))))))))))))))))))))
(gcV h Q (.int .i64 0) h52)))))))))))))))
theorem W_homographref23_Check_eq (a0 : Value) (h : Heap) (Q : Value → Heap → Prop) : fW Try.prog ⟨[(10, [1, 5]), (4, [1, 3])], [(3, [1])]⟩ Try.f59 [a0] h Q = W_homographref23_Check a0 h Q := by kernel_rfl
theorem W_homographref23_Check_ok {a0 : Value} {h : Heap} {Q : Value → Heap → Prop} (e : W_homographref23_Check a0 h Q) : acall Try.prog F_homographref23_Check [a0] h Q :=
  by refine acall_of_fW mixed ⟨[(10, [1, 5]), (4, [1, 3])], [(3, [1])]⟩ Try.func59 (by kernel_rfl) ?_; rw [W_homographref23_Check_eq]; exact e

/-- homograph/homographref27.splits: loops {6: [0, 1, 2, 3, 9, 10, 11]}; joins {} -/
def W_homographref27_splits (a0 a1 a2 a3 : Value) (h : Heap) (Q : Value → Heap → Prop) : Prop :=
(oW (lenS a1) fun v1 =>
(oW (binN .eql v1 (.int .i64 0)) fun v2 =>
(bW v2
(hW (bslW h 1 [(.slice none 0 0)] [(0, 1, a2)]) fun v3 h4 =>
(gcV h Q v3 h4))
(oW (lenS a2) fun v5 =>
(oW (binN .sub v5 (.int .i64 1)) fun v6 =>
(oW (iaS 1 a2 v6) fun v7 =>
(oW (ldW false 1 h v7) fun v8 =>
(∃ (I9 : Nat → List Value → Heap → Prop) (k10 : Nat), gcL h (I9 k10) [a0, a1, a2, a3, (.slice none 0 0), v8, v8] h ∧
∀ k12 : Nat, ∀ x13 : Value, ∀ x14 : Value, ∀ x15 : Value, ∀ x16 : Value, ∀ x17 : Value, ∀ x18 : Value, ∀ x19 : Value, ∀ h20, I9 k12 [x13, x14, x15, x16, x17, x18, x19] h20 →
(oW (binN .leq x19 x16) fun v21 =>
(bW v21
(oW (iaS 1 x14 (.int .i64 0)) fun v22 =>
(oW (ldW false 1 h20 v22) fun v23 =>
(oW (bldW [(.int .i64 0), (.int .i64 0), (.int .i64 0)] [(0, 1, v23), (1, 1, x18), (2, 1, x19)]) fun v24 =>
(callW Try.prog (fn F_homographref27_has) [x13, v24] h20 fun v25 h26 =>
(bW v25
(hW (apW 1 8 h26 (.slice none 0 0) x15) fun v27 h28 =>
(hW (bslW h28 1 [(.int .i64 0)] [(0, 1, x19)]) fun v29 h30 =>
(hW (apW 1 8 h30 v27 v29) fun v31 h32 =>
(oW (slS 1 h32 x14 (some (.int .i64 1)) none none) fun v33 =>
(callW Try.prog (fn F_homographref27_splits) [x13, v33, v31, x16] h32 fun v34 h35 =>
(hW (apW 1 24 h35 x17 v34) fun v36 h37 =>
(oW (binN .add x19 (.int .i64 1)) fun v38 =>
(∃ m11, m11 < k12 ∧ gcL h (I9 m11) [x13, x14, x15, x16, v36, x18, v38] h37))))))))
(oW (binN .add x19 (.int .i64 1)) fun v39 =>
(∃ m11, m11 < k12 ∧ gcL h (I9 m11) [x13, x14, x15, x16, x17, x18, v39] h26)))))))
(gcV h Q x17 h20)))))))))))
theorem W_homographref27_splits_eq (a0 a1 a2 a3 : Value) (h : Heap) (Q : Value → Heap → Prop) : fW Try.prog ⟨[(6, [0, 1, 2, 3, 9, 10, 11])], []⟩ Try.f60 [a0, a1, a2, a3] h Q = W_homographref27_splits a0 a1 a2 a3 h Q := by kernel_rfl
theorem W_homographref27_splits_ok {a0 a1 a2 a3 : Value} {h : Heap} {Q : Value → Heap → Prop} (e : W_homographref27_splits a0 a1 a2 a3 h Q) : acall Try.prog F_homographref27_splits [a0, a1, a2, a3] h Q :=
  by refine acall_of_fW mixed ⟨[(6, [0, 1, 2, 3, 9, 10, 11])], []⟩ Try.func60 (by kernel_rfl) ?_; rw [W_homographref27_splits_eq]; exact e

/-- homograph/homographref26.Less: loops {}; joins {} -/
def W_homographref26_Less (a0 a1 : Value) (h : Heap) (Q : Value → Heap → Prop) : Prop :=
(hW (boxA h a0) fun v1 h2 =>
(hW (boxA h2 a1) fun v3 h4 =>
(oW (faW 0 1 v1) fun v5 =>
(oW (ldW false 1 h4 v5) fun v6 =>
(oW (faW 0 1 v3) fun v7 =>
(oW (ldW false 1 h4 v7) fun v8 =>
(oW (binN .neq v6 v8) fun v9 =>
(bW v9
(oW (faW 0 1 v1) fun v10 =>
(oW (ldW false 1 h4 v10) fun v11 =>
(oW (faW 0 1 v3) fun v12 =>
(oW (ldW false 1 h4 v12) fun v13 =>
(oW (binN .lss v11 v13) fun v14 =>
(gcV h Q v14 h4))))))
(oW (faW 1 1 v1) fun v15 =>
(oW (ldW false 1 h4 v15) fun v16 =>
(oW (faW 1 1 v3) fun v17 =>
(oW (ldW false 1 h4 v17) fun v18 =>
(oW (binN .neq v16 v18) fun v19 =>
(bW v19
(oW (faW 1 1 v1) fun v20 =>
(oW (ldW false 1 h4 v20) fun v21 =>
(oW (faW 1 1 v3) fun v22 =>
(oW (ldW false 1 h4 v22) fun v23 =>
(oW (binN .lss v21 v23) fun v24 =>
(gcV h Q v24 h4))))))
(oW (faW 2 1 v1) fun v25 =>
(oW (ldW false 1 h4 v25) fun v26 =>
(oW (faW 2 1 v3) fun v27 =>
(oW (ldW false 1 h4 v27) fun v28 =>
(oW (binN .lss v26 v28) fun v29 =>
(gcV h Q v29 h4))))))))))))))))))))
theorem W_homographref26_Less_eq (a0 a1 : Value) (h : Heap) (Q : Value → Heap → Prop) : fW Try.prog ⟨[], []⟩ Try.f61 [a0, a1] h Q = W_homographref26_Less a0 a1 h Q := by kernel_rfl
theorem W_homographref26_Less_ok {a0 a1 : Value} {h : Heap} {Q : Value → Heap → Prop} (e : W_homographref26_Less a0 a1 h Q) : acall Try.prog F_homographref26_Less [a0, a1] h Q :=
  by refine acall_of_fW mixed ⟨[], []⟩ Try.func61 (by kernel_rfl) ?_; rw [W_homographref26_Less_eq]; exact e

/-- homograph/forest.Kids: loops {11: [7, 9, 63, 64, 65]}; joins {9: [7, 8], 3: [2, 3, 4]} -/
def W_forest_Kids (a0 a1 a2 : Value) (h : Heap) (Q : Value → Heap → Prop) : Prop :=
(hW (boxA h a0) fun v1 h2 =>
(hW (boxA h2 a1) fun v3 h4 =>
(∃ M5 : List Value → Heap → Prop,
(oW (binN .lss a2 (.int .i64 0)) fun v6 =>
(bW v6
(bW (.bool true)
(gcV h Q (.slice none 0 0) h4)
(gcL h M5 [a2, v1, v3] h4))
(oW (faW 3 1 v3) fun v7 =>
(oW (ldW false 1 h4 v7) fun v8 =>
(oW (lenS v8) fun v9 =>
(oW (binN .geq a2 v9) fun v10 =>
(bW v10
(gcV h Q (.slice none 0 0) h4)
(gcL h M5 [a2, v1, v3] h4)))))))) ∧
∀ x11 : Value, ∀ x12 : Value, ∀ x13 : Value, ∀ h14, M5 [x11, x12, x13] h14 →
(oW (faW 3 1 x13) fun v15 =>
(oW (ldW false 1 h14 v15) fun v16 =>
(oW (iaS 2 v16 x11) fun v17 =>
(oW (ldW true 2 h14 v17) fun v18 =>
(letH (h14 ++ [.row [(.int .i64 0), (.slice none 0 0)] .exact]) fun h19 =>
(sW (stW 2 h19 (.pointer (some ⟨h14.length, 0, none⟩)) v18) fun h20 =>
(oW (faW 0 1 (.pointer (some ⟨h14.length, 0, none⟩))) fun v21 =>
(oW (ldW false 1 h20 v21) fun v22 =>
(oW (binN .lss v22 (.int .i64 0)) fun v23 =>
(bW v23
(bW (.bool true)
(gcV h Q (.slice none 0 0) h20)
(oW (faW 3 1 x12) fun v24 =>
(oW (ldW false 1 h20 v24) fun v25 =>
(oW (faW 0 1 (.pointer (some ⟨h14.length, 0, none⟩))) fun v26 =>
(oW (ldW false 1 h20 v26) fun v27 =>
(oW (iaS 1 v25 v27) fun v28 =>
(oW (ldW false 1 h20 v28) fun v29 =>
(∃ M30 : List Value → Heap → Prop,
(oW (lenS v29) fun v31 =>
(oW (binN .eql v31 (.int .i64 0)) fun v32 =>
(bW v32
(bW (.bool true)
(gcV h Q (.slice none 0 0) h20)
(gcL h M30 [(.pointer (some ⟨h14.length, 0, none⟩)), v29] h20))
(oW (iaS 1 v29 (.int .i64 0)) fun v33 =>
(oW (ldW false 1 h20 v33) fun v34 =>
(oW (faW 0 1 x13) fun v35 =>
(oW (ldW false 1 h20 v35) fun v36 =>
(oW (binN .neq v34 v36) fun v37 =>
(bW v37
(bW (.bool true)
(gcV h Q (.slice none 0 0) h20)
(gcL h M30 [(.pointer (some ⟨h14.length, 0, none⟩)), v29] h20))
(oW (faW 1 1 (.pointer (some ⟨h14.length, 0, none⟩))) fun v38 =>
(oW (ldW false 1 h20 v38) fun v39 =>
(oW (lenS v39) fun v40 =>
(oW (lenS v29) fun v41 =>
(oW (binN .neq v40 v41) fun v42 =>
(bW v42
(gcV h Q (.slice none 0 0) h20)
(gcL h M30 [(.pointer (some ⟨h14.length, 0, none⟩)), v29] h20)))))))))))))))) ∧
∀ x43 : Value, ∀ x44 : Value, ∀ h45, M30 [x43, x44] h45 →
(oW (slS 1 h45 x44 (some (.int .i64 1)) none none) fun v46 =>
(oW (lenS v46) fun v47 =>
(∃ (I48 : Nat → List Value → Heap → Prop) (k49 : Nat), gcL h (I48 k49) [x43, (.slice none 0 0), v46, v47, (.int .i64 0)] h45 ∧
∀ k51 : Nat, ∀ x52 : Value, ∀ x53 : Value, ∀ x54 : Value, ∀ x55 : Value, ∀ x56 : Value, ∀ h57, I48 k51 [x52, x53, x54, x55, x56] h57 →
(oW (binN .lss x56 x55) fun v58 =>
(bW v58
(oW (iaS 1 x54 x56) fun v59 =>
(oW (ldW false 1 h57 v59) fun v60 =>
(oW (faW 1 1 x52) fun v61 =>
(oW (ldW false 1 h57 v61) fun v62 =>
(oW (iaS 1 v62 x56) fun v63 =>
(oW (ldW false 1 h57 v63) fun v64 =>
(oW (faW 1 1 x52) fun v65 =>
(oW (ldW false 1 h57 v65) fun v66 =>
(oW (binN .add x56 (.int .i64 1)) fun v67 =>
(oW (iaS 1 v66 v67) fun v68 =>
(oW (ldW false 1 h57 v68) fun v69 =>
(oW (bldW [(.int .i64 0), (.int .i64 0), (.int .i64 0)] [(0, 1, v60), (1, 1, v64), (2, 1, v69)]) fun v70 =>
(hW (bslW h57 1 [(.int .i64 0), (.int .i64 0), (.int .i64 0)] [(0, 3, v70)]) fun v71 h72 =>
(keptW [v68, v65, v63, v61] h57 h72 ∧
(hW (apW 3 24 h72 x53 v71) fun v73 h74 =>
(keptW [v68, v65, v63, v61] h72 h74 ∧
(oW (binN .add x56 (.int .i64 1)) fun v75 =>
(∃ m50, m50 < k51 ∧ gcL h (I48 m50) [x52, v73, x54, x55, v75] h74))))))))))))))))))
(gcV h Q x53 h57))))))))))))))
(oW (faW 0 1 (.pointer (some ⟨h14.length, 0, none⟩))) fun v76 =>
(oW (ldW false 1 h20 v76) fun v77 =>
(oW (faW 3 1 x12) fun v78 =>
(oW (ldW false 1 h20 v78) fun v79 =>
(oW (lenS v79) fun v80 =>
(oW (binN .geq v77 v80) fun v81 =>
(bW v81
(gcV h Q (.slice none 0 0) h20)
(oW (faW 3 1 x12) fun v82 =>
(oW (ldW false 1 h20 v82) fun v83 =>
(oW (faW 0 1 (.pointer (some ⟨h14.length, 0, none⟩))) fun v84 =>
(oW (ldW false 1 h20 v84) fun v85 =>
(oW (iaS 1 v83 v85) fun v86 =>
(oW (ldW false 1 h20 v86) fun v87 =>
(∃ M88 : List Value → Heap → Prop,
(oW (lenS v87) fun v89 =>
(oW (binN .eql v89 (.int .i64 0)) fun v90 =>
(bW v90
(bW (.bool true)
(gcV h Q (.slice none 0 0) h20)
(gcL h M88 [(.pointer (some ⟨h14.length, 0, none⟩)), v87] h20))
(oW (iaS 1 v87 (.int .i64 0)) fun v91 =>
(oW (ldW false 1 h20 v91) fun v92 =>
(oW (faW 0 1 x13) fun v93 =>
(oW (ldW false 1 h20 v93) fun v94 =>
(oW (binN .neq v92 v94) fun v95 =>
(bW v95
(bW (.bool true)
(gcV h Q (.slice none 0 0) h20)
(gcL h M88 [(.pointer (some ⟨h14.length, 0, none⟩)), v87] h20))
(oW (faW 1 1 (.pointer (some ⟨h14.length, 0, none⟩))) fun v96 =>
(oW (ldW false 1 h20 v96) fun v97 =>
(oW (lenS v97) fun v98 =>
(oW (lenS v87) fun v99 =>
(oW (binN .neq v98 v99) fun v100 =>
(bW v100
(gcV h Q (.slice none 0 0) h20)
(gcL h M88 [(.pointer (some ⟨h14.length, 0, none⟩)), v87] h20)))))))))))))))) ∧
∀ x101 : Value, ∀ x102 : Value, ∀ h103, M88 [x101, x102] h103 →
(oW (slS 1 h103 x102 (some (.int .i64 1)) none none) fun v104 =>
(oW (lenS v104) fun v105 =>
(∃ (I106 : Nat → List Value → Heap → Prop) (k107 : Nat), gcL h (I106 k107) [x101, (.slice none 0 0), v104, v105, (.int .i64 0)] h103 ∧
∀ k109 : Nat, ∀ x110 : Value, ∀ x111 : Value, ∀ x112 : Value, ∀ x113 : Value, ∀ x114 : Value, ∀ h115, I106 k109 [x110, x111, x112, x113, x114] h115 →
(oW (binN .lss x114 x113) fun v116 =>
(bW v116
(oW (iaS 1 x112 x114) fun v117 =>
(oW (ldW false 1 h115 v117) fun v118 =>
(oW (faW 1 1 x110) fun v119 =>
(oW (ldW false 1 h115 v119) fun v120 =>
(oW (iaS 1 v120 x114) fun v121 =>
(oW (ldW false 1 h115 v121) fun v122 =>
(oW (faW 1 1 x110) fun v123 =>
(oW (ldW false 1 h115 v123) fun v124 =>
(oW (binN .add x114 (.int .i64 1)) fun v125 =>
(oW (iaS 1 v124 v125) fun v126 =>
(oW (ldW false 1 h115 v126) fun v127 =>
(oW (bldW [(.int .i64 0), (.int .i64 0), (.int .i64 0)] [(0, 1, v118), (1, 1, v122), (2, 1, v127)]) fun v128 =>
(hW (bslW h115 1 [(.int .i64 0), (.int .i64 0), (.int .i64 0)] [(0, 3, v128)]) fun v129 h130 =>
(keptW [v126, v123, v121, v119] h115 h130 ∧
(hW (apW 3 24 h130 x111 v129) fun v131 h132 =>
(keptW [v126, v123, v121, v119] h130 h132 ∧
(oW (binN .add x114 (.int .i64 1)) fun v133 =>
(∃ m108, m108 < k109 ∧ gcL h (I106 m108) [x110, v131, x112, x113, v133] h132))))))))))))))))))
(gcV h Q x111 h115)))))))))))))))))))))))))))))))))
theorem W_forest_Kids_eq (a0 a1 a2 : Value) (h : Heap) (Q : Value → Heap → Prop) : fW Try.prog ⟨[(11, [7, 9, 63, 64, 65])], [(9, [7, 8]), (3, [2, 3, 4])]⟩ Try.f62 [a0, a1, a2] h Q = W_forest_Kids a0 a1 a2 h Q := by kernel_rfl
theorem W_forest_Kids_ok {a0 a1 a2 : Value} {h : Heap} {Q : Value → Heap → Prop} (e : W_forest_Kids a0 a1 a2 h Q) : acall Try.prog F_forest_Kids [a0, a1, a2] h Q :=
  by refine acall_of_fW mixed ⟨[(11, [7, 9, 63, 64, 65])], [(9, [7, 8]), (3, [2, 3, 4])]⟩ Try.func62 (by kernel_rfl) ?_; rw [W_forest_Kids_eq]; exact e

/-- slices.IndexFunc[[]int,int]: loops {2: [0, 1, 7, 8]}; joins {} -/
def W_slices_IndexFunc_int_int (a0 a1 : Value) (h : Heap) (Q : Value → Heap → Prop) : Prop :=
(oW (lenS a0) fun v1 =>
(∃ (I2 : Nat → List Value → Heap → Prop) (k3 : Nat), gcL h (I2 k3) [a0, a1, v1, (.int .i64 0)] h ∧
∀ k5 : Nat, ∀ x6 : Value, ∀ x7 : Value, ∀ x8 : Value, ∀ x9 : Value, ∀ h10, I2 k5 [x6, x7, x8, x9] h10 →
(oW (binN .lss x9 x8) fun v11 =>
(bW v11
(oW (iaS 1 x6 x9) fun v12 =>
(oW (ldW false 1 h10 v12) fun v13 =>
(callW Try.prog x7 [v13] h10 fun v14 h15 =>
(bW v14
(gcV h Q x9 h15)
(oW (binN .add x9 (.int .i64 1)) fun v16 =>
(∃ m4, m4 < k5 ∧ gcL h (I2 m4) [x6, x7, x8, v16] h15))))))
(gcV h Q (.int .i64 (-1)) h10)))))
theorem W_slices_IndexFunc_int_int_eq (a0 a1 : Value) (h : Heap) (Q : Value → Heap → Prop) : fW Try.prog ⟨[(2, [0, 1, 7, 8])], []⟩ Try.f65 [a0, a1] h Q = W_slices_IndexFunc_int_int a0 a1 h Q := by kernel_rfl
theorem W_slices_IndexFunc_int_int_ok {a0 a1 : Value} {h : Heap} {Q : Value → Heap → Prop} (e : W_slices_IndexFunc_int_int a0 a1 h Q) : acall Try.prog F_slices_IndexFunc_int_int [a0, a1] h Q :=
  by refine acall_of_fW mixed ⟨[(2, [0, 1, 7, 8])], []⟩ Try.func65 (by kernel_rfl) ?_; rw [W_slices_IndexFunc_int_int_eq]; exact e

/-- slices.Index[[]int,int]: loops {2: [0, 1, 7, 8]}; joins {} -/
def W_slices_Index_int_int (a0 a1 : Value) (h : Heap) (Q : Value → Heap → Prop) : Prop :=
(oW (lenS a0) fun v1 =>
(∃ (I2 : Nat → List Value → Heap → Prop) (k3 : Nat), gcL h (I2 k3) [a0, a1, v1, (.int .i64 0)] h ∧
∀ k5 : Nat, ∀ x6 : Value, ∀ x7 : Value, ∀ x8 : Value, ∀ x9 : Value, ∀ h10, I2 k5 [x6, x7, x8, x9] h10 →
(oW (binN .lss x9 x8) fun v11 =>
(bW v11
(oW (iaS 1 x6 x9) fun v12 =>
(oW (ldW false 1 h10 v12) fun v13 =>
(oW (binN .eql x7 v13) fun v14 =>
(bW v14
(gcV h Q x9 h10)
(oW (binN .add x9 (.int .i64 1)) fun v15 =>
(∃ m4, m4 < k5 ∧ gcL h (I2 m4) [x6, x7, x8, v15] h10))))))
(gcV h Q (.int .i64 (-1)) h10)))))
theorem W_slices_Index_int_int_eq (a0 a1 : Value) (h : Heap) (Q : Value → Heap → Prop) : fW Try.prog ⟨[(2, [0, 1, 7, 8])], []⟩ Try.f66 [a0, a1] h Q = W_slices_Index_int_int a0 a1 h Q := by kernel_rfl
theorem W_slices_Index_int_int_ok {a0 a1 : Value} {h : Heap} {Q : Value → Heap → Prop} (e : W_slices_Index_int_int a0 a1 h Q) : acall Try.prog F_slices_Index_int_int [a0, a1] h Q :=
  by refine acall_of_fW mixed ⟨[(2, [0, 1, 7, 8])], []⟩ Try.func66 (by kernel_rfl) ?_; rw [W_slices_Index_int_int_eq]; exact e

/-- homograph/homographref16.made: loops {}; joins {} -/
def W_homographref16_made (a0 a1 : Value) (h : Heap) (Q : Value → Heap → Prop) : Prop :=
(hW (boxA h a0) fun v1 h2 =>
(oW (faW 1 1 v1) fun v3 =>
(oW (ldW false 1 h2 v3) fun v4 =>
(oW (binN .geq a1 v4) fun v5 =>
(bW v5
(oW (faW 0 1 v1) fun v6 =>
(oW (ldW false 1 h2 v6) fun v7 =>
(oW (lenS v7) fun v8 =>
(oW (binN .lss a1 v8) fun v9 =>
(gcV h Q v9 h2)))))
(gcV h Q (.bool false) h2))))))
theorem W_homographref16_made_eq (a0 a1 : Value) (h : Heap) (Q : Value → Heap → Prop) : fW Try.prog ⟨[], []⟩ Try.f67 [a0, a1] h Q = W_homographref16_made a0 a1 h Q := by kernel_rfl
theorem W_homographref16_made_ok {a0 a1 : Value} {h : Heap} {Q : Value → Heap → Prop} (e : W_homographref16_made a0 a1 h Q) : acall Try.prog F_homographref16_made [a0, a1] h Q :=
  by refine acall_of_fW mixed ⟨[], []⟩ Try.func67 (by kernel_rfl) ?_; rw [W_homographref16_made_eq]; exact e

/-- homograph/homographref16.By: loops {3: [1, 2, 5, 6]}; joins {} -/
def W_homographref16_By (a0 a1 : Value) (h : Heap) (Q : Value → Heap → Prop) : Prop :=
(hW (boxA h a0) fun v1 h2 =>
(∃ (I3 : Nat → List Value → Heap → Prop) (k4 : Nat), gcL h (I3 k4) [a1, v1, (.slice none 0 0), (.int .i64 0)] h2 ∧
∀ k6 : Nat, ∀ x7 : Value, ∀ x8 : Value, ∀ x9 : Value, ∀ x10 : Value, ∀ h11, I3 k6 [x7, x8, x9, x10] h11 →
(oW (faW 3 1 x8) fun v12 =>
(oW (ldW false 1 h11 v12) fun v13 =>
(oW (lenS v13) fun v14 =>
(oW (binN .lss x10 v14) fun v15 =>
(bW v15
(oW (faW 3 1 x8) fun v16 =>
(oW (ldW false 1 h11 v16) fun v17 =>
(oW (iaS 1 v17 x10) fun v18 =>
(oW (ldW false 1 h11 v18) fun v19 =>
(oW (lenS v19) fun v20 =>
(oW (binN .gtr v20 (.int .i64 0)) fun v21 =>
(bW v21
(oW (faW 3 1 x8) fun v22 =>
(oW (ldW false 1 h11 v22) fun v23 =>
(oW (iaS 1 v23 x10) fun v24 =>
(oW (ldW false 1 h11 v24) fun v25 =>
(oW (iaS 1 v25 (.int .i64 0)) fun v26 =>
(oW (ldW false 1 h11 v26) fun v27 =>
(oW (binN .eql v27 x7) fun v28 =>
(bW v28
(hW (bslW h11 1 [(.int .i64 0)] [(0, 1, x10)]) fun v29 h30 =>
(hW (apW 1 8 h30 x9 v29) fun v31 h32 =>
(oW (binN .add x10 (.int .i64 1)) fun v33 =>
(∃ m5, m5 < k6 ∧ gcL h (I3 m5) [x7, x8, v31, v33] h32))))
(oW (binN .add x10 (.int .i64 1)) fun v34 =>
(∃ m5, m5 < k6 ∧ gcL h (I3 m5) [x7, x8, x9, v34] h11))))))))))
(bW (.bool false)
(hW (bslW h11 1 [(.int .i64 0)] [(0, 1, x10)]) fun v35 h36 =>
(hW (apW 1 8 h36 x9 v35) fun v37 h38 =>
(oW (binN .add x10 (.int .i64 1)) fun v39 =>
(∃ m5, m5 < k6 ∧ gcL h (I3 m5) [x7, x8, v37, v39] h38))))
(oW (binN .add x10 (.int .i64 1)) fun v40 =>
(∃ m5, m5 < k6 ∧ gcL h (I3 m5) [x7, x8, x9, v40] h11))))))))))
(gcV h Q x9 h11))))))))
theorem W_homographref16_By_eq (a0 a1 : Value) (h : Heap) (Q : Value → Heap → Prop) : fW Try.prog ⟨[(3, [1, 2, 5, 6])], []⟩ Try.f68 [a0, a1] h Q = W_homographref16_By a0 a1 h Q := by kernel_rfl
theorem W_homographref16_By_ok {a0 a1 : Value} {h : Heap} {Q : Value → Heap → Prop} (e : W_homographref16_By a0 a1 h Q) : acall Try.prog F_homographref16_By [a0, a1] h Q :=
  by refine acall_of_fW mixed ⟨[(3, [1, 2, 5, 6])], []⟩ Try.func68 (by kernel_rfl) ?_; rw [W_homographref16_By_eq]; exact e

/-- homograph/homographref23.less: loops {}; joins {} -/
def W_homographref23_less (a0 a1 : Value) (h : Heap) (Q : Value → Heap → Prop) : Prop :=
(hW (boxA h a0) fun v1 h2 =>
(hW (boxA h2 a1) fun v3 h4 =>
(oW (faW 1 1 v1) fun v5 =>
(oW (ldW false 1 h4 v5) fun v6 =>
(oW (faW 1 1 v3) fun v7 =>
(oW (ldW false 1 h4 v7) fun v8 =>
(oW (binN .neq v6 v8) fun v9 =>
(bW v9
(oW (faW 1 1 v1) fun v10 =>
(oW (ldW false 1 h4 v10) fun v11 =>
(oW (faW 1 1 v3) fun v12 =>
(oW (ldW false 1 h4 v12) fun v13 =>
(oW (binN .lss v11 v13) fun v14 =>
(gcV h Q v14 h4))))))
(oW (faW 2 1 v1) fun v15 =>
(oW (ldW false 1 h4 v15) fun v16 =>
(oW (faW 2 1 v3) fun v17 =>
(oW (ldW false 1 h4 v17) fun v18 =>
(oW (binN .neq v16 v18) fun v19 =>
(bW v19
(oW (faW 2 1 v1) fun v20 =>
(oW (ldW false 1 h4 v20) fun v21 =>
(oW (faW 2 1 v3) fun v22 =>
(oW (ldW false 1 h4 v22) fun v23 =>
(oW (binN .lss v21 v23) fun v24 =>
(gcV h Q v24 h4))))))
(oW (faW 0 1 v1) fun v25 =>
(oW (ldW false 1 h4 v25) fun v26 =>
(oW (faW 0 1 v3) fun v27 =>
(oW (ldW false 1 h4 v27) fun v28 =>
(oW (binN .lss v26 v28) fun v29 =>
(gcV h Q v29 h4))))))))))))))))))))
theorem W_homographref23_less_eq (a0 a1 : Value) (h : Heap) (Q : Value → Heap → Prop) : fW Try.prog ⟨[], []⟩ Try.f69 [a0, a1] h Q = W_homographref23_less a0 a1 h Q := by kernel_rfl
theorem W_homographref23_less_ok {a0 a1 : Value} {h : Heap} {Q : Value → Heap → Prop} (e : W_homographref23_less a0 a1 h Q) : acall Try.prog F_homographref23_less [a0, a1] h Q :=
  by refine acall_of_fW mixed ⟨[], []⟩ Try.func69 (by kernel_rfl) ?_; rw [W_homographref23_less_eq]; exact e

end Go.Ax
