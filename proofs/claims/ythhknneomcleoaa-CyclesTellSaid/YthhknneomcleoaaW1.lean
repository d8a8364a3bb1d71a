/- The small words of functions that the laws reach. -/
import Derived.Test.YthhknneomcleoaaC1
import Derived.Test.YthhknneomcleoaaChecked
import Derived.KernelRfl
namespace Go.Ax
open Go Go.Proofs
theorem mixed : Try.prog.follows .mixedOrders = true := by kernel_rfl

abbrev F_homographlaw06_NfaSteps : FuncId := 3
abbrev F_homographlaw06_NfaMeans : FuncId := 4
abbrev F_homographlaw06_NfaClosed : FuncId := 5
abbrev F_homographlaw06_NfaParts : FuncId := 6
abbrev F_homographlaw06_awake : FuncId := 12
abbrev F_nfa_Build : FuncId := 13
abbrev F_homographref02_Plain : FuncId := 14
abbrev F_homographref04_Same : FuncId := 15
abbrev F_nfa_Close : FuncId := 16
abbrev F_homographref06_Close : FuncId := 17
abbrev F_homographlaw06_plain : FuncId := 18
abbrev F_nfa_Step : FuncId := 19
abbrev F_homographref06_Step : FuncId := 20
abbrev F_nfa_Whole : FuncId := 21
abbrev F_homographref04_Whole : FuncId := 22
abbrev F_homographref02_Many : FuncId := 23
abbrev F_homographref02_Set : FuncId := 54
abbrev F_homographref02_Rep : FuncId := 55
abbrev F_homographref02_Lit : FuncId := 56
abbrev F_regex_Check : FuncId := 57
abbrev F_nfa_plain : FuncId := 58
abbrev F_nfa_builder_piece : FuncId := 59
abbrev F_homographref02_Make : FuncId := 60
abbrev F_slices_DeleteFunc_int_int : FuncId := 61
abbrev F_slices_Clone_int_int : FuncId := 62
abbrev F_nfa_Close_D1 : FuncId := 63
abbrev F_slices_Sorted_int : FuncId := 64
abbrev F_maps_Keys_map_int_bool_int_bool : FuncId := 65
abbrev F_homographref06_rising : FuncId := 66
abbrev F_byteset_Has : FuncId := 67
abbrev F_homographref06_has : FuncId := 68
abbrev F_homographref01_Has : FuncId := 69
abbrev F_slices_Contains_int_int : FuncId := 70
abbrev F_homographref04_Ends : FuncId := 71
abbrev F_homographref01_With : FuncId := 97
abbrev F_regex_shallow : FuncId := 98
abbrev F_slices_ContainsFunc_api_Node_api_Node : FuncId := 99
abbrev F_nfa_plain_D1 : FuncId := 100
abbrev F_nfa_builder_piece_D1 : FuncId := 101
abbrev F_nfa_builder_eps : FuncId := 102
abbrev F_nfa_builder_again : FuncId := 103
abbrev F_homographref01_Range : FuncId := 104
abbrev F_slices_IndexFunc_int_int : FuncId := 105
abbrev F_slices_Collect_int : FuncId := 106
abbrev F_slices_Sort_int_int : FuncId := 107
abbrev F_maps_Keys_map_int_bool_int_bool_D1 : FuncId := 108
abbrev F_slices_Index_int_int : FuncId := 109
abbrev F_homographref04_from : FuncId := 110
abbrev F_regex_counts : FuncId := 128
abbrev F_regex_shallow_D1 : FuncId := 129
abbrev F_slices_IndexFunc_api_Node_api_Node : FuncId := 130
abbrev F_homographref04_either : FuncId := 134
abbrev F_homographref04_often : FuncId := 135
abbrev F_homographref04_apart : FuncId := 136

/-- homograph/homographlaw06.NfaSteps: loops {}; joins {} -/
def W_homographlaw06_NfaSteps (a0 a1 a2 : Value) (h : Heap) (Q : Value → Heap → Prop) : Prop :=
(callW Try.prog (fn F_homographlaw06_awake) [] h fun v1 h2 =>
(oW (unA .not v1) fun v3 =>
(bW v3
(gcV h Q (.bool false) h2)
(oW (lenStr a0) fun v4 =>
(oW (binN .gtr v4 (.int .i64 10)) fun v5 =>
(bW v5
(bW (.bool true)
(gcV h Q (.bool true) h2)
(callW Try.prog (fn F_homographref02_Plain) [a0] h2 fun v6 h7 =>
(callW Try.prog (fn F_nfa_Build) [v6] h7 fun v8 h9 =>
(oW (extractA v8 0) fun v10 =>
(oW (extractA v8 1) fun v11 =>
(letH (h9 ++ [.row [(.int .i64 0), (.slice none 0 0), (.slice none 0 0), (.int .i64 0), (.int .i64 0)] .exact]) fun h12 =>
(sW (stW 5 h12 (.pointer (some ⟨h9.length, 0, none⟩)) v10) fun h13 =>
(oW (binN .neq v11 (.int .i64 0)) fun v14 =>
(bW v14
(oW (binN .eql v11 (.int .i64 70)) fun v15 =>
(gcV h Q v15 h13))
(oW (ldW true 5 h13 (.pointer (some ⟨h9.length, 0, none⟩))) fun v16 =>
(oW (ldW true 5 h13 (.pointer (some ⟨h9.length, 0, none⟩))) fun v17 =>
(callW Try.prog (fn F_nfa_Close) [v16, a1] h13 fun v18 h19 =>
(keptW [(.pointer (some ⟨h9.length, 0, none⟩)), (.pointer (some ⟨h9.length, 0, none⟩))] h13 h19 ∧
(callW Try.prog (fn F_homographlaw06_plain) [v17] h19 fun v20 h21 =>
(keptW [(.pointer (some ⟨h9.length, 0, none⟩)), (.pointer (some ⟨h9.length, 0, none⟩))] h19 h21 ∧
(callW Try.prog (fn F_homographref06_Close) [v20, a1] h21 fun v22 h23 =>
(keptW [(.pointer (some ⟨h9.length, 0, none⟩)), (.pointer (some ⟨h9.length, 0, none⟩))] h21 h23 ∧
(callW Try.prog (fn F_homographref04_Same) [v18, v22] h23 fun v24 h25 =>
(keptW [(.pointer (some ⟨h9.length, 0, none⟩)), (.pointer (some ⟨h9.length, 0, none⟩))] h23 h25 ∧
(bW v24
(oW (ldW true 5 h25 (.pointer (some ⟨h9.length, 0, none⟩))) fun v26 =>
(oW (ldW true 5 h25 (.pointer (some ⟨h9.length, 0, none⟩))) fun v27 =>
(callW Try.prog (fn F_nfa_Step) [v26, a1, a2] h25 fun v28 h29 =>
(keptW [(.pointer (some ⟨h9.length, 0, none⟩)), (.pointer (some ⟨h9.length, 0, none⟩)), (.pointer (some ⟨h9.length, 0, none⟩)), (.pointer (some ⟨h9.length, 0, none⟩))] h25 h29 ∧
(callW Try.prog (fn F_homographlaw06_plain) [v27] h29 fun v30 h31 =>
(keptW [(.pointer (some ⟨h9.length, 0, none⟩)), (.pointer (some ⟨h9.length, 0, none⟩)), (.pointer (some ⟨h9.length, 0, none⟩)), (.pointer (some ⟨h9.length, 0, none⟩))] h29 h31 ∧
(callW Try.prog (fn F_homographref06_Step) [v30, a1, a2] h31 fun v32 h33 =>
(keptW [(.pointer (some ⟨h9.length, 0, none⟩)), (.pointer (some ⟨h9.length, 0, none⟩)), (.pointer (some ⟨h9.length, 0, none⟩)), (.pointer (some ⟨h9.length, 0, none⟩))] h31 h33 ∧
(callW Try.prog (fn F_homographref04_Same) [v28, v32] h33 fun v34 h35 =>
(keptW [(.pointer (some ⟨h9.length, 0, none⟩)), (.pointer (some ⟨h9.length, 0, none⟩)), (.pointer (some ⟨h9.length, 0, none⟩)), (.pointer (some ⟨h9.length, 0, none⟩))] h33 h35 ∧
(gcV h Q v34 h35)))))))))))
(gcV h Q (.bool false) h25)))))))))))))))))))))
(oW (lenS a1) fun v36 =>
(oW (binN .gtr v36 (.int .i64 60)) fun v37 =>
(bW v37
(gcV h Q (.bool true) h2)
(callW Try.prog (fn F_homographref02_Plain) [a0] h2 fun v38 h39 =>
(callW Try.prog (fn F_nfa_Build) [v38] h39 fun v40 h41 =>
(oW (extractA v40 0) fun v42 =>
(oW (extractA v40 1) fun v43 =>
(letH (h41 ++ [.row [(.int .i64 0), (.slice none 0 0), (.slice none 0 0), (.int .i64 0), (.int .i64 0)] .exact]) fun h44 =>
(sW (stW 5 h44 (.pointer (some ⟨h41.length, 0, none⟩)) v42) fun h45 =>
(oW (binN .neq v43 (.int .i64 0)) fun v46 =>
(bW v46
(oW (binN .eql v43 (.int .i64 70)) fun v47 =>
(gcV h Q v47 h45))
(oW (ldW true 5 h45 (.pointer (some ⟨h41.length, 0, none⟩))) fun v48 =>
(oW (ldW true 5 h45 (.pointer (some ⟨h41.length, 0, none⟩))) fun v49 =>
(callW Try.prog (fn F_nfa_Close) [v48, a1] h45 fun v50 h51 =>
(keptW [(.pointer (some ⟨h41.length, 0, none⟩)), (.pointer (some ⟨h41.length, 0, none⟩))] h45 h51 ∧
(callW Try.prog (fn F_homographlaw06_plain) [v49] h51 fun v52 h53 =>
(keptW [(.pointer (some ⟨h41.length, 0, none⟩)), (.pointer (some ⟨h41.length, 0, none⟩))] h51 h53 ∧
(callW Try.prog (fn F_homographref06_Close) [v52, a1] h53 fun v54 h55 =>
(keptW [(.pointer (some ⟨h41.length, 0, none⟩)), (.pointer (some ⟨h41.length, 0, none⟩))] h53 h55 ∧
(callW Try.prog (fn F_homographref04_Same) [v50, v54] h55 fun v56 h57 =>
(keptW [(.pointer (some ⟨h41.length, 0, none⟩)), (.pointer (some ⟨h41.length, 0, none⟩))] h55 h57 ∧
(bW v56
(oW (ldW true 5 h57 (.pointer (some ⟨h41.length, 0, none⟩))) fun v58 =>
(oW (ldW true 5 h57 (.pointer (some ⟨h41.length, 0, none⟩))) fun v59 =>
(callW Try.prog (fn F_nfa_Step) [v58, a1, a2] h57 fun v60 h61 =>
(keptW [(.pointer (some ⟨h41.length, 0, none⟩)), (.pointer (some ⟨h41.length, 0, none⟩)), (.pointer (some ⟨h41.length, 0, none⟩)), (.pointer (some ⟨h41.length, 0, none⟩))] h57 h61 ∧
(callW Try.prog (fn F_homographlaw06_plain) [v59] h61 fun v62 h63 =>
(keptW [(.pointer (some ⟨h41.length, 0, none⟩)), (.pointer (some ⟨h41.length, 0, none⟩)), (.pointer (some ⟨h41.length, 0, none⟩)), (.pointer (some ⟨h41.length, 0, none⟩))] h61 h63 ∧
(callW Try.prog (fn F_homographref06_Step) [v62, a1, a2] h63 fun v64 h65 =>
(keptW [(.pointer (some ⟨h41.length, 0, none⟩)), (.pointer (some ⟨h41.length, 0, none⟩)), (.pointer (some ⟨h41.length, 0, none⟩)), (.pointer (some ⟨h41.length, 0, none⟩))] h63 h65 ∧
(callW Try.prog (fn F_homographref04_Same) [v60, v64] h65 fun v66 h67 =>
(keptW [(.pointer (some ⟨h41.length, 0, none⟩)), (.pointer (some ⟨h41.length, 0, none⟩)), (.pointer (some ⟨h41.length, 0, none⟩)), (.pointer (some ⟨h41.length, 0, none⟩))] h65 h67 ∧
(gcV h Q v66 h67)))))))))))
(gcV h Q (.bool false) h57)))))))))))))))))))))))))))))
theorem W_homographlaw06_NfaSteps_eq (a0 a1 a2 : Value) (h : Heap) (Q : Value → Heap → Prop) : fW Try.prog ⟨[], []⟩ Try.f3 [a0, a1, a2] h Q = W_homographlaw06_NfaSteps a0 a1 a2 h Q := by kernel_rfl
theorem W_homographlaw06_NfaSteps_ok {a0 a1 a2 : Value} {h : Heap} {Q : Value → Heap → Prop} (e : W_homographlaw06_NfaSteps a0 a1 a2 h Q) : acall Try.prog F_homographlaw06_NfaSteps [a0, a1, a2] h Q :=
  by refine acall_of_fW mixed ⟨[], []⟩ Try.func3 (by kernel_rfl) ?_; rw [W_homographlaw06_NfaSteps_eq]; exact e

/-- homograph/homographlaw06.NfaMeans: loops {}; joins {} -/
def W_homographlaw06_NfaMeans (a0 a1 : Value) (h : Heap) (Q : Value → Heap → Prop) : Prop :=
(callW Try.prog (fn F_homographlaw06_awake) [] h fun v1 h2 =>
(oW (unA .not v1) fun v3 =>
(bW v3
(gcV h Q (.bool false) h2)
(oW (lenStr a0) fun v4 =>
(oW (binN .gtr v4 (.int .i64 10)) fun v5 =>
(bW v5
(bW (.bool true)
(gcV h Q (.bool true) h2)
(callW Try.prog (fn F_homographref02_Plain) [a0] h2 fun v6 h7 =>
(letH (h7 ++ [.row [(.int .i64 0), (.int .u64 0), (.int .u64 0), (.int .u64 0), (.int .u64 0), (.int .i64 0), (.int .i64 0), (.slice none 0 0)] .exact]) fun h8 =>
(sW (stW 8 h8 (.pointer (some ⟨h7.length, 0, none⟩)) v6) fun h9 =>
(oW (ldW true 8 h9 (.pointer (some ⟨h7.length, 0, none⟩))) fun v10 =>
(callW Try.prog (fn F_nfa_Build) [v10] h9 fun v11 h12 =>
(oW (extractA v11 0) fun v13 =>
(oW (extractA v11 1) fun v14 =>
(letH (h12 ++ [.row [(.int .i64 0), (.slice none 0 0), (.slice none 0 0), (.int .i64 0), (.int .i64 0)] .exact]) fun h15 =>
(sW (stW 5 h15 (.pointer (some ⟨h12.length, 0, none⟩)) v13) fun h16 =>
(oW (binN .neq v14 (.int .i64 0)) fun v17 =>
(bW v17
(oW (binN .eql v14 (.int .i64 70)) fun v18 =>
(gcV h Q v18 h16))
(oW (ldW true 5 h16 (.pointer (some ⟨h12.length, 0, none⟩))) fun v19 =>
(oW (ldW true 8 h16 (.pointer (some ⟨h7.length, 0, none⟩))) fun v20 =>
(callW Try.prog (fn F_nfa_Whole) [v19, a1] h16 fun v21 h22 =>
(keptW [(.pointer (some ⟨h7.length, 0, none⟩)), (.pointer (some ⟨h12.length, 0, none⟩))] h16 h22 ∧
(callW Try.prog (fn F_homographref04_Whole) [v20, a1] h22 fun v23 h24 =>
(keptW [(.pointer (some ⟨h7.length, 0, none⟩)), (.pointer (some ⟨h12.length, 0, none⟩))] h22 h24 ∧
(oW (eqB v21 v23) fun v25 =>
(gcV h Q v25 h24))))))))))))))))))))
(oW (lenStr a1) fun v26 =>
(oW (binN .gtr v26 (.int .i64 10)) fun v27 =>
(bW v27
(gcV h Q (.bool true) h2)
(callW Try.prog (fn F_homographref02_Plain) [a0] h2 fun v28 h29 =>
(letH (h29 ++ [.row [(.int .i64 0), (.int .u64 0), (.int .u64 0), (.int .u64 0), (.int .u64 0), (.int .i64 0), (.int .i64 0), (.slice none 0 0)] .exact]) fun h30 =>
(sW (stW 8 h30 (.pointer (some ⟨h29.length, 0, none⟩)) v28) fun h31 =>
(oW (ldW true 8 h31 (.pointer (some ⟨h29.length, 0, none⟩))) fun v32 =>
(callW Try.prog (fn F_nfa_Build) [v32] h31 fun v33 h34 =>
(oW (extractA v33 0) fun v35 =>
(oW (extractA v33 1) fun v36 =>
(letH (h34 ++ [.row [(.int .i64 0), (.slice none 0 0), (.slice none 0 0), (.int .i64 0), (.int .i64 0)] .exact]) fun h37 =>
(sW (stW 5 h37 (.pointer (some ⟨h34.length, 0, none⟩)) v35) fun h38 =>
(oW (binN .neq v36 (.int .i64 0)) fun v39 =>
(bW v39
(oW (binN .eql v36 (.int .i64 70)) fun v40 =>
(gcV h Q v40 h38))
(oW (ldW true 5 h38 (.pointer (some ⟨h34.length, 0, none⟩))) fun v41 =>
(oW (ldW true 8 h38 (.pointer (some ⟨h29.length, 0, none⟩))) fun v42 =>
(callW Try.prog (fn F_nfa_Whole) [v41, a1] h38 fun v43 h44 =>
(keptW [(.pointer (some ⟨h29.length, 0, none⟩)), (.pointer (some ⟨h34.length, 0, none⟩))] h38 h44 ∧
(callW Try.prog (fn F_homographref04_Whole) [v42, a1] h44 fun v45 h46 =>
(keptW [(.pointer (some ⟨h29.length, 0, none⟩)), (.pointer (some ⟨h34.length, 0, none⟩))] h44 h46 ∧
(oW (eqB v43 v45) fun v47 =>
(gcV h Q v47 h46))))))))))))))))))))))))))))
theorem W_homographlaw06_NfaMeans_eq (a0 a1 : Value) (h : Heap) (Q : Value → Heap → Prop) : fW Try.prog ⟨[], []⟩ Try.f4 [a0, a1] h Q = W_homographlaw06_NfaMeans a0 a1 h Q := by kernel_rfl
theorem W_homographlaw06_NfaMeans_ok {a0 a1 : Value} {h : Heap} {Q : Value → Heap → Prop} (e : W_homographlaw06_NfaMeans a0 a1 h Q) : acall Try.prog F_homographlaw06_NfaMeans [a0, a1] h Q :=
  by refine acall_of_fW mixed ⟨[], []⟩ Try.func4 (by kernel_rfl) ?_; rw [W_homographlaw06_NfaMeans_eq]; exact e

/-- homograph/homographlaw06.NfaClosed: loops {20: [1, 6, 8, 10, 11, 12], 16: [1, 6, 8, 10], 11: [1, 6, 8, 9]}; joins {6: [0, 1]} -/
def W_homographlaw06_NfaClosed (a0 a1 : Value) (h : Heap) (Q : Value → Heap → Prop) : Prop :=
(callW Try.prog (fn F_homographlaw06_awake) [] h fun v1 h2 =>
(oW (unA .not v1) fun v3 =>
(bW v3
(gcV h Q (.bool false) h2)
(∃ M4 : List Value → Heap → Prop,
(oW (lenStr a0) fun v5 =>
(oW (binN .gtr v5 (.int .i64 10)) fun v6 =>
(bW v6
(bW (.bool true)
(gcV h Q (.bool true) h2)
(gcL h M4 [a0, a1] h2))
(oW (lenS a1) fun v7 =>
(oW (binN .gtr v7 (.int .i64 60)) fun v8 =>
(bW v8
(gcV h Q (.bool true) h2)
(gcL h M4 [a0, a1] h2))))))) ∧
∀ x9 : Value, ∀ x10 : Value, ∀ h11, M4 [x9, x10] h11 →
(callW Try.prog (fn F_homographref02_Plain) [x9] h11 fun v12 h13 =>
(callW Try.prog (fn F_nfa_Build) [v12] h13 fun v14 h15 =>
(oW (extractA v14 0) fun v16 =>
(oW (extractA v14 1) fun v17 =>
(letH (h15 ++ [.row [(.int .i64 0), (.slice none 0 0), (.slice none 0 0), (.int .i64 0), (.int .i64 0)] .exact]) fun h18 =>
(sW (stW 5 h18 (.pointer (some ⟨h15.length, 0, none⟩)) v16) fun h19 =>
(oW (binN .neq v17 (.int .i64 0)) fun v20 =>
(bW v20
(oW (binN .eql v17 (.int .i64 70)) fun v21 =>
(gcV h Q v21 h19))
(oW (ldW true 5 h19 (.pointer (some ⟨h15.length, 0, none⟩))) fun v22 =>
(callW Try.prog (fn F_nfa_Close) [v22, x10] h19 fun v23 h24 =>
(∃ (I25 : Nat → List Value → Heap → Prop) (k26 : Nat), gcL h (I25 k26) [x10, (.pointer (some ⟨h15.length, 0, none⟩)), v23, (.int .i64 0)] h24 ∧
∀ k28 : Nat, ∀ x29 : Value, ∀ x30 : Value, ∀ x31 : Value, ∀ x32 : Value, ∀ h33, I25 k28 [x29, x30, x31, x32] h33 →
(oW (lenS x31) fun v34 =>
(oW (binN .lss x32 v34) fun v35 =>
(bW v35
(oW (iaS 1 x31 x32) fun v36 =>
(oW (ldW false 1 h33 v36) fun v37 =>
(oW (binN .lss v37 (.int .i64 0)) fun v38 =>
(bW v38
(bW (.bool true)
(gcV h Q (.bool false) h33)
(oW (binN .add x32 (.int .i64 1)) fun v39 =>
(∃ m27, m27 < k28 ∧ gcL h (I25 m27) [x29, x30, x31, v39] h33)))
(oW (iaS 1 x31 x32) fun v40 =>
(oW (ldW false 1 h33 v40) fun v41 =>
(oW (faW 0 1 x30) fun v42 =>
(oW (ldW false 1 h33 v42) fun v43 =>
(oW (binN .geq v41 v43) fun v44 =>
(bW v44
(bW (.bool true)
(gcV h Q (.bool false) h33)
(oW (binN .add x32 (.int .i64 1)) fun v45 =>
(∃ m27, m27 < k28 ∧ gcL h (I25 m27) [x29, x30, x31, v45] h33)))
(oW (binN .gtr x32 (.int .i64 0)) fun v46 =>
(bW v46
(oW (iaS 1 x31 x32) fun v47 =>
(oW (ldW false 1 h33 v47) fun v48 =>
(oW (binN .sub x32 (.int .i64 1)) fun v49 =>
(oW (iaS 1 x31 v49) fun v50 =>
(oW (ldW false 1 h33 v50) fun v51 =>
(oW (binN .leq v48 v51) fun v52 =>
(bW v52
(gcV h Q (.bool false) h33)
(oW (binN .add x32 (.int .i64 1)) fun v53 =>
(∃ m27, m27 < k28 ∧ gcL h (I25 m27) [x29, x30, x31, v53] h33)))))))))
(bW (.bool false)
(gcV h Q (.bool false) h33)
(oW (binN .add x32 (.int .i64 1)) fun v54 =>
(∃ m27, m27 < k28 ∧ gcL h (I25 m27) [x29, x30, x31, v54] h33)))))))))))))))
(∃ (I55 : Nat → List Value → Heap → Prop) (k56 : Nat), gcL h (I55 k56) [x29, x30, x31, (.int .i64 0)] h33 ∧
∀ k58 : Nat, ∀ x59 : Value, ∀ x60 : Value, ∀ x61 : Value, ∀ x62 : Value, ∀ h63, I55 k58 [x59, x60, x61, x62] h63 →
(oW (lenS x59) fun v64 =>
(oW (binN .lss x62 v64) fun v65 =>
(bW v65
(∃ (I66 : Nat → List Value → Heap → Prop) (k67 : Nat), gcL h (I66 k67) [x59, x60, x61, x62, (.bool false), (.int .i64 0)] h63 ∧
∀ k69 : Nat, ∀ x70 : Value, ∀ x71 : Value, ∀ x72 : Value, ∀ x73 : Value, ∀ x74 : Value, ∀ x75 : Value, ∀ h76, I66 k69 [x70, x71, x72, x73, x74, x75] h76 →
(oW (lenS x72) fun v77 =>
(oW (binN .lss x75 v77) fun v78 =>
(bW v78
(bW x74
(oW (binN .add x75 (.int .i64 1)) fun v79 =>
(∃ m68, m68 < k69 ∧ gcL h (I66 m68) [x70, x71, x72, x73, (.bool true), v79] h76))
(oW (iaS 1 x72 x75) fun v80 =>
(oW (ldW false 1 h76 v80) fun v81 =>
(oW (iaS 1 x70 x73) fun v82 =>
(oW (ldW false 1 h76 v82) fun v83 =>
(oW (binN .eql v81 v83) fun v84 =>
(oW (binN .add x75 (.int .i64 1)) fun v85 =>
(∃ m68, m68 < k69 ∧ gcL h (I66 m68) [x70, x71, x72, x73, v84, v85] h76))))))))
(oW (iaS 1 x70 x73) fun v86 =>
(oW (ldW false 1 h76 v86) fun v87 =>
(oW (binN .geq v87 (.int .i64 0)) fun v88 =>
(bW v88
(oW (iaS 1 x70 x73) fun v89 =>
(oW (ldW false 1 h76 v89) fun v90 =>
(oW (faW 0 1 x71) fun v91 =>
(oW (ldW false 1 h76 v91) fun v92 =>
(oW (binN .lss v90 v92) fun v93 =>
(oW (neB x74 v93) fun v94 =>
(bW v94
(gcV h Q (.bool false) h76)
(oW (binN .add x73 (.int .i64 1)) fun v95 =>
(∃ m57, m57 < k58 ∧ gcL h (I55 m57) [x70, x71, x72, v95] h76)))))))))
(oW (neB x74 (.bool false)) fun v96 =>
(bW v96
(gcV h Q (.bool false) h76)
(oW (binN .add x73 (.int .i64 1)) fun v97 =>
(∃ m57, m57 < k58 ∧ gcL h (I55 m57) [x70, x71, x72, v97] h76))))))))))))
(oW (ldW true 5 h63 x60) fun v98 =>
(callW Try.prog (fn F_nfa_Close) [v98, x61] h63 fun v99 h100 =>
(callW Try.prog (fn F_homographref04_Same) [v99, x61] h100 fun v101 h102 =>
(gcV h Q v101 h102))))))))))))))))))))))))))
theorem W_homographlaw06_NfaClosed_eq (a0 a1 : Value) (h : Heap) (Q : Value → Heap → Prop) : fW Try.prog ⟨[(20, [1, 6, 8, 10, 11, 12]), (16, [1, 6, 8, 10]), (11, [1, 6, 8, 9])], [(6, [0, 1])]⟩ Try.f5 [a0, a1] h Q = W_homographlaw06_NfaClosed a0 a1 h Q := by kernel_rfl
theorem W_homographlaw06_NfaClosed_ok {a0 a1 : Value} {h : Heap} {Q : Value → Heap → Prop} (e : W_homographlaw06_NfaClosed a0 a1 h Q) : acall Try.prog F_homographlaw06_NfaClosed [a0, a1] h Q :=
  by refine acall_of_fW mixed ⟨[(20, [1, 6, 8, 10, 11, 12]), (16, [1, 6, 8, 10]), (11, [1, 6, 8, 9])], [(6, [0, 1])]⟩ Try.func5 (by kernel_rfl) ?_; rw [W_homographlaw06_NfaClosed_eq]; exact e

/-- homograph/homographlaw06.NfaParts: loops {17: [2, 11, 13, 15, 17, 19, 20]}; joins {15: [2, 11, 13, 15, 17], 6: [0, 1, 2]} -/
def W_homographlaw06_NfaParts (a0 a1 a2 : Value) (h : Heap) (Q : Value → Heap → Prop) : Prop :=
(callW Try.prog (fn F_homographlaw06_awake) [] h fun v1 h2 =>
(oW (unA .not v1) fun v3 =>
(bW v3
(gcV h Q (.bool false) h2)
(∃ M4 : List Value → Heap → Prop,
(oW (lenStr a0) fun v5 =>
(oW (binN .gtr v5 (.int .i64 8)) fun v6 =>
(bW v6
(bW (.bool true)
(gcV h Q (.bool true) h2)
(gcL h M4 [a0, a1, a2] h2))
(oW (lenStr a1) fun v7 =>
(oW (binN .gtr v7 (.int .i64 8)) fun v8 =>
(bW v8
(bW (.bool true)
(gcV h Q (.bool true) h2)
(gcL h M4 [a0, a1, a2] h2))
(oW (lenStr a2) fun v9 =>
(oW (binN .gtr v9 (.int .i64 8)) fun v10 =>
(bW v10
(gcV h Q (.bool true) h2)
(gcL h M4 [a0, a1, a2] h2)))))))))) ∧
∀ x11 : Value, ∀ x12 : Value, ∀ x13 : Value, ∀ h14, M4 [x11, x12, x13] h14 →
(callW Try.prog (fn F_homographref02_Plain) [x11] h14 fun v15 h16 =>
(letH (h16 ++ [.row [(.int .i64 0), (.int .u64 0), (.int .u64 0), (.int .u64 0), (.int .u64 0), (.int .i64 0), (.int .i64 0), (.slice none 0 0)] .exact]) fun h17 =>
(sW (stW 8 h17 (.pointer (some ⟨h16.length, 0, none⟩)) v15) fun h18 =>
(callW Try.prog (fn F_homographref02_Plain) [x12] h18 fun v19 h20 =>
(letH (h20 ++ [.row [(.int .i64 0), (.int .u64 0), (.int .u64 0), (.int .u64 0), (.int .u64 0), (.int .i64 0), (.int .i64 0), (.slice none 0 0)] .exact]) fun h21 =>
(sW (stW 8 h21 (.pointer (some ⟨h20.length, 0, none⟩)) v19) fun h22 =>
(oW (ldW true 8 h22 (.pointer (some ⟨h16.length, 0, none⟩))) fun v23 =>
(oW (ldW true 8 h22 (.pointer (some ⟨h20.length, 0, none⟩))) fun v24 =>
(hW (bslW h22 2 [(.int .i64 0), (.int .u64 0), (.int .u64 0), (.int .u64 0), (.int .u64 0), (.int .i64 0), (.int .i64 0), (.slice none 0 0), (.int .i64 0), (.int .u64 0), (.int .u64 0), (.int .u64 0), (.int .u64 0), (.int .i64 0), (.int .i64 0), (.slice none 0 0)] [(0, 8, v23), (8, 8, v24)]) fun v25 h26 =>
(oW (ldW true 8 h26 (.pointer (some ⟨h16.length, 0, none⟩))) fun v27 =>
(callW Try.prog (fn F_nfa_Build) [v27] h26 fun v28 h29 =>
(oW (extractA v28 0) fun v30 =>
(oW (extractA v28 1) fun v31 =>
(letH (h29 ++ [.row [(.int .i64 0), (.slice none 0 0), (.slice none 0 0), (.int .i64 0), (.int .i64 0)] .exact]) fun h32 =>
(sW (stW 5 h32 (.pointer (some ⟨h29.length, 0, none⟩)) v30) fun h33 =>
(oW (ldW true 8 h33 (.pointer (some ⟨h20.length, 0, none⟩))) fun v34 =>
(callW Try.prog (fn F_nfa_Build) [v34] h33 fun v35 h36 =>
(oW (extractA v35 0) fun v37 =>
(oW (extractA v35 1) fun v38 =>
(letH (h36 ++ [.row [(.int .i64 0), (.slice none 0 0), (.slice none 0 0), (.int .i64 0), (.int .i64 0)] .exact]) fun h39 =>
(sW (stW 5 h39 (.pointer (some ⟨h36.length, 0, none⟩)) v37) fun h40 =>
(callW Try.prog (fn F_homographref02_Many) [(.int .i64 1), v25] h40 fun v41 h42 =>
(callW Try.prog (fn F_nfa_Build) [v41] h42 fun v43 h44 =>
(oW (extractA v43 0) fun v45 =>
(oW (extractA v43 1) fun v46 =>
(letH (h44 ++ [.row [(.int .i64 0), (.slice none 0 0), (.slice none 0 0), (.int .i64 0), (.int .i64 0)] .exact]) fun h47 =>
(sW (stW 5 h47 (.pointer (some ⟨h44.length, 0, none⟩)) v45) fun h48 =>
(callW Try.prog (fn F_homographref02_Many) [(.int .i64 2), v25] h48 fun v49 h50 =>
(callW Try.prog (fn F_nfa_Build) [v49] h50 fun v51 h52 =>
(oW (extractA v51 0) fun v53 =>
(oW (extractA v51 1) fun v54 =>
(letH (h52 ++ [.row [(.int .i64 0), (.slice none 0 0), (.slice none 0 0), (.int .i64 0), (.int .i64 0)] .exact]) fun h55 =>
(sW (stW 5 h55 (.pointer (some ⟨h52.length, 0, none⟩)) v53) fun h56 =>
(∃ M57 : List Value → Heap → Prop,
(oW (binN .neq v31 (.int .i64 0)) fun v58 =>
(bW v58
(bW (.bool true)
(gcV h Q (.bool true) h56)
(gcL h M57 [x13, (.pointer (some ⟨h29.length, 0, none⟩)), (.pointer (some ⟨h36.length, 0, none⟩)), (.pointer (some ⟨h44.length, 0, none⟩)), (.pointer (some ⟨h52.length, 0, none⟩))] h56))
(oW (binN .neq v38 (.int .i64 0)) fun v59 =>
(bW v59
(bW (.bool true)
(gcV h Q (.bool true) h56)
(gcL h M57 [x13, (.pointer (some ⟨h29.length, 0, none⟩)), (.pointer (some ⟨h36.length, 0, none⟩)), (.pointer (some ⟨h44.length, 0, none⟩)), (.pointer (some ⟨h52.length, 0, none⟩))] h56))
(oW (binN .neq v46 (.int .i64 0)) fun v60 =>
(bW v60
(bW (.bool true)
(gcV h Q (.bool true) h56)
(gcL h M57 [x13, (.pointer (some ⟨h29.length, 0, none⟩)), (.pointer (some ⟨h36.length, 0, none⟩)), (.pointer (some ⟨h44.length, 0, none⟩)), (.pointer (some ⟨h52.length, 0, none⟩))] h56))
(oW (binN .neq v54 (.int .i64 0)) fun v61 =>
(bW v61
(gcV h Q (.bool true) h56)
(gcL h M57 [x13, (.pointer (some ⟨h29.length, 0, none⟩)), (.pointer (some ⟨h36.length, 0, none⟩)), (.pointer (some ⟨h44.length, 0, none⟩)), (.pointer (some ⟨h52.length, 0, none⟩))] h56))))))))) ∧
∀ x62 : Value, ∀ x63 : Value, ∀ x64 : Value, ∀ x65 : Value, ∀ x66 : Value, ∀ h67, M57 [x62, x63, x64, x65, x66] h67 →
(∃ (I68 : Nat → List Value → Heap → Prop) (k69 : Nat), gcL h (I68 k69) [x62, x63, x64, x65, x66, (.bool false), (.int .i64 0)] h67 ∧
∀ k71 : Nat, ∀ x72 : Value, ∀ x73 : Value, ∀ x74 : Value, ∀ x75 : Value, ∀ x76 : Value, ∀ x77 : Value, ∀ x78 : Value, ∀ h79, I68 k71 [x72, x73, x74, x75, x76, x77, x78] h79 →
(oW (lenStr x72) fun v80 =>
(oW (binN .leq x78 v80) fun v81 =>
(bW v81
(bW x77
(oW (binN .add x78 (.int .i64 1)) fun v82 =>
(∃ m70, m70 < k71 ∧ gcL h (I68 m70) [x72, x73, x74, x75, x76, (.bool true), v82] h79))
(oW (ldW true 5 h79 x73) fun v83 =>
(oW (slStr x72 none (some x78)) fun v84 =>
(callW Try.prog (fn F_nfa_Whole) [v83, v84] h79 fun v85 h86 =>
(keptW [x72, x73] h79 h86 ∧
(bW v85
(oW (ldW true 5 h86 x74) fun v87 =>
(oW (slStr x72 (some x78) none) fun v88 =>
(callW Try.prog (fn F_nfa_Whole) [v87, v88] h86 fun v89 h90 =>
(keptW [x72, x74, x72, x73] h86 h90 ∧
(oW (binN .add x78 (.int .i64 1)) fun v91 =>
(∃ m70, m70 < k71 ∧ gcL h (I68 m70) [x72, x73, x74, x75, x76, v89, v91] h90))))))
(oW (binN .add x78 (.int .i64 1)) fun v92 =>
(∃ m70, m70 < k71 ∧ gcL h (I68 m70) [x72, x73, x74, x75, x76, (.bool false), v92] h86))))))))
(oW (ldW true 5 h79 x75) fun v93 =>
(callW Try.prog (fn F_nfa_Whole) [v93, x72] h79 fun v94 h95 =>
(keptW [x75] h79 h95 ∧
(oW (eqB v94 x77) fun v96 =>
(bW v96
(oW (ldW true 5 h95 x76) fun v97 =>
(oW (ldW true 5 h95 x73) fun v98 =>
(callW Try.prog (fn F_nfa_Whole) [v97, x72] h95 fun v99 h100 =>
(keptW [x73, x76, x75] h95 h100 ∧
(callW Try.prog (fn F_nfa_Whole) [v98, x72] h100 fun v101 h102 =>
(keptW [x73, x76, x75] h100 h102 ∧
(bW v101
(oW (eqB v99 (.bool true)) fun v103 =>
(gcV h Q v103 h102))
(oW (ldW true 5 h102 x74) fun v104 =>
(callW Try.prog (fn F_nfa_Whole) [v104, x72] h102 fun v105 h106 =>
(keptW [x74, x73, x76, x75] h102 h106 ∧
(oW (eqB v99 v105) fun v107 =>
(gcV h Q v107 h106))))))))))))
(gcV h Q (.bool false) h95))))))))))))))))))))))))))))))))))))))))))))))))
theorem W_homographlaw06_NfaParts_eq (a0 a1 a2 : Value) (h : Heap) (Q : Value → Heap → Prop) : fW Try.prog ⟨[(17, [2, 11, 13, 15, 17, 19, 20])], [(15, [2, 11, 13, 15, 17]), (6, [0, 1, 2])]⟩ Try.f6 [a0, a1, a2] h Q = W_homographlaw06_NfaParts a0 a1 a2 h Q := by kernel_rfl
theorem W_homographlaw06_NfaParts_ok {a0 a1 a2 : Value} {h : Heap} {Q : Value → Heap → Prop} (e : W_homographlaw06_NfaParts a0 a1 a2 h Q) : acall Try.prog F_homographlaw06_NfaParts [a0, a1, a2] h Q :=
  by refine acall_of_fW mixed ⟨[(17, [2, 11, 13, 15, 17, 19, 20])], [(15, [2, 11, 13, 15, 17]), (6, [0, 1, 2])]⟩ Try.func6 (by kernel_rfl) ?_; rw [W_homographlaw06_NfaParts_eq]; exact e

/-- homograph/homographlaw06.awake: loops {}; joins {} -/
def W_homographlaw06_awake (h : Heap) (Q : Value → Heap → Prop) : Prop :=
(oW (bldW [(.int .u64 0), (.int .u64 0), (.int .u64 0), (.int .u64 0)] [(0, 1, (.int .u64 1)), (1, 1, (.int .u64 2)), (2, 1, (.int .u64 3)), (3, 1, (.int .u64 4))]) fun v1 =>
(callW Try.prog (fn F_homographref02_Set) [v1] h fun v2 h3 =>
(callW Try.prog (fn F_nfa_Build) [v2] h3 fun v4 h5 =>
(oW (extractA v4 0) fun v6 =>
(oW (extractA v4 1) fun v7 =>
(letH (h5 ++ [.row [(.int .i64 0), (.slice none 0 0), (.slice none 0 0), (.int .i64 0), (.int .i64 0)] .exact]) fun h8 =>
(sW (stW 5 h8 (.pointer (some ⟨h5.length, 0, none⟩)) v6) fun h9 =>
(callW Try.prog (fn F_homographref02_Lit) [(.string ⟨#[97, 98]⟩)] h9 fun v10 h11 =>
(callW Try.prog (fn F_homographref02_Rep) [v10, (.int .i64 1), (.int .i64 (-1))] h11 fun v12 h13 =>
(callW Try.prog (fn F_nfa_Build) [v12] h13 fun v14 h15 =>
(oW (extractA v14 0) fun v16 =>
(oW (extractA v14 1) fun v17 =>
(letH (h15 ++ [.row [(.int .i64 0), (.slice none 0 0), (.slice none 0 0), (.int .i64 0), (.int .i64 0)] .exact]) fun h18 =>
(sW (stW 5 h18 (.pointer (some ⟨h15.length, 0, none⟩)) v16) fun h19 =>
(oW (bldW [(.int .i64 0), (.int .u64 0), (.int .u64 0), (.int .u64 0), (.int .u64 0), (.int .i64 0), (.int .i64 0), (.slice none 0 0)] []) fun v20 =>
(hW (bslW h19 1 [(.int .i64 0), (.int .u64 0), (.int .u64 0), (.int .u64 0), (.int .u64 0), (.int .i64 0), (.int .i64 0), (.slice none 0 0)] [(0, 8, v20)]) fun v21 h22 =>
(callW Try.prog (fn F_homographref02_Many) [(.int .i64 5), v21] h22 fun v23 h24 =>
(callW Try.prog (fn F_nfa_Build) [v23] h24 fun v25 h26 =>
(oW (extractA v25 0) fun v27 =>
(oW (extractA v25 1) fun v28 =>
(letH (h26 ++ [.row [(.int .i64 0), (.slice none 0 0), (.slice none 0 0), (.int .i64 0), (.int .i64 0)] .exact]) fun h29 =>
(sW (stW 5 h29 (.pointer (some ⟨h26.length, 0, none⟩)) v27) fun h30 =>
(oW (ldW true 5 h30 (.pointer (some ⟨h15.length, 0, none⟩))) fun v31 =>
(oW (faW 3 1 (.pointer (some ⟨h15.length, 0, none⟩))) fun v32 =>
(oW (ldW false 1 h30 v32) fun v33 =>
(hW (bslW h30 1 [(.int .i64 0)] [(0, 1, v33)]) fun v34 h35 =>
(callW Try.prog (fn F_nfa_Close) [v31, v34] h35 fun v36 h37 =>
(oW (binN .eql v7 (.int .i64 0)) fun v38 =>
(bW v38
(oW (faW 0 1 (.pointer (some ⟨h5.length, 0, none⟩))) fun v39 =>
(oW (ldW false 1 h37 v39) fun v40 =>
(oW (binN .eql v40 (.int .i64 2)) fun v41 =>
(bW v41
(oW (faW 2 1 (.pointer (some ⟨h5.length, 0, none⟩))) fun v42 =>
(oW (ldW false 1 h37 v42) fun v43 =>
(oW (lenS v43) fun v44 =>
(oW (binN .eql v44 (.int .i64 1)) fun v45 =>
(bW v45
(oW (faW 4 1 (.pointer (some ⟨h5.length, 0, none⟩))) fun v46 =>
(oW (ldW false 1 h37 v46) fun v47 =>
(oW (binN .eql v47 (.int .i64 1)) fun v48 =>
(bW v48
(oW (faW 1 1 (.pointer (some ⟨h5.length, 0, none⟩))) fun v49 =>
(oW (ldW false 1 h37 v49) fun v50 =>
(oW (lenS v50) fun v51 =>
(oW (binN .eql v51 (.int .i64 0)) fun v52 =>
(bW v52
(oW (binN .eql v17 (.int .i64 0)) fun v53 =>
(bW v53
(oW (ldW true 5 h37 (.pointer (some ⟨h15.length, 0, none⟩))) fun v54 =>
(callW Try.prog (fn F_nfa_Whole) [v54, (.string ⟨#[97, 98, 97, 98]⟩)] h37 fun v55 h56 =>
(bW v55
(oW (ldW true 5 h56 (.pointer (some ⟨h15.length, 0, none⟩))) fun v57 =>
(callW Try.prog (fn F_nfa_Whole) [v57, (.string ⟨#[97, 98, 97]⟩)] h56 fun v58 h59 =>
(oW (unA .not v58) fun v60 =>
(bW v60
(oW (binN .eql v28 (.int .i64 1)) fun v61 =>
(bW v61
(oW (lenS v36) fun v62 =>
(oW (binN .gtr v62 (.int .i64 2)) fun v63 =>
(bW v63
(oW (ldW true 5 h59 (.pointer (some ⟨h15.length, 0, none⟩))) fun v64 =>
(callW Try.prog (fn F_nfa_Step) [v64, v36, (.int .u8 97)] h59 fun v65 h66 =>
(oW (lenS v65) fun v67 =>
(oW (binN .gtr v67 (.int .i64 1)) fun v68 =>
(gcV h Q v68 h66)))))
(gcV h Q (.bool false) h59))))
(gcV h Q (.bool false) h59)))
(gcV h Q (.bool false) h59)))))
(gcV h Q (.bool false) h56))))
(gcV h Q (.bool false) h37)))
(gcV h Q (.bool false) h37))))))
(gcV h Q (.bool false) h37)))))
(gcV h Q (.bool false) h37))))))
(gcV h Q (.bool false) h37)))))
(gcV h Q (.bool false) h37))))))))))))))))))))))))))))))
theorem W_homographlaw06_awake_eq (h : Heap) (Q : Value → Heap → Prop) : fW Try.prog ⟨[], []⟩ Try.f12 [] h Q = W_homographlaw06_awake  h Q := by kernel_rfl
theorem W_homographlaw06_awake_ok {h : Heap} {Q : Value → Heap → Prop} (e : W_homographlaw06_awake  h Q) : acall Try.prog F_homographlaw06_awake [] h Q :=
  by refine acall_of_fW mixed ⟨[], []⟩ Try.func12 (by kernel_rfl) ?_; rw [W_homographlaw06_awake_eq]; exact e

/-- homograph/nfa.Build: loops {}; joins {} -/
def W_nfa_Build (a0 : Value) (h : Heap) (Q : Value → Heap → Prop) : Prop :=
(hW (boxA h a0) fun v1 h2 =>
(letH (h2 ++ [.row [(.int .i64 0), (.slice none 0 0), (.slice none 0 0), (.int .i64 0), (.int .i64 0)] .exact]) fun h3 =>
(oW (ldW true 8 h3 v1) fun v4 =>
(callW Try.prog (fn F_regex_Check) [v4] h3 fun v5 h6 =>
(oW (binN .neq v5 (.int .i64 0)) fun v7 =>
(bW v7
(bW (.bool true)
(oW (bldW [(.int .i64 0), (.slice none 0 0), (.slice none 0 0), (.int .i64 0), (.int .i64 0)] []) fun v8 =>
(sW (stW 5 h6 (.pointer (some ⟨h2.length, 0, none⟩)) v8) fun h9 =>
(oW (ldP true 5 h9 (.pointer (some ⟨h2.length, 0, none⟩))) fun v10 =>
(gcV h Q (.tuple #[v10, (.int .i64 1)]) h9))))
(oW (bldW [(.int .i64 0), (.slice none 0 0), (.slice none 0 0), (.int .i64 0), (.int .i64 0), (.bool false)] []) fun v11 =>
(hW (boxA h6 v11) fun v12 h13 =>
(oW (ldW true 8 h13 v1) fun v14 =>
(callW Try.prog (fn F_nfa_builder_piece) [v12, v14] h13 fun v15 h16 =>
(oW (extractA v15 0) fun v17 =>
(oW (extractA v15 1) fun v18 =>
(oW (nilCheckA v12) fun v19 =>
(oW (faW 0 5 v19) fun v20 =>
(oW (faW 3 1 v20) fun v21 =>
(sW (stW 1 h16 v21 v17) fun h22 =>
(oW (nilCheckA v12) fun v23 =>
(oW (faW 0 5 v23) fun v24 =>
(oW (faW 4 1 v24) fun v25 =>
(sW (stW 1 h22 v25 v18) fun h26 =>
(oW (nilCheckA v12) fun v27 =>
(oW (faW 5 1 v27) fun v28 =>
(oW (ldW false 1 h26 v28) fun v29 =>
(bW v29
(oW (bldW [(.int .i64 0), (.slice none 0 0), (.slice none 0 0), (.int .i64 0), (.int .i64 0)] []) fun v30 =>
(sW (stW 5 h26 (.pointer (some ⟨h2.length, 0, none⟩)) v30) fun h31 =>
(oW (ldP true 5 h31 (.pointer (some ⟨h2.length, 0, none⟩))) fun v32 =>
(gcV h Q (.tuple #[v32, (.int .i64 70)]) h31))))
(oW (nilCheckA v12) fun v33 =>
(oW (faW 0 5 v33) fun v34 =>
(oW (ldW true 5 h26 v34) fun v35 =>
(sW (stW 5 h26 (.pointer (some ⟨h2.length, 0, none⟩)) v35) fun h36 =>
(oW (ldP true 5 h36 (.pointer (some ⟨h2.length, 0, none⟩))) fun v37 =>
(gcV h Q (.tuple #[v37, (.int .i64 0)]) h36)))))))))))))))))))))))))
(oW (ldW true 8 h6 v1) fun v38 =>
(callW Try.prog (fn F_nfa_plain) [v38] h6 fun v39 h40 =>
(oW (unA .not v39) fun v41 =>
(bW v41
(oW (bldW [(.int .i64 0), (.slice none 0 0), (.slice none 0 0), (.int .i64 0), (.int .i64 0)] []) fun v42 =>
(sW (stW 5 h40 (.pointer (some ⟨h2.length, 0, none⟩)) v42) fun h43 =>
(oW (ldP true 5 h43 (.pointer (some ⟨h2.length, 0, none⟩))) fun v44 =>
(gcV h Q (.tuple #[v44, (.int .i64 1)]) h43))))
(oW (bldW [(.int .i64 0), (.slice none 0 0), (.slice none 0 0), (.int .i64 0), (.int .i64 0), (.bool false)] []) fun v45 =>
(hW (boxA h40 v45) fun v46 h47 =>
(oW (ldW true 8 h47 v1) fun v48 =>
(callW Try.prog (fn F_nfa_builder_piece) [v46, v48] h47 fun v49 h50 =>
(oW (extractA v49 0) fun v51 =>
(oW (extractA v49 1) fun v52 =>
(oW (nilCheckA v46) fun v53 =>
(oW (faW 0 5 v53) fun v54 =>
(oW (faW 3 1 v54) fun v55 =>
(sW (stW 1 h50 v55 v51) fun h56 =>
(oW (nilCheckA v46) fun v57 =>
(oW (faW 0 5 v57) fun v58 =>
(oW (faW 4 1 v58) fun v59 =>
(sW (stW 1 h56 v59 v52) fun h60 =>
(oW (nilCheckA v46) fun v61 =>
(oW (faW 5 1 v61) fun v62 =>
(oW (ldW false 1 h60 v62) fun v63 =>
(bW v63
(oW (bldW [(.int .i64 0), (.slice none 0 0), (.slice none 0 0), (.int .i64 0), (.int .i64 0)] []) fun v64 =>
(sW (stW 5 h60 (.pointer (some ⟨h2.length, 0, none⟩)) v64) fun h65 =>
(oW (ldP true 5 h65 (.pointer (some ⟨h2.length, 0, none⟩))) fun v66 =>
(gcV h Q (.tuple #[v66, (.int .i64 70)]) h65))))
(oW (nilCheckA v46) fun v67 =>
(oW (faW 0 5 v67) fun v68 =>
(oW (ldW true 5 h60 v68) fun v69 =>
(sW (stW 5 h60 (.pointer (some ⟨h2.length, 0, none⟩)) v69) fun h70 =>
(oW (ldP true 5 h70 (.pointer (some ⟨h2.length, 0, none⟩))) fun v71 =>
(gcV h Q (.tuple #[v71, (.int .i64 0)]) h70))))))))))))))))))))))))))))))))))
theorem W_nfa_Build_eq (a0 : Value) (h : Heap) (Q : Value → Heap → Prop) : fW Try.prog ⟨[], []⟩ Try.f13 [a0] h Q = W_nfa_Build a0 h Q := by kernel_rfl
theorem W_nfa_Build_ok {a0 : Value} {h : Heap} {Q : Value → Heap → Prop} (e : W_nfa_Build a0 h Q) : acall Try.prog F_nfa_Build [a0] h Q :=
  by refine acall_of_fW mixed ⟨[], []⟩ Try.func13 (by kernel_rfl) ?_; rw [W_nfa_Build_eq]; exact e

/-- homograph/homographref02.Plain: loops {3: [0, 2, 3, 4]}; joins {} -/
def W_homographref02_Plain (a0 : Value) (h : Heap) (Q : Value → Heap → Prop) : Prop :=
(letH (h ++ [.row [(.int .i64 0), (.int .u64 0), (.int .u64 0), (.int .u64 0), (.int .u64 0), (.int .i64 0), (.int .i64 0), (.slice none 0 0)] .exact]) fun h1 =>
(∃ (I2 : Nat → List Value → Heap → Prop) (k3 : Nat), gcL h (I2 k3) [a0, (.pointer (some ⟨h.length, 0, none⟩)), (.slice none 0 0), (.int .i64 0)] h1 ∧
∀ k5 : Nat, ∀ x6 : Value, ∀ x7 : Value, ∀ x8 : Value, ∀ x9 : Value, ∀ h10, I2 k5 [x6, x7, x8, x9] h10 →
(oW (lenStr x6) fun v11 =>
(oW (binN .lss x9 v11) fun v12 =>
(bW v12
(oW (ixS x6 x9) fun v13 =>
(oW (binN .rem v13 (.int .u8 8)) fun v14 =>
(oW (binN .lss v14 (.int .u8 6)) fun v15 =>
(bW v15
(oW (ixS x6 x9) fun v16 =>
(hW (bslW h10 1 [(.int .u8 0)] [(0, 1, v16)]) fun v17 h18 =>
(hW (apW 1 1 h18 x8 v17) fun v19 h20 =>
(oW (binN .add x9 (.int .i64 1)) fun v21 =>
(∃ m4, m4 < k5 ∧ gcL h (I2 m4) [x6, x7, v19, v21] h20)))))
(oW (binN .add x9 (.int .i64 1)) fun v22 =>
(∃ m4, m4 < k5 ∧ gcL h (I2 m4) [x6, x7, x8, v22] h10))))))
(oW (cvBS h10 x8) fun v23 =>
(callW Try.prog (fn F_homographref02_Make) [v23] h10 fun v24 h25 =>
(sW (stW 8 h25 x7 v24) fun h26 =>
(oW (ldP true 8 h26 x7) fun v27 =>
(gcV h Q v27 h26))))))))))
theorem W_homographref02_Plain_eq (a0 : Value) (h : Heap) (Q : Value → Heap → Prop) : fW Try.prog ⟨[(3, [0, 2, 3, 4])], []⟩ Try.f14 [a0] h Q = W_homographref02_Plain a0 h Q := by kernel_rfl
theorem W_homographref02_Plain_ok {a0 : Value} {h : Heap} {Q : Value → Heap → Prop} (e : W_homographref02_Plain a0 h Q) : acall Try.prog F_homographref02_Plain [a0] h Q :=
  by refine acall_of_fW mixed ⟨[(3, [0, 2, 3, 4])], []⟩ Try.func14 (by kernel_rfl) ?_; rw [W_homographref02_Plain_eq]; exact e

/-- homograph/homographref04.Same: loops {4: [0, 1, 5]}; joins {} -/
def W_homographref04_Same (a0 a1 : Value) (h : Heap) (Q : Value → Heap → Prop) : Prop :=
(oW (lenS a0) fun v1 =>
(oW (lenS a1) fun v2 =>
(oW (binN .neq v1 v2) fun v3 =>
(bW v3
(gcV h Q (.bool false) h)
(∃ (I4 : Nat → List Value → Heap → Prop) (k5 : Nat), gcL h (I4 k5) [a0, a1, (.int .i64 0)] h ∧
∀ k7 : Nat, ∀ x8 : Value, ∀ x9 : Value, ∀ x10 : Value, ∀ h11, I4 k7 [x8, x9, x10] h11 →
(oW (lenS x8) fun v12 =>
(oW (binN .lss x10 v12) fun v13 =>
(bW v13
(oW (iaS 1 x8 x10) fun v14 =>
(oW (ldW false 1 h11 v14) fun v15 =>
(oW (iaS 1 x9 x10) fun v16 =>
(oW (ldW false 1 h11 v16) fun v17 =>
(oW (binN .neq v15 v17) fun v18 =>
(bW v18
(gcV h Q (.bool false) h11)
(oW (binN .add x10 (.int .i64 1)) fun v19 =>
(∃ m6, m6 < k7 ∧ gcL h (I4 m6) [x8, x9, v19] h11))))))))
(gcV h Q (.bool true) h11)))))))))
theorem W_homographref04_Same_eq (a0 a1 : Value) (h : Heap) (Q : Value → Heap → Prop) : fW Try.prog ⟨[(4, [0, 1, 5])], []⟩ Try.f15 [a0, a1] h Q = W_homographref04_Same a0 a1 h Q := by kernel_rfl
theorem W_homographref04_Same_ok {a0 a1 : Value} {h : Heap} {Q : Value → Heap → Prop} (e : W_homographref04_Same a0 a1 h Q) : acall Try.prog F_homographref04_Same [a0, a1] h Q :=
  by refine acall_of_fW mixed ⟨[(4, [0, 1, 5])], []⟩ Try.func15 (by kernel_rfl) ?_; rw [W_homographref04_Same_eq]; exact e

/-- homograph/nfa.Close: loops {9: [5, 8, 9], 3: [1, 2, 5, 13, 14, 15]}; joins {} -/
def W_nfa_Close (a0 a1 : Value) (h : Heap) (Q : Value → Heap → Prop) : Prop :=
(hW (boxA h a0) fun v1 h2 =>
(letH (h2 ++ [.map []]) fun h3 =>
(oW (faW 1 1 v1) fun v4 =>
(oW (ldW false 1 h3 v4) fun v5 =>
(oW (lenS v5) fun v6 =>
(∃ (I7 : Nat → List Value → Heap → Prop) (k8 : Nat), gcL h (I7 k8) [a1, v1, (.map (some h2.length)), v5, v6, (.int .i64 0)] h3 ∧
∀ k10 : Nat, ∀ x11 : Value, ∀ x12 : Value, ∀ x13 : Value, ∀ x14 : Value, ∀ x15 : Value, ∀ x16 : Value, ∀ h17, I7 k10 [x11, x12, x13, x14, x15, x16] h17 →
(oW (binN .lss x16 x15) fun v18 =>
(bW v18
(oW (iaS 2 x14 x16) fun v19 =>
(oW (ldW true 2 h17 v19) fun v20 =>
(letH (h17 ++ [.row [(.int .i64 0), (.int .i64 0)] .exact]) fun h21 =>
(sW (stW 2 h21 (.pointer (some ⟨h17.length, 0, none⟩)) v20) fun h22 =>
(oW (iaA 2 1 (.pointer (some ⟨h17.length, 0, none⟩)) (.int .i64 0)) fun v23 =>
(oW (ldW false 1 h22 v23) fun v24 =>
(oW (iaA 2 1 (.pointer (some ⟨h17.length, 0, none⟩)) (.int .i64 0)) fun v25 =>
(oW (ldW false 1 h22 v25) fun v26 =>
(oW (lkS (.int .i64) (.slice none 0 0) false h22 x13 v26) fun v27 =>
(oW (iaA 2 1 (.pointer (some ⟨h17.length, 0, none⟩)) (.int .i64 1)) fun v28 =>
(oW (ldW false 1 h22 v28) fun v29 =>
(hW (bslW h22 1 [(.int .i64 0)] [(0, 1, v29)]) fun v30 h31 =>
(keptW [v28, x13, v25, v23] h22 h31 ∧
(hW (apW 1 8 h31 v27 v30) fun v32 h33 =>
(keptW [v28, v25, v23] h31 h33 ∧
(sW (upS (.int .i64) h33 x13 v24 v32) fun h34 =>
(oW (binN .add x16 (.int .i64 1)) fun v35 =>
(∃ m9, m9 < k10 ∧ gcL h (I7 m9) [x11, x12, x13, x14, x15, v35] h34))))))))))))))))))
(letH (h17 ++ [.map []]) fun h36 =>
(callW Try.prog (fn F_slices_Clone_int_int) [x11] h36 fun v37 h38 =>
(callW Try.prog (fn F_slices_DeleteFunc_int_int) [v37, (.func (.func F_nfa_Close_D1) #[] #[x12])] h38 fun v39 h40 =>
(∃ (I41 : Nat → List Value → Heap → Prop) (k42 : Nat), gcL h (I41 k42) [x13, (.map (some h17.length)), v39] h40 ∧
∀ k44 : Nat, ∀ x45 : Value, ∀ x46 : Value, ∀ x47 : Value, ∀ h48, I41 k44 [x45, x46, x47] h48 →
(oW (lenS x47) fun v49 =>
(oW (binN .gtr v49 (.int .i64 0)) fun v50 =>
(bW v50
(oW (lenS x47) fun v51 =>
(oW (binN .sub v51 (.int .i64 1)) fun v52 =>
(oW (iaS 1 x47 v52) fun v53 =>
(oW (ldW false 1 h48 v53) fun v54 =>
(oW (lenS x47) fun v55 =>
(oW (binN .sub v55 (.int .i64 1)) fun v56 =>
(oW (slS 1 h48 x47 none (some v56) none) fun v57 =>
(oW (lkS (.int .i64) (.bool false) false h48 x46 v54) fun v58 =>
(oW (unA .not v58) fun v59 =>
(bW v59
(sW (upS (.int .i64) h48 x46 v54 (.bool true)) fun h60 =>
(oW (lkS (.int .i64) (.slice none 0 0) false h60 x45 v54) fun v61 =>
(hW (apW 1 8 h60 v57 v61) fun v62 h63 =>
(∃ m43, m43 < k44 ∧ gcL h (I41 m43) [x45, x46, v62] h63))))
(∃ m43, m43 < k44 ∧ gcL h (I41 m43) [x45, x46, v57] h48)))))))))))
(callW Try.prog (fn F_maps_Keys_map_int_bool_int_bool) [x46] h48 fun v64 h65 =>
(callW Try.prog (fn F_slices_Sorted_int) [v64] h65 fun v66 h67 =>
(gcV h Q v66 h67))))))))))))))))))
theorem W_nfa_Close_eq (a0 a1 : Value) (h : Heap) (Q : Value → Heap → Prop) : fW Try.prog ⟨[(9, [5, 8, 9]), (3, [1, 2, 5, 13, 14, 15])], []⟩ Try.f16 [a0, a1] h Q = W_nfa_Close a0 a1 h Q := by kernel_rfl
theorem W_nfa_Close_ok {a0 a1 : Value} {h : Heap} {Q : Value → Heap → Prop} (e : W_nfa_Close a0 a1 h Q) : acall Try.prog F_nfa_Close [a0, a1] h Q :=
  by refine acall_of_fW mixed ⟨[(9, [5, 8, 9]), (3, [1, 2, 5, 13, 14, 15])], []⟩ Try.func16 (by kernel_rfl) ?_; rw [W_nfa_Close_eq]; exact e

/-- homograph/homographref06.Close: loops {11: [2, 5, 7, 8], 8: [2, 5, 7], 3: [1, 2, 5, 6]}; joins {} -/
def W_homographref06_Close (a0 a1 : Value) (h : Heap) (Q : Value → Heap → Prop) : Prop :=
(hW (boxA h a0) fun v1 h2 =>
(oW (faW 0 1 v1) fun v3 =>
(oW (ldW false 1 h2 v3) fun v4 =>
(oW (minmaxA true [v4, (.int .i64 0)]) fun v5 =>
(hW (mksW [(.bool false)] 1 h2 v5 v5) fun v6 h7 =>
(∃ (I8 : Nat → List Value → Heap → Prop) (k9 : Nat), gcL h (I8 k9) [a1, v1, v6, (.int .i64 0)] h7 ∧
∀ k11 : Nat, ∀ x12 : Value, ∀ x13 : Value, ∀ x14 : Value, ∀ x15 : Value, ∀ h16, I8 k11 [x12, x13, x14, x15] h16 →
(oW (lenS x12) fun v17 =>
(oW (binN .lss x15 v17) fun v18 =>
(bW v18
(oW (iaS 1 x12 x15) fun v19 =>
(oW (ldW false 1 h16 v19) fun v20 =>
(oW (binN .geq v20 (.int .i64 0)) fun v21 =>
(bW v21
(oW (iaS 1 x12 x15) fun v22 =>
(oW (ldW false 1 h16 v22) fun v23 =>
(oW (lenS x14) fun v24 =>
(oW (binN .lss v23 v24) fun v25 =>
(bW v25
(oW (iaS 1 x12 x15) fun v26 =>
(oW (ldW false 1 h16 v26) fun v27 =>
(oW (iaS 1 x14 v27) fun v28 =>
(sW (stW 1 h16 v28 (.bool true)) fun h29 =>
(oW (binN .add x15 (.int .i64 1)) fun v30 =>
(∃ m10, m10 < k11 ∧ gcL h (I8 m10) [x12, x13, x14, v30] h29))))))
(oW (binN .add x15 (.int .i64 1)) fun v31 =>
(∃ m10, m10 < k11 ∧ gcL h (I8 m10) [x12, x13, x14, v31] h16)))))))
(bW (.bool false)
(oW (iaS 1 x12 x15) fun v32 =>
(oW (ldW false 1 h16 v32) fun v33 =>
(oW (iaS 1 x14 v33) fun v34 =>
(sW (stW 1 h16 v34 (.bool true)) fun h35 =>
(oW (binN .add x15 (.int .i64 1)) fun v36 =>
(∃ m10, m10 < k11 ∧ gcL h (I8 m10) [x12, x13, x14, v36] h35))))))
(oW (binN .add x15 (.int .i64 1)) fun v37 =>
(∃ m10, m10 < k11 ∧ gcL h (I8 m10) [x12, x13, x14, v37] h16)))))))
(∃ (I38 : Nat → List Value → Heap → Prop) (k39 : Nat), gcL h (I38 k39) [x13, x14, (.bool true)] h16 ∧
∀ k41 : Nat, ∀ x42 : Value, ∀ x43 : Value, ∀ x44 : Value, ∀ h45, I38 k41 [x42, x43, x44] h45 →
(bW x44
(∃ (I46 : Nat → List Value → Heap → Prop) (k47 : Nat), gcL h (I46 k47) [x42, x43, (.bool false), (.int .i64 0)] h45 ∧
∀ k49 : Nat, ∀ x50 : Value, ∀ x51 : Value, ∀ x52 : Value, ∀ x53 : Value, ∀ h54, I46 k49 [x50, x51, x52, x53] h54 →
(oW (faW 1 1 x50) fun v55 =>
(oW (ldW false 1 h54 v55) fun v56 =>
(oW (lenS v56) fun v57 =>
(oW (binN .lss x53 v57) fun v58 =>
(bW v58
(oW (faW 1 1 x50) fun v59 =>
(oW (ldW false 1 h54 v59) fun v60 =>
(oW (iaS 2 v60 x53) fun v61 =>
(oW (iaA 2 1 v61 (.int .i64 0)) fun v62 =>
(oW (ldW false 1 h54 v62) fun v63 =>
(oW (faW 1 1 x50) fun v64 =>
(oW (ldW false 1 h54 v64) fun v65 =>
(oW (iaS 2 v65 x53) fun v66 =>
(oW (iaA 2 1 v66 (.int .i64 1)) fun v67 =>
(oW (ldW false 1 h54 v67) fun v68 =>
(oW (iaS 1 x51 v63) fun v69 =>
(oW (ldW false 1 h54 v69) fun v70 =>
(bW v70
(oW (iaS 1 x51 v68) fun v71 =>
(oW (ldW false 1 h54 v71) fun v72 =>
(oW (unA .not v72) fun v73 =>
(bW v73
(oW (iaS 1 x51 v68) fun v74 =>
(sW (stW 1 h54 v74 (.bool true)) fun h75 =>
(oW (binN .add x53 (.int .i64 1)) fun v76 =>
(∃ m48, m48 < k49 ∧ gcL h (I46 m48) [x50, x51, (.bool true), v76] h75))))
(oW (binN .add x53 (.int .i64 1)) fun v77 =>
(∃ m48, m48 < k49 ∧ gcL h (I46 m48) [x50, x51, x52, v77] h54))))))
(bW (.bool false)
(oW (iaS 1 x51 v68) fun v78 =>
(sW (stW 1 h54 v78 (.bool true)) fun h79 =>
(oW (binN .add x53 (.int .i64 1)) fun v80 =>
(∃ m48, m48 < k49 ∧ gcL h (I46 m48) [x50, x51, (.bool true), v80] h79))))
(oW (binN .add x53 (.int .i64 1)) fun v81 =>
(∃ m48, m48 < k49 ∧ gcL h (I46 m48) [x50, x51, x52, v81] h54))))))))))))))))
(∃ m40, m40 < k41 ∧ gcL h (I38 m40) [x50, x51, x52] h54)))))))
(callW Try.prog (fn F_homographref06_rising) [x43] h45 fun v82 h83 =>
(gcV h Q v82 h83)))))))))))))
theorem W_homographref06_Close_eq (a0 a1 : Value) (h : Heap) (Q : Value → Heap → Prop) : fW Try.prog ⟨[(11, [2, 5, 7, 8]), (8, [2, 5, 7]), (3, [1, 2, 5, 6])], []⟩ Try.f17 [a0, a1] h Q = W_homographref06_Close a0 a1 h Q := by kernel_rfl
theorem W_homographref06_Close_ok {a0 a1 : Value} {h : Heap} {Q : Value → Heap → Prop} (e : W_homographref06_Close a0 a1 h Q) : acall Try.prog F_homographref06_Close [a0, a1] h Q :=
  by refine acall_of_fW mixed ⟨[(11, [2, 5, 7, 8]), (8, [2, 5, 7]), (3, [1, 2, 5, 6])], []⟩ Try.func17 (by kernel_rfl) ?_; rw [W_homographref06_Close_eq]; exact e

/-- homograph/homographlaw06.plain: loops {3: [1, 2, 3, 4]}; joins {} -/
def W_homographlaw06_plain (a0 : Value) (h : Heap) (Q : Value → Heap → Prop) : Prop :=
(hW (boxA h a0) fun v1 h2 =>
(letH (h2 ++ [.row [(.int .i64 0), (.slice none 0 0), (.slice none 0 0), (.int .i64 0), (.int .i64 0)] .exact]) fun h3 =>
(oW (faW 0 1 v1) fun v4 =>
(oW (ldW false 1 h3 v4) fun v5 =>
(oW (faW 1 1 v1) fun v6 =>
(oW (ldW false 1 h3 v6) fun v7 =>
(oW (faW 3 1 v1) fun v8 =>
(oW (ldW false 1 h3 v8) fun v9 =>
(oW (faW 4 1 v1) fun v10 =>
(oW (ldW false 1 h3 v10) fun v11 =>
(oW (bldW [(.int .i64 0), (.slice none 0 0), (.slice none 0 0), (.int .i64 0), (.int .i64 0)] [(0, 1, v5), (1, 1, v7), (3, 1, v9), (4, 1, v11)]) fun v12 =>
(letH (h3 ++ [.row [(.int .i64 0), (.slice none 0 0), (.slice none 0 0), (.int .i64 0), (.int .i64 0)] .exact]) fun h13 =>
(sW (stW 5 h13 (.pointer (some ⟨h3.length, 0, none⟩)) v12) fun h14 =>
(∃ (I15 : Nat → List Value → Heap → Prop) (k16 : Nat), gcL h (I15 k16) [v1, (.pointer (some ⟨h2.length, 0, none⟩)), (.pointer (some ⟨h3.length, 0, none⟩)), (.int .i64 0)] h14 ∧
∀ k18 : Nat, ∀ x19 : Value, ∀ x20 : Value, ∀ x21 : Value, ∀ x22 : Value, ∀ h23, I15 k18 [x19, x20, x21, x22] h23 →
(oW (faW 2 1 x19) fun v24 =>
(oW (ldW false 1 h23 v24) fun v25 =>
(oW (lenS v25) fun v26 =>
(oW (binN .lss x22 v26) fun v27 =>
(bW v27
(oW (faW 2 1 x21) fun v28 =>
(oW (ldW false 1 h23 v28) fun v29 =>
(oW (faW 2 1 x19) fun v30 =>
(oW (ldW false 1 h23 v30) fun v31 =>
(oW (iaS 6 v31 x22) fun v32 =>
(oW (faW 0 1 v32) fun v33 =>
(oW (ldW false 1 h23 v33) fun v34 =>
(oW (faW 2 1 x19) fun v35 =>
(oW (ldW false 1 h23 v35) fun v36 =>
(oW (iaS 6 v36 x22) fun v37 =>
(oW (faW 1 1 v37) fun v38 =>
(oW (ldW false 1 h23 v38) fun v39 =>
(oW (faW 2 1 x19) fun v40 =>
(oW (ldW false 1 h23 v40) fun v41 =>
(oW (iaS 6 v41 x22) fun v42 =>
(oW (faW 2 4 v42) fun v43 =>
(oW (ldW true 4 h23 v43) fun v44 =>
(oW (bldW [(.int .i64 0), (.int .i64 0), (.int .u64 0), (.int .u64 0), (.int .u64 0), (.int .u64 0)] [(0, 1, v34), (1, 1, v39), (2, 4, v44)]) fun v45 =>
(hW (bslW h23 1 [(.int .i64 0), (.int .i64 0), (.int .u64 0), (.int .u64 0), (.int .u64 0), (.int .u64 0)] [(0, 6, v45)]) fun v46 h47 =>
(keptW [v43, v40, v38, v35, v33, v30, v28] h23 h47 ∧
(hW (apW 6 48 h47 v29 v46) fun v48 h49 =>
(keptW [v43, v40, v38, v35, v33, v30] h47 h49 ∧
(oW (faW 2 1 x21) fun v50 =>
(sW (stW 1 h49 v50 v48) fun h51 =>
(oW (binN .add x22 (.int .i64 1)) fun v52 =>
(∃ m17, m17 < k18 ∧ gcL h (I15 m17) [x19, x20, x21, v52] h51))))))))))))))))))))))))))
(oW (ldW true 5 h23 x21) fun v53 =>
(sW (stW 5 h23 x20 v53) fun h54 =>
(oW (ldP true 5 h54 x20) fun v55 =>
(gcV h Q v55 h54)))))))))))))))))))))))
theorem W_homographlaw06_plain_eq (a0 : Value) (h : Heap) (Q : Value → Heap → Prop) : fW Try.prog ⟨[(3, [1, 2, 3, 4])], []⟩ Try.f18 [a0] h Q = W_homographlaw06_plain a0 h Q := by kernel_rfl
theorem W_homographlaw06_plain_ok {a0 : Value} {h : Heap} {Q : Value → Heap → Prop} (e : W_homographlaw06_plain a0 h Q) : acall Try.prog F_homographlaw06_plain [a0] h Q :=
  by refine acall_of_fW mixed ⟨[(3, [1, 2, 3, 4])], []⟩ Try.func18 (by kernel_rfl) ?_; rw [W_homographlaw06_plain_eq]; exact e

/-- homograph/nfa.Step: loops {9: [2, 3, 7, 10, 24, 25, 26], 3: [2, 3, 7, 14, 15, 16]}; joins {} -/
def W_nfa_Step (a0 a1 a2 : Value) (h : Heap) (Q : Value → Heap → Prop) : Prop :=
(hW (boxA h a0) fun v1 h2 =>
(letH (h2 ++ [.map []]) fun h3 =>
(oW (lenS a1) fun v4 =>
(∃ (I5 : Nat → List Value → Heap → Prop) (k6 : Nat), gcL h (I5 k6) [a2, v1, (.map (some h2.length)), a1, v4, (.int .i64 0)] h3 ∧
∀ k8 : Nat, ∀ x9 : Value, ∀ x10 : Value, ∀ x11 : Value, ∀ x12 : Value, ∀ x13 : Value, ∀ x14 : Value, ∀ h15, I5 k8 [x9, x10, x11, x12, x13, x14] h15 →
(oW (binN .lss x14 x13) fun v16 =>
(bW v16
(oW (iaS 1 x12 x14) fun v17 =>
(oW (ldW false 1 h15 v17) fun v18 =>
(sW (upS (.int .i64) h15 x11 v18 (.bool true)) fun h19 =>
(oW (binN .add x14 (.int .i64 1)) fun v20 =>
(∃ m7, m7 < k8 ∧ gcL h (I5 m7) [x9, x10, x11, x12, x13, v20] h19)))))
(oW (faW 2 1 x10) fun v21 =>
(oW (ldW false 1 h15 v21) fun v22 =>
(oW (lenS v22) fun v23 =>
(∃ (I24 : Nat → List Value → Heap → Prop) (k25 : Nat), gcL h (I24 k25) [x9, x10, x11, (.slice none 0 0), v22, v23, (.int .i64 0)] h15 ∧
∀ k27 : Nat, ∀ x28 : Value, ∀ x29 : Value, ∀ x30 : Value, ∀ x31 : Value, ∀ x32 : Value, ∀ x33 : Value, ∀ x34 : Value, ∀ h35, I24 k27 [x28, x29, x30, x31, x32, x33, x34] h35 →
(oW (binN .lss x34 x33) fun v36 =>
(bW v36
(oW (iaS 6 x32 x34) fun v37 =>
(oW (ldW true 6 h35 v37) fun v38 =>
(letH (h35 ++ [.row [(.int .i64 0), (.int .i64 0), (.int .u64 0), (.int .u64 0), (.int .u64 0), (.int .u64 0)] .exact]) fun h39 =>
(sW (stW 6 h39 (.pointer (some ⟨h35.length, 0, none⟩)) v38) fun h40 =>
(oW (faW 0 1 (.pointer (some ⟨h35.length, 0, none⟩))) fun v41 =>
(oW (ldW false 1 h40 v41) fun v42 =>
(oW (lkS (.int .i64) (.bool false) false h40 x30 v42) fun v43 =>
(bW v43
(oW (faW 2 4 (.pointer (some ⟨h35.length, 0, none⟩))) fun v44 =>
(oW (ldW true 4 h40 v44) fun v45 =>
(callW Try.prog (fn F_byteset_Has) [v45, x28] h40 fun v46 h47 =>
(bW v46
(oW (faW 1 1 (.pointer (some ⟨h35.length, 0, none⟩))) fun v48 =>
(oW (ldW false 1 h47 v48) fun v49 =>
(hW (bslW h47 1 [(.int .i64 0)] [(0, 1, v49)]) fun v50 h51 =>
(hW (apW 1 8 h51 x31 v50) fun v52 h53 =>
(oW (binN .add x34 (.int .i64 1)) fun v54 =>
(∃ m26, m26 < k27 ∧ gcL h (I24 m26) [x28, x29, x30, v52, x32, x33, v54] h53))))))
(oW (binN .add x34 (.int .i64 1)) fun v55 =>
(∃ m26, m26 < k27 ∧ gcL h (I24 m26) [x28, x29, x30, x31, x32, x33, v55] h47))))))
(bW (.bool false)
(oW (faW 1 1 (.pointer (some ⟨h35.length, 0, none⟩))) fun v56 =>
(oW (ldW false 1 h40 v56) fun v57 =>
(hW (bslW h40 1 [(.int .i64 0)] [(0, 1, v57)]) fun v58 h59 =>
(hW (apW 1 8 h59 x31 v58) fun v60 h61 =>
(oW (binN .add x34 (.int .i64 1)) fun v62 =>
(∃ m26, m26 < k27 ∧ gcL h (I24 m26) [x28, x29, x30, v60, x32, x33, v62] h61))))))
(oW (binN .add x34 (.int .i64 1)) fun v63 =>
(∃ m26, m26 < k27 ∧ gcL h (I24 m26) [x28, x29, x30, x31, x32, x33, v63] h40)))))))))))
(oW (ldW true 5 h35 x29) fun v64 =>
(callW Try.prog (fn F_nfa_Close) [v64, x31] h35 fun v65 h66 =>
(gcV h Q v65 h66)))))))))))))))
theorem W_nfa_Step_eq (a0 a1 a2 : Value) (h : Heap) (Q : Value → Heap → Prop) : fW Try.prog ⟨[(9, [2, 3, 7, 10, 24, 25, 26]), (3, [2, 3, 7, 14, 15, 16])], []⟩ Try.f19 [a0, a1, a2] h Q = W_nfa_Step a0 a1 a2 h Q := by kernel_rfl
theorem W_nfa_Step_ok {a0 a1 a2 : Value} {h : Heap} {Q : Value → Heap → Prop} (e : W_nfa_Step a0 a1 a2 h Q) : acall Try.prog F_nfa_Step [a0, a1, a2] h Q :=
  by refine acall_of_fW mixed ⟨[(9, [2, 3, 7, 10, 24, 25, 26]), (3, [2, 3, 7, 14, 15, 16])], []⟩ Try.func19 (by kernel_rfl) ?_; rw [W_nfa_Step_eq]; exact e

/-- homograph/homographref06.Step: loops {3: [1, 2, 3, 7, 8]}; joins {} -/
def W_homographref06_Step (a0 a1 a2 : Value) (h : Heap) (Q : Value → Heap → Prop) : Prop :=
(hW (boxA h a0) fun v1 h2 =>
(∃ (I3 : Nat → List Value → Heap → Prop) (k4 : Nat), gcL h (I3 k4) [a1, a2, v1, (.slice none 0 0), (.int .i64 0)] h2 ∧
∀ k6 : Nat, ∀ x7 : Value, ∀ x8 : Value, ∀ x9 : Value, ∀ x10 : Value, ∀ x11 : Value, ∀ h12, I3 k6 [x7, x8, x9, x10, x11] h12 →
(oW (faW 2 1 x9) fun v13 =>
(oW (ldW false 1 h12 v13) fun v14 =>
(oW (lenS v14) fun v15 =>
(oW (binN .lss x11 v15) fun v16 =>
(bW v16
(oW (faW 2 1 x9) fun v17 =>
(oW (ldW false 1 h12 v17) fun v18 =>
(oW (iaS 6 v18 x11) fun v19 =>
(oW (faW 0 1 v19) fun v20 =>
(oW (ldW false 1 h12 v20) fun v21 =>
(callW Try.prog (fn F_homographref06_has) [x7, v21] h12 fun v22 h23 =>
(bW v22
(oW (faW 2 1 x9) fun v24 =>
(oW (ldW false 1 h23 v24) fun v25 =>
(oW (iaS 6 v25 x11) fun v26 =>
(oW (faW 2 4 v26) fun v27 =>
(oW (ldW true 4 h23 v27) fun v28 =>
(callW Try.prog (fn F_homographref01_Has) [v28, x8] h23 fun v29 h30 =>
(bW v29
(oW (faW 2 1 x9) fun v31 =>
(oW (ldW false 1 h30 v31) fun v32 =>
(oW (iaS 6 v32 x11) fun v33 =>
(oW (faW 1 1 v33) fun v34 =>
(oW (ldW false 1 h30 v34) fun v35 =>
(hW (bslW h30 1 [(.int .i64 0)] [(0, 1, v35)]) fun v36 h37 =>
(hW (apW 1 8 h37 x10 v36) fun v38 h39 =>
(oW (binN .add x11 (.int .i64 1)) fun v40 =>
(∃ m5, m5 < k6 ∧ gcL h (I3 m5) [x7, x8, x9, v38, v40] h39)))))))))
(oW (binN .add x11 (.int .i64 1)) fun v41 =>
(∃ m5, m5 < k6 ∧ gcL h (I3 m5) [x7, x8, x9, x10, v41] h30)))))))))
(bW (.bool false)
(oW (faW 2 1 x9) fun v42 =>
(oW (ldW false 1 h23 v42) fun v43 =>
(oW (iaS 6 v43 x11) fun v44 =>
(oW (faW 1 1 v44) fun v45 =>
(oW (ldW false 1 h23 v45) fun v46 =>
(hW (bslW h23 1 [(.int .i64 0)] [(0, 1, v46)]) fun v47 h48 =>
(hW (apW 1 8 h48 x10 v47) fun v49 h50 =>
(oW (binN .add x11 (.int .i64 1)) fun v51 =>
(∃ m5, m5 < k6 ∧ gcL h (I3 m5) [x7, x8, x9, v49, v51] h50)))))))))
(oW (binN .add x11 (.int .i64 1)) fun v52 =>
(∃ m5, m5 < k6 ∧ gcL h (I3 m5) [x7, x8, x9, x10, v52] h23))))))))))
(oW (ldW true 5 h12 x9) fun v53 =>
(callW Try.prog (fn F_homographref06_Close) [v53, x10] h12 fun v54 h55 =>
(gcV h Q v54 h55))))))))))
theorem W_homographref06_Step_eq (a0 a1 a2 : Value) (h : Heap) (Q : Value → Heap → Prop) : fW Try.prog ⟨[(3, [1, 2, 3, 7, 8])], []⟩ Try.f20 [a0, a1, a2] h Q = W_homographref06_Step a0 a1 a2 h Q := by kernel_rfl
theorem W_homographref06_Step_ok {a0 a1 a2 : Value} {h : Heap} {Q : Value → Heap → Prop} (e : W_homographref06_Step a0 a1 a2 h Q) : acall Try.prog F_homographref06_Step [a0, a1, a2] h Q :=
  by refine acall_of_fW mixed ⟨[(3, [1, 2, 3, 7, 8])], []⟩ Try.func20 (by kernel_rfl) ?_; rw [W_homographref06_Step_eq]; exact e

/-- homograph/nfa.Whole: loops {3: [2, 5, 14, 15, 16]}; joins {} -/
def W_nfa_Whole (a0 a1 : Value) (h : Heap) (Q : Value → Heap → Prop) : Prop :=
(hW (boxA h a0) fun v1 h2 =>
(oW (ldW true 5 h2 v1) fun v3 =>
(oW (faW 3 1 v1) fun v4 =>
(oW (ldW false 1 h2 v4) fun v5 =>
(hW (bslW h2 1 [(.int .i64 0)] [(0, 1, v5)]) fun v6 h7 =>
(callW Try.prog (fn F_nfa_Close) [v3, v6] h7 fun v8 h9 =>
(hW (cvSB h9 a1) fun v10 h11 =>
(oW (lenS v10) fun v12 =>
(∃ (I13 : Nat → List Value → Heap → Prop) (k14 : Nat), gcL h (I13 k14) [v1, v8, v10, v12, (.int .i64 0)] h11 ∧
∀ k16 : Nat, ∀ x17 : Value, ∀ x18 : Value, ∀ x19 : Value, ∀ x20 : Value, ∀ x21 : Value, ∀ h22, I13 k16 [x17, x18, x19, x20, x21] h22 →
(oW (binN .lss x21 x20) fun v23 =>
(bW v23
(oW (iaS 1 x19 x21) fun v24 =>
(oW (ldW false 1 h22 v24) fun v25 =>
(oW (ldW true 5 h22 x17) fun v26 =>
(callW Try.prog (fn F_nfa_Step) [v26, x18, v25] h22 fun v27 h28 =>
(oW (binN .add x21 (.int .i64 1)) fun v29 =>
(∃ m15, m15 < k16 ∧ gcL h (I13 m15) [x17, v27, x19, x20, v29] h28))))))
(oW (faW 4 1 x17) fun v30 =>
(oW (ldW false 1 h22 v30) fun v31 =>
(callW Try.prog (fn F_slices_Contains_int_int) [x18, v31] h22 fun v32 h33 =>
(gcV h Q v32 h33)))))))))))))))
theorem W_nfa_Whole_eq (a0 a1 : Value) (h : Heap) (Q : Value → Heap → Prop) : fW Try.prog ⟨[(3, [2, 5, 14, 15, 16])], []⟩ Try.f21 [a0, a1] h Q = W_nfa_Whole a0 a1 h Q := by kernel_rfl
theorem W_nfa_Whole_ok {a0 a1 : Value} {h : Heap} {Q : Value → Heap → Prop} (e : W_nfa_Whole a0 a1 h Q) : acall Try.prog F_nfa_Whole [a0, a1] h Q :=
  by refine acall_of_fW mixed ⟨[(3, [2, 5, 14, 15, 16])], []⟩ Try.func21 (by kernel_rfl) ?_; rw [W_nfa_Whole_eq]; exact e

/-- homograph/homographref04.Whole: loops {}; joins {} -/
def W_homographref04_Whole (a0 a1 : Value) (h : Heap) (Q : Value → Heap → Prop) : Prop :=
(hW (boxA h a0) fun v1 h2 =>
(oW (ldW true 8 h2 v1) fun v3 =>
(callW Try.prog (fn F_homographref04_Ends) [v3, a1, (.int .i64 0)] h2 fun v4 h5 =>
(oW (lenS v4) fun v6 =>
(oW (binN .gtr v6 (.int .i64 0)) fun v7 =>
(bW v7
(oW (lenS v4) fun v8 =>
(oW (binN .sub v8 (.int .i64 1)) fun v9 =>
(oW (iaS 1 v4 v9) fun v10 =>
(oW (ldW false 1 h5 v10) fun v11 =>
(oW (lenStr a1) fun v12 =>
(oW (binN .eql v11 v12) fun v13 =>
(gcV h Q v13 h5)))))))
(gcV h Q (.bool false) h5)))))))
theorem W_homographref04_Whole_eq (a0 a1 : Value) (h : Heap) (Q : Value → Heap → Prop) : fW Try.prog ⟨[], []⟩ Try.f22 [a0, a1] h Q = W_homographref04_Whole a0 a1 h Q := by kernel_rfl
theorem W_homographref04_Whole_ok {a0 a1 : Value} {h : Heap} {Q : Value → Heap → Prop} (e : W_homographref04_Whole a0 a1 h Q) : acall Try.prog F_homographref04_Whole [a0, a1] h Q :=
  by refine acall_of_fW mixed ⟨[], []⟩ Try.func22 (by kernel_rfl) ?_; rw [W_homographref04_Whole_eq]; exact e

/-- homograph/homographref02.Many: loops {}; joins {} -/
def W_homographref02_Many (a0 a1 : Value) (h : Heap) (Q : Value → Heap → Prop) : Prop :=
(letH (h ++ [.row [(.int .i64 0), (.int .u64 0), (.int .u64 0), (.int .u64 0), (.int .u64 0), (.int .i64 0), (.int .i64 0), (.slice none 0 0)] .exact]) fun h1 =>
(oW (bldW [(.int .i64 0), (.int .u64 0), (.int .u64 0), (.int .u64 0), (.int .u64 0), (.int .i64 0), (.int .i64 0), (.slice none 0 0)] [(0, 1, a0), (7, 1, a1)]) fun v2 =>
(sW (stW 8 h1 (.pointer (some ⟨h.length, 0, none⟩)) v2) fun h3 =>
(oW (ldP true 8 h3 (.pointer (some ⟨h.length, 0, none⟩))) fun v4 =>
(gcV h Q v4 h3)))))
theorem W_homographref02_Many_eq (a0 a1 : Value) (h : Heap) (Q : Value → Heap → Prop) : fW Try.prog ⟨[], []⟩ Try.f23 [a0, a1] h Q = W_homographref02_Many a0 a1 h Q := by kernel_rfl
theorem W_homographref02_Many_ok {a0 a1 : Value} {h : Heap} {Q : Value → Heap → Prop} (e : W_homographref02_Many a0 a1 h Q) : acall Try.prog F_homographref02_Many [a0, a1] h Q :=
  by refine acall_of_fW mixed ⟨[], []⟩ Try.func23 (by kernel_rfl) ?_; rw [W_homographref02_Many_eq]; exact e

/-- homograph/homographref02.Set: loops {}; joins {} -/
def W_homographref02_Set (a0 : Value) (h : Heap) (Q : Value → Heap → Prop) : Prop :=
(hW (boxA h a0) fun v1 h2 =>
(letH (h2 ++ [.row [(.int .i64 0), (.int .u64 0), (.int .u64 0), (.int .u64 0), (.int .u64 0), (.int .i64 0), (.int .i64 0), (.slice none 0 0)] .exact]) fun h3 =>
(oW (ldW true 4 h3 v1) fun v4 =>
(oW (bldW [(.int .i64 0), (.int .u64 0), (.int .u64 0), (.int .u64 0), (.int .u64 0), (.int .i64 0), (.int .i64 0), (.slice none 0 0)] [(0, 1, (.int .i64 0)), (1, 4, v4)]) fun v5 =>
(sW (stW 8 h3 (.pointer (some ⟨h2.length, 0, none⟩)) v5) fun h6 =>
(oW (ldP true 8 h6 (.pointer (some ⟨h2.length, 0, none⟩))) fun v7 =>
(gcV h Q v7 h6)))))))
theorem W_homographref02_Set_eq (a0 : Value) (h : Heap) (Q : Value → Heap → Prop) : fW Try.prog ⟨[], []⟩ Try.f54 [a0] h Q = W_homographref02_Set a0 h Q := by kernel_rfl
theorem W_homographref02_Set_ok {a0 : Value} {h : Heap} {Q : Value → Heap → Prop} (e : W_homographref02_Set a0 h Q) : acall Try.prog F_homographref02_Set [a0] h Q :=
  by refine acall_of_fW mixed ⟨[], []⟩ Try.func54 (by kernel_rfl) ?_; rw [W_homographref02_Set_eq]; exact e

/-- homograph/homographref02.Rep: loops {}; joins {} -/
def W_homographref02_Rep (a0 a1 a2 : Value) (h : Heap) (Q : Value → Heap → Prop) : Prop :=
(hW (boxA h a0) fun v1 h2 =>
(letH (h2 ++ [.row [(.int .i64 0), (.int .u64 0), (.int .u64 0), (.int .u64 0), (.int .u64 0), (.int .i64 0), (.int .i64 0), (.slice none 0 0)] .exact]) fun h3 =>
(oW (ldW true 8 h3 v1) fun v4 =>
(hW (bslW h3 1 [(.int .i64 0), (.int .u64 0), (.int .u64 0), (.int .u64 0), (.int .u64 0), (.int .i64 0), (.int .i64 0), (.slice none 0 0)] [(0, 8, v4)]) fun v5 h6 =>
(oW (bldW [(.int .i64 0), (.int .u64 0), (.int .u64 0), (.int .u64 0), (.int .u64 0), (.int .i64 0), (.int .i64 0), (.slice none 0 0)] [(0, 1, (.int .i64 3)), (5, 1, a1), (6, 1, a2), (7, 1, v5)]) fun v7 =>
(sW (stW 8 h6 (.pointer (some ⟨h2.length, 0, none⟩)) v7) fun h8 =>
(oW (ldP true 8 h8 (.pointer (some ⟨h2.length, 0, none⟩))) fun v9 =>
(gcV h Q v9 h8))))))))
theorem W_homographref02_Rep_eq (a0 a1 a2 : Value) (h : Heap) (Q : Value → Heap → Prop) : fW Try.prog ⟨[], []⟩ Try.f55 [a0, a1, a2] h Q = W_homographref02_Rep a0 a1 a2 h Q := by kernel_rfl
theorem W_homographref02_Rep_ok {a0 a1 a2 : Value} {h : Heap} {Q : Value → Heap → Prop} (e : W_homographref02_Rep a0 a1 a2 h Q) : acall Try.prog F_homographref02_Rep [a0, a1, a2] h Q :=
  by refine acall_of_fW mixed ⟨[], []⟩ Try.func55 (by kernel_rfl) ?_; rw [W_homographref02_Rep_eq]; exact e

/-- homograph/homographref02.Lit: loops {3: [0, 2, 3, 4]}; joins {} -/
def W_homographref02_Lit (a0 : Value) (h : Heap) (Q : Value → Heap → Prop) : Prop :=
(letH (h ++ [.row [(.int .i64 0), (.int .u64 0), (.int .u64 0), (.int .u64 0), (.int .u64 0), (.int .i64 0), (.int .i64 0), (.slice none 0 0)] .exact]) fun h1 =>
(∃ (I2 : Nat → List Value → Heap → Prop) (k3 : Nat), gcL h (I2 k3) [a0, (.pointer (some ⟨h.length, 0, none⟩)), (.slice none 0 0), (.int .i64 0)] h1 ∧
∀ k5 : Nat, ∀ x6 : Value, ∀ x7 : Value, ∀ x8 : Value, ∀ x9 : Value, ∀ h10, I2 k5 [x6, x7, x8, x9] h10 →
(oW (lenStr x6) fun v11 =>
(oW (binN .lss x9 v11) fun v12 =>
(bW v12
(oW (bldW [(.int .u64 0), (.int .u64 0), (.int .u64 0), (.int .u64 0)] []) fun v13 =>
(oW (ixS x6 x9) fun v14 =>
(callW Try.prog (fn F_homographref01_With) [v13, v14] h10 fun v15 h16 =>
(callW Try.prog (fn F_homographref02_Set) [v15] h16 fun v17 h18 =>
(hW (bslW h18 1 [(.int .i64 0), (.int .u64 0), (.int .u64 0), (.int .u64 0), (.int .u64 0), (.int .i64 0), (.int .i64 0), (.slice none 0 0)] [(0, 8, v17)]) fun v19 h20 =>
(hW (apW 8 80 h20 x8 v19) fun v21 h22 =>
(oW (binN .add x9 (.int .i64 1)) fun v23 =>
(∃ m4, m4 < k5 ∧ gcL h (I2 m4) [x6, x7, v21, v23] h22))))))))
(callW Try.prog (fn F_homographref02_Many) [(.int .i64 1), x8] h10 fun v24 h25 =>
(sW (stW 8 h25 x7 v24) fun h26 =>
(oW (ldP true 8 h26 x7) fun v27 =>
(gcV h Q v27 h26)))))))))
theorem W_homographref02_Lit_eq (a0 : Value) (h : Heap) (Q : Value → Heap → Prop) : fW Try.prog ⟨[(3, [0, 2, 3, 4])], []⟩ Try.f56 [a0] h Q = W_homographref02_Lit a0 h Q := by kernel_rfl
theorem W_homographref02_Lit_ok {a0 : Value} {h : Heap} {Q : Value → Heap → Prop} (e : W_homographref02_Lit a0 h Q) : acall Try.prog F_homographref02_Lit [a0] h Q :=
  by refine acall_of_fW mixed ⟨[(3, [0, 2, 3, 4])], []⟩ Try.func56 (by kernel_rfl) ?_; rw [W_homographref02_Lit_eq]; exact e

/-- homograph/regex.Check: loops {}; joins {} -/
def W_regex_Check (a0 : Value) (h : Heap) (Q : Value → Heap → Prop) : Prop :=
(hW (boxA h a0) fun v1 h2 =>
(oW (ldW true 8 h2 v1) fun v3 =>
(callW Try.prog (fn F_regex_shallow) [v3, (.int .i64 64)] h2 fun v4 h5 =>
(oW (unA .not v4) fun v6 =>
(bW v6
(gcV h Q (.int .i64 1) h5)
(gcV h Q (.int .i64 0) h5))))))
theorem W_regex_Check_eq (a0 : Value) (h : Heap) (Q : Value → Heap → Prop) : fW Try.prog ⟨[], []⟩ Try.f57 [a0] h Q = W_regex_Check a0 h Q := by kernel_rfl
theorem W_regex_Check_ok {a0 : Value} {h : Heap} {Q : Value → Heap → Prop} (e : W_regex_Check a0 h Q) : acall Try.prog F_regex_Check [a0] h Q :=
  by refine acall_of_fW mixed ⟨[], []⟩ Try.func57 (by kernel_rfl) ?_; rw [W_regex_Check_eq]; exact e

/-- homograph/nfa.plain: loops {}; joins {} -/
def W_nfa_plain (a0 : Value) (h : Heap) (Q : Value → Heap → Prop) : Prop :=
(hW (boxA h a0) fun v1 h2 =>
(oW (faW 0 1 v1) fun v3 =>
(oW (ldW false 1 h2 v3) fun v4 =>
(oW (binN .neq v4 (.int .i64 4)) fun v5 =>
(bW v5
(oW (faW 0 1 v1) fun v6 =>
(oW (ldW false 1 h2 v6) fun v7 =>
(oW (binN .neq v7 (.int .i64 5)) fun v8 =>
(bW v8
(oW (faW 7 1 v1) fun v9 =>
(oW (ldW false 1 h2 v9) fun v10 =>
(callW Try.prog (fn F_slices_ContainsFunc_api_Node_api_Node) [v10, (fn F_nfa_plain_D1)] h2 fun v11 h12 =>
(oW (unA .not v11) fun v13 =>
(gcV h Q v13 h12)))))
(gcV h Q (.bool false) h2)))))
(gcV h Q (.bool false) h2))))))
theorem W_nfa_plain_eq (a0 : Value) (h : Heap) (Q : Value → Heap → Prop) : fW Try.prog ⟨[], []⟩ Try.f58 [a0] h Q = W_nfa_plain a0 h Q := by kernel_rfl
theorem W_nfa_plain_ok {a0 : Value} {h : Heap} {Q : Value → Heap → Prop} (e : W_nfa_plain a0 h Q) : acall Try.prog F_nfa_plain [a0] h Q :=
  by refine acall_of_fW mixed ⟨[], []⟩ Try.func58 (by kernel_rfl) ?_; rw [W_nfa_plain_eq]; exact e

/-- (*homograph/nfa.builder).piece: loops {15: [2, 6, 7, 89, 90, 91], 24: [2, 6, 7, 8, 9, 115, 116, 117]}; joins {4: [2, 3, 6, 7]} -/
def W_nfa_builder_piece (a0 a1 : Value) (h : Heap) (Q : Value → Heap → Prop) : Prop :=
(hW (boxA h a0) fun v1 h2 =>
(hW (boxA h2 a1) fun v3 h4 =>
(oW (ldW false 1 h4 v1) fun v5 =>
(oW (nilCheckA v5) fun v6 =>
(oW (faW 0 5 v6) fun v7 =>
(oW (faW 0 1 v7) fun v8 =>
(oW (ldW false 1 h4 v8) fun v9 =>
(oW (ldW false 1 h4 v1) fun v10 =>
(oW (nilCheckA v10) fun v11 =>
(oW (faW 0 5 v11) fun v12 =>
(oW (faW 0 1 v12) fun v13 =>
(oW (ldW false 1 h4 v13) fun v14 =>
(oW (binN .add v14 (.int .i64 1)) fun v15 =>
(oW (ldW false 1 h4 v1) fun v16 =>
(oW (nilCheckA v16) fun v17 =>
(oW (faW 0 5 v17) fun v18 =>
(oW (faW 0 1 v18) fun v19 =>
(oW (ldW false 1 h4 v19) fun v20 =>
(oW (binN .add v20 (.int .i64 2)) fun v21 =>
(oW (nilCheckA v16) fun v22 =>
(oW (faW 0 5 v22) fun v23 =>
(oW (faW 0 1 v23) fun v24 =>
(sW (stW 1 h4 v24 v21) fun h25 =>
(∃ M26 : List Value → Heap → Prop,
(oW (ldW false 1 h25 v1) fun v27 =>
(oW (ldW false 1 h25 v1) fun v28 =>
(oW (nilCheckA v28) fun v29 =>
(oW (faW 5 1 v29) fun v30 =>
(oW (ldW false 1 h25 v30) fun v31 =>
(bW v31
(oW (nilCheckA v27) fun v32 =>
(oW (faW 5 1 v32) fun v33 =>
(sW (stW 1 h25 v33 (.bool true)) fun h34 =>
(gcL h M26 [v1, v3, v9, v15] h34))))
(oW (ldW false 1 h25 v1) fun v35 =>
(oW (nilCheckA v35) fun v36 =>
(oW (faW 0 5 v36) fun v37 =>
(oW (faW 0 1 v37) fun v38 =>
(oW (ldW false 1 h25 v38) fun v39 =>
(oW (binN .gtr v39 (.int .i64 4096)) fun v40 =>
(oW (nilCheckA v27) fun v41 =>
(oW (faW 5 1 v41) fun v42 =>
(sW (stW 1 h25 v42 v40) fun h43 =>
(gcL h M26 [v1, v3, v9, v15] h43)))))))))))))))) ∧
∀ x44 : Value, ∀ x45 : Value, ∀ x46 : Value, ∀ x47 : Value, ∀ h48, M26 [x44, x45, x46, x47] h48 →
(oW (ldW false 1 h48 x44) fun v49 =>
(oW (nilCheckA v49) fun v50 =>
(oW (faW 5 1 v50) fun v51 =>
(oW (ldW false 1 h48 v51) fun v52 =>
(bW v52
(gcV h Q (.tuple #[x46, x47]) h48)
(letH (h48 ++ [.row [(.int .i64 0)] .exact]) fun h53 =>
(sW (stW 1 h53 (.pointer (some ⟨h48.length, 0, none⟩)) x46) fun h54 =>
(oW (faW 0 1 x45) fun v55 =>
(oW (ldW false 1 h54 v55) fun v56 =>
(oW (binN .eql v56 (.int .i64 0)) fun v57 =>
(bW v57
(oW (ldW false 1 h54 x44) fun v58 =>
(oW (ldW false 1 h54 x44) fun v59 =>
(oW (nilCheckA v59) fun v60 =>
(oW (faW 0 5 v60) fun v61 =>
(oW (faW 2 1 v61) fun v62 =>
(oW (ldW false 1 h54 v62) fun v63 =>
(oW (faW 1 4 x45) fun v64 =>
(oW (ldW true 4 h54 v64) fun v65 =>
(oW (bldW [(.int .i64 0), (.int .i64 0), (.int .u64 0), (.int .u64 0), (.int .u64 0), (.int .u64 0)] [(0, 1, x46), (1, 1, x47), (2, 4, v65)]) fun v66 =>
(hW (bslW h54 1 [(.int .i64 0), (.int .i64 0), (.int .u64 0), (.int .u64 0), (.int .u64 0), (.int .u64 0)] [(0, 6, v66)]) fun v67 h68 =>
(keptW [v64, v62, x44, x44] h54 h68 ∧
(hW (apW 6 48 h68 v63 v67) fun v69 h70 =>
(keptW [v64, x44, x44] h68 h70 ∧
(oW (nilCheckA v58) fun v71 =>
(oW (faW 0 5 v71) fun v72 =>
(oW (faW 2 1 v72) fun v73 =>
(sW (stW 1 h70 v73 v69) fun h74 =>
(gcV h Q (.tuple #[x46, x47]) h74))))))))))))))))))
(oW (binN .eql v56 (.int .i64 2)) fun v75 =>
(bW v75
(oW (faW 7 1 x45) fun v76 =>
(oW (ldW false 1 h54 v76) fun v77 =>
(oW (lenS v77) fun v78 =>
(∃ (I79 : Nat → List Value → Heap → Prop) (k80 : Nat), gcL h (I79 k80) [x44, x46, x47, v77, v78, (.int .i64 0)] h54 ∧
∀ k82 : Nat, ∀ x83 : Value, ∀ x84 : Value, ∀ x85 : Value, ∀ x86 : Value, ∀ x87 : Value, ∀ x88 : Value, ∀ h89, I79 k82 [x83, x84, x85, x86, x87, x88] h89 →
(oW (binN .lss x88 x87) fun v90 =>
(bW v90
(oW (iaS 8 x86 x88) fun v91 =>
(oW (ldW true 8 h89 v91) fun v92 =>
(letH (h89 ++ [.row [(.int .i64 0), (.int .u64 0), (.int .u64 0), (.int .u64 0), (.int .u64 0), (.int .i64 0), (.int .i64 0), (.slice none 0 0)] .exact]) fun h93 =>
(sW (stW 8 h93 (.pointer (some ⟨h89.length, 0, none⟩)) v92) fun h94 =>
(oW (ldW false 1 h94 x83) fun v95 =>
(oW (ldW true 8 h94 (.pointer (some ⟨h89.length, 0, none⟩))) fun v96 =>
(callW Try.prog (fn F_nfa_builder_piece) [v95, v96] h94 fun v97 h98 =>
(oW (extractA v97 0) fun v99 =>
(oW (extractA v97 1) fun v100 =>
(oW (ldW false 1 h98 x83) fun v101 =>
(callW Try.prog (fn F_nfa_builder_eps) [v101, x84, v99] h98 fun v102 h103 =>
(oW (ldW false 1 h103 x83) fun v104 =>
(callW Try.prog (fn F_nfa_builder_eps) [v104, v100, x85] h103 fun v105 h106 =>
(oW (binN .add x88 (.int .i64 1)) fun v107 =>
(∃ m81, m81 < k82 ∧ gcL h (I79 m81) [x83, x84, x85, x86, x87, v107] h106)))))))))))))))
(gcV h Q (.tuple #[x84, x85]) h89)))))))
(oW (binN .eql v56 (.int .i64 1)) fun v108 =>
(bW v108
(oW (faW 7 1 x45) fun v109 =>
(oW (ldW false 1 h54 v109) fun v110 =>
(oW (lenS v110) fun v111 =>
(∃ (I112 : Nat → List Value → Heap → Prop) (k113 : Nat), gcL h (I112 k113) [x44, x46, x47, (.pointer (some ⟨h48.length, 0, none⟩)), (.func (.func F_nfa_builder_piece_D1) #[] #[x44, (.pointer (some ⟨h48.length, 0, none⟩))]), v110, v111, (.int .i64 0)] h54 ∧
∀ k115 : Nat, ∀ x116 : Value, ∀ x117 : Value, ∀ x118 : Value, ∀ x119 : Value, ∀ x120 : Value, ∀ x121 : Value, ∀ x122 : Value, ∀ x123 : Value, ∀ h124, I112 k115 [x116, x117, x118, x119, x120, x121, x122, x123] h124 →
(oW (binN .lss x123 x122) fun v125 =>
(bW v125
(oW (iaS 8 x121 x123) fun v126 =>
(oW (ldW true 8 h124 v126) fun v127 =>
(letH (h124 ++ [.row [(.int .i64 0), (.int .u64 0), (.int .u64 0), (.int .u64 0), (.int .u64 0), (.int .i64 0), (.int .i64 0), (.slice none 0 0)] .exact]) fun h128 =>
(sW (stW 8 h128 (.pointer (some ⟨h124.length, 0, none⟩)) v127) fun h129 =>
(oW (ldW true 8 h129 (.pointer (some ⟨h124.length, 0, none⟩))) fun v130 =>
(callW Try.prog x120 [v130] h129 fun v131 h132 =>
(oW (binN .add x123 (.int .i64 1)) fun v133 =>
(∃ m114, m114 < k115 ∧ gcL h (I112 m114) [x116, x117, x118, x119, x120, x121, x122, v133] h132))))))))
(oW (ldW false 1 h124 x116) fun v134 =>
(oW (ldW false 1 h124 x119) fun v135 =>
(callW Try.prog (fn F_nfa_builder_eps) [v134, v135, x118] h124 fun v136 h137 =>
(gcV h Q (.tuple #[x117, x118]) h137))))))))))
(oW (ldW false 1 h54 x44) fun v138 =>
(oW (ldW true 8 h54 x45) fun v139 =>
(callW Try.prog (fn F_nfa_builder_again) [v138, v139, x47, (.pointer (some ⟨h48.length, 0, none⟩)), (.func (.func F_nfa_builder_piece_D1) #[] #[x44, (.pointer (some ⟨h48.length, 0, none⟩))])] h54 fun v140 h141 =>
(oW (ldW false 1 h141 x44) fun v142 =>
(oW (ldW false 1 h141 (.pointer (some ⟨h48.length, 0, none⟩))) fun v143 =>
(callW Try.prog (fn F_nfa_builder_eps) [v142, v143, x47] h141 fun v144 h145 =>
(gcV h Q (.tuple #[x46, x47]) h145))))))))))))))))))))))))))))))))))))))))))))))
theorem W_nfa_builder_piece_eq (a0 a1 : Value) (h : Heap) (Q : Value → Heap → Prop) : fW Try.prog ⟨[(15, [2, 6, 7, 89, 90, 91]), (24, [2, 6, 7, 8, 9, 115, 116, 117])], [(4, [2, 3, 6, 7])]⟩ Try.f59 [a0, a1] h Q = W_nfa_builder_piece a0 a1 h Q := by kernel_rfl
theorem W_nfa_builder_piece_ok {a0 a1 : Value} {h : Heap} {Q : Value → Heap → Prop} (e : W_nfa_builder_piece a0 a1 h Q) : acall Try.prog F_nfa_builder_piece [a0, a1] h Q :=
  by refine acall_of_fW mixed ⟨[(15, [2, 6, 7, 89, 90, 91]), (24, [2, 6, 7, 8, 9, 115, 116, 117])], [(4, [2, 3, 6, 7])]⟩ Try.func59 (by kernel_rfl) ?_; rw [W_nfa_builder_piece_eq]; exact e

/-- homograph/homographref02.Make: loops {3: [0, 2, 3, 4]}; joins {24: [0, 2, 3, 4, 5, 6, 7, 125], 18: [0, 2, 3, 4, 5, 6, 7, 95], 14: [0, 2, 3, 4, 5, 6, 7, 66], 10: [0, 2, 3, 4, 5, 6, 7, 37]} -/
def W_homographref02_Make (a0 : Value) (h : Heap) (Q : Value → Heap → Prop) : Prop :=
(letH (h ++ [.row [(.int .i64 0), (.int .u64 0), (.int .u64 0), (.int .u64 0), (.int .u64 0), (.int .i64 0), (.int .i64 0), (.slice none 0 0)] .exact]) fun h1 =>
(∃ (I2 : Nat → List Value → Heap → Prop) (k3 : Nat), gcL h (I2 k3) [a0, (.pointer (some ⟨h.length, 0, none⟩)), (.slice none 0 0), (.int .i64 0)] h1 ∧
∀ k5 : Nat, ∀ x6 : Value, ∀ x7 : Value, ∀ x8 : Value, ∀ x9 : Value, ∀ h10, I2 k5 [x6, x7, x8, x9] h10 →
(oW (lenStr x6) fun v11 =>
(oW (binN .lss x9 v11) fun v12 =>
(bW v12
(oW (ixS x6 x9) fun v13 =>
(oW (cvI .i64 v13) fun v14 =>
(oW (lenS x8) fun v15 =>
(oW (bldW [(.int .u64 0), (.int .u64 0), (.int .u64 0), (.int .u64 0)] []) fun v16 =>
(oW (binN .quo v14 (.int .i64 8)) fun v17 =>
(oW (binN .rem v17 (.int .i64 3)) fun v18 =>
(oW (binN .add (.int .i64 97) v18) fun v19 =>
(oW (cvI .u8 v19) fun v20 =>
(callW Try.prog (fn F_homographref01_With) [v16, v20] h10 fun v21 h22 =>
(callW Try.prog (fn F_homographref02_Set) [v21] h22 fun v23 h24 =>
(letH (h24 ++ [.row [(.int .i64 0), (.int .u64 0), (.int .u64 0), (.int .u64 0), (.int .u64 0), (.int .i64 0), (.int .i64 0), (.slice none 0 0)] .exact]) fun h25 =>
(sW (stW 8 h25 (.pointer (some ⟨h24.length, 0, none⟩)) v23) fun h26 =>
(∃ M27 : List Value → Heap → Prop,
(oW (binN .rem v14 (.int .i64 8)) fun v28 =>
(oW (binN .eql v28 (.int .i64 3)) fun v29 =>
(bW v29
(oW (binN .gtr v15 (.int .i64 1)) fun v30 =>
(gcL h M27 [x6, x7, x8, x9, v14, v15, (.pointer (some ⟨h24.length, 0, none⟩)), v30] h26))
(gcL h M27 [x6, x7, x8, x9, v14, v15, (.pointer (some ⟨h24.length, 0, none⟩)), (.bool false)] h26)))) ∧
∀ x31 : Value, ∀ x32 : Value, ∀ x33 : Value, ∀ x34 : Value, ∀ x35 : Value, ∀ x36 : Value, ∀ x37 : Value, ∀ x38 : Value, ∀ h39, M27 [x31, x32, x33, x34, x35, x36, x37, x38] h39 →
(bW x38
(oW (binN .sub x36 (.int .i64 2)) fun v40 =>
(oW (iaS 8 x33 v40) fun v41 =>
(oW (ldW true 8 h39 v41) fun v42 =>
(oW (binN .sub x36 (.int .i64 1)) fun v43 =>
(oW (iaS 8 x33 v43) fun v44 =>
(oW (ldW true 8 h39 v44) fun v45 =>
((True) ∧
(hW (bslW h39 2 [(.int .i64 0), (.int .u64 0), (.int .u64 0), (.int .u64 0), (.int .u64 0), (.int .i64 0), (.int .i64 0), (.slice none 0 0), (.int .i64 0), (.int .u64 0), (.int .u64 0), (.int .u64 0), (.int .u64 0), (.int .i64 0), (.int .i64 0), (.slice none 0 0)] [(0, 8, v42), (8, 8, v45)]) fun v46 h47 =>
(keptW [v44, v41] h39 h47 ∧
((True) ∧
(callW Try.prog (fn F_homographref02_Many) [(.int .i64 1), v46] h47 fun v48 h49 =>
(keptW [v44, v41] h47 h49 ∧
(letH (h49 ++ [.row [(.int .i64 0), (.int .u64 0), (.int .u64 0), (.int .u64 0), (.int .u64 0), (.int .i64 0), (.int .i64 0), (.slice none 0 0)] .exact]) fun h50 =>
(keptW [v44, v41] h49 h50 ∧
(sW (stW 8 h50 (.pointer (some ⟨h49.length, 0, none⟩)) v48) fun h51 =>
(oW (binN .sub x36 (.int .i64 1)) fun v52 =>
(oW (slS 8 h51 x33 none (some v52) none) fun v53 =>
(oW (binN .sub x36 (.int .i64 2)) fun v54 =>
(oW (ldW true 8 h51 (.pointer (some ⟨h49.length, 0, none⟩))) fun v55 =>
(oW (iaS 8 v53 v54) fun v56 =>
(sW (stW 8 h51 v56 v55) fun h57 =>
(oW (binN .add x34 (.int .i64 1)) fun v58 =>
(∃ m4, m4 < k5 ∧ gcL h (I2 m4) [x31, x32, v53, v58] h57)))))))))))))))))))))))
(∃ M59 : List Value → Heap → Prop,
(oW (binN .rem x35 (.int .i64 8)) fun v60 =>
(oW (binN .eql v60 (.int .i64 4)) fun v61 =>
(bW v61
(oW (binN .gtr x36 (.int .i64 1)) fun v62 =>
(gcL h M59 [x31, x32, x33, x34, x35, x36, x37, v62] h39))
(gcL h M59 [x31, x32, x33, x34, x35, x36, x37, (.bool false)] h39)))) ∧
∀ x63 : Value, ∀ x64 : Value, ∀ x65 : Value, ∀ x66 : Value, ∀ x67 : Value, ∀ x68 : Value, ∀ x69 : Value, ∀ x70 : Value, ∀ h71, M59 [x63, x64, x65, x66, x67, x68, x69, x70] h71 →
(bW x70
(oW (binN .sub x68 (.int .i64 2)) fun v72 =>
(oW (iaS 8 x65 v72) fun v73 =>
(oW (ldW true 8 h71 v73) fun v74 =>
(oW (binN .sub x68 (.int .i64 1)) fun v75 =>
(oW (iaS 8 x65 v75) fun v76 =>
(oW (ldW true 8 h71 v76) fun v77 =>
((True) ∧
(hW (bslW h71 2 [(.int .i64 0), (.int .u64 0), (.int .u64 0), (.int .u64 0), (.int .u64 0), (.int .i64 0), (.int .i64 0), (.slice none 0 0), (.int .i64 0), (.int .u64 0), (.int .u64 0), (.int .u64 0), (.int .u64 0), (.int .i64 0), (.int .i64 0), (.slice none 0 0)] [(0, 8, v74), (8, 8, v77)]) fun v78 h79 =>
(keptW [v76, v73] h71 h79 ∧
((True) ∧
(callW Try.prog (fn F_homographref02_Many) [(.int .i64 2), v78] h79 fun v80 h81 =>
(keptW [v76, v73] h79 h81 ∧
(letH (h81 ++ [.row [(.int .i64 0), (.int .u64 0), (.int .u64 0), (.int .u64 0), (.int .u64 0), (.int .i64 0), (.int .i64 0), (.slice none 0 0)] .exact]) fun h82 =>
(keptW [v76, v73] h81 h82 ∧
(sW (stW 8 h82 (.pointer (some ⟨h81.length, 0, none⟩)) v80) fun h83 =>
(oW (binN .sub x68 (.int .i64 1)) fun v84 =>
(oW (slS 8 h83 x65 none (some v84) none) fun v85 =>
(oW (binN .sub x68 (.int .i64 2)) fun v86 =>
(oW (ldW true 8 h83 (.pointer (some ⟨h81.length, 0, none⟩))) fun v87 =>
(oW (iaS 8 v85 v86) fun v88 =>
(sW (stW 8 h83 v88 v87) fun h89 =>
(oW (binN .add x66 (.int .i64 1)) fun v90 =>
(∃ m4, m4 < k5 ∧ gcL h (I2 m4) [x63, x64, v85, v90] h89)))))))))))))))))))))))
(∃ M91 : List Value → Heap → Prop,
(oW (binN .rem x67 (.int .i64 8)) fun v92 =>
(oW (binN .eql v92 (.int .i64 5)) fun v93 =>
(bW v93
(oW (binN .gtr x68 (.int .i64 0)) fun v94 =>
(gcL h M91 [x63, x64, x65, x66, x67, x68, x69, v94] h71))
(gcL h M91 [x63, x64, x65, x66, x67, x68, x69, (.bool false)] h71)))) ∧
∀ x95 : Value, ∀ x96 : Value, ∀ x97 : Value, ∀ x98 : Value, ∀ x99 : Value, ∀ x100 : Value, ∀ x101 : Value, ∀ x102 : Value, ∀ h103, M91 [x95, x96, x97, x98, x99, x100, x101, x102] h103 →
(bW x102
(oW (binN .quo x99 (.int .i64 8)) fun v104 =>
(oW (binN .rem v104 (.int .i64 3)) fun v105 =>
(oW (binN .quo x99 (.int .i64 24)) fun v106 =>
(oW (binN .rem v106 (.int .i64 3)) fun v107 =>
(oW (binN .add v105 v107) fun v108 =>
(oW (binN .geq x99 (.int .i64 128)) fun v109 =>
(bW v109
(oW (binN .sub x100 (.int .i64 1)) fun v110 =>
(oW (binN .sub x100 (.int .i64 1)) fun v111 =>
(oW (iaS 8 x97 v111) fun v112 =>
(oW (ldW true 8 h103 v112) fun v113 =>
(callW Try.prog (fn F_homographref02_Rep) [v113, v105, (.int .i64 (-1))] h103 fun v114 h115 =>
(oW (iaS 8 x97 v110) fun v116 =>
(sW (stW 8 h115 v116 v114) fun h117 =>
(oW (binN .add x98 (.int .i64 1)) fun v118 =>
(∃ m4, m4 < k5 ∧ gcL h (I2 m4) [x95, x96, x97, v118] h117)))))))))
(oW (binN .sub x100 (.int .i64 1)) fun v119 =>
(oW (binN .sub x100 (.int .i64 1)) fun v120 =>
(oW (iaS 8 x97 v120) fun v121 =>
(oW (ldW true 8 h103 v121) fun v122 =>
(callW Try.prog (fn F_homographref02_Rep) [v122, v105, v108] h103 fun v123 h124 =>
(oW (iaS 8 x97 v119) fun v125 =>
(sW (stW 8 h124 v125 v123) fun h126 =>
(oW (binN .add x98 (.int .i64 1)) fun v127 =>
(∃ m4, m4 < k5 ∧ gcL h (I2 m4) [x95, x96, x97, v127] h126))))))))))))))))
(∃ M128 : List Value → Heap → Prop,
(oW (binN .rem x99 (.int .i64 8)) fun v129 =>
(oW (binN .eql v129 (.int .i64 6)) fun v130 =>
(bW v130
(oW (binN .gtr x100 (.int .i64 1)) fun v131 =>
(gcL h M128 [x95, x96, x97, x98, x99, x100, x101, v131] h103))
(gcL h M128 [x95, x96, x97, x98, x99, x100, x101, (.bool false)] h103)))) ∧
∀ x132 : Value, ∀ x133 : Value, ∀ x134 : Value, ∀ x135 : Value, ∀ x136 : Value, ∀ x137 : Value, ∀ x138 : Value, ∀ x139 : Value, ∀ h140, M128 [x132, x133, x134, x135, x136, x137, x138, x139] h140 →
(bW x139
(oW (binN .sub x137 (.int .i64 2)) fun v141 =>
(oW (iaS 8 x134 v141) fun v142 =>
(oW (ldW true 8 h140 v142) fun v143 =>
(oW (binN .sub x137 (.int .i64 1)) fun v144 =>
(oW (iaS 8 x134 v144) fun v145 =>
(oW (ldW true 8 h140 v145) fun v146 =>
((True) ∧
(hW (bslW h140 2 [(.int .i64 0), (.int .u64 0), (.int .u64 0), (.int .u64 0), (.int .u64 0), (.int .i64 0), (.int .i64 0), (.slice none 0 0), (.int .i64 0), (.int .u64 0), (.int .u64 0), (.int .u64 0), (.int .u64 0), (.int .i64 0), (.int .i64 0), (.slice none 0 0)] [(0, 8, v143), (8, 8, v146)]) fun v147 h148 =>
(keptW [v145, v142] h140 h148 ∧
((True) ∧
(callW Try.prog (fn F_homographref02_Many) [(.int .i64 4), v147] h148 fun v149 h150 =>
(keptW [v145, v142] h148 h150 ∧
(letH (h150 ++ [.row [(.int .i64 0), (.int .u64 0), (.int .u64 0), (.int .u64 0), (.int .u64 0), (.int .i64 0), (.int .i64 0), (.slice none 0 0)] .exact]) fun h151 =>
(keptW [v145, v142] h150 h151 ∧
(sW (stW 8 h151 (.pointer (some ⟨h150.length, 0, none⟩)) v149) fun h152 =>
(oW (binN .sub x137 (.int .i64 1)) fun v153 =>
(oW (slS 8 h152 x134 none (some v153) none) fun v154 =>
(oW (binN .sub x137 (.int .i64 2)) fun v155 =>
(oW (ldW true 8 h152 (.pointer (some ⟨h150.length, 0, none⟩))) fun v156 =>
(oW (iaS 8 v154 v155) fun v157 =>
(sW (stW 8 h152 v157 v156) fun h158 =>
(oW (binN .add x135 (.int .i64 1)) fun v159 =>
(∃ m4, m4 < k5 ∧ gcL h (I2 m4) [x132, x133, v154, v159] h158)))))))))))))))))))))))
(oW (binN .rem x136 (.int .i64 8)) fun v160 =>
(oW (binN .eql v160 (.int .i64 7)) fun v161 =>
(bW v161
(oW (binN .gtr x137 (.int .i64 0)) fun v162 =>
(bW v162
(oW (binN .sub x137 (.int .i64 1)) fun v163 =>
(oW (binN .sub x137 (.int .i64 1)) fun v164 =>
(oW (iaS 8 x134 v164) fun v165 =>
(oW (ldW true 8 h140 v165) fun v166 =>
(hW (bslW h140 1 [(.int .i64 0), (.int .u64 0), (.int .u64 0), (.int .u64 0), (.int .u64 0), (.int .i64 0), (.int .i64 0), (.slice none 0 0)] [(0, 8, v166)]) fun v167 h168 =>
(callW Try.prog (fn F_homographref02_Many) [(.int .i64 5), v167] h168 fun v169 h170 =>
(oW (iaS 8 x134 v163) fun v171 =>
(sW (stW 8 h170 v171 v169) fun h172 =>
(oW (binN .add x135 (.int .i64 1)) fun v173 =>
(∃ m4, m4 < k5 ∧ gcL h (I2 m4) [x132, x133, x134, v173] h172))))))))))
(oW (binN .rem x136 (.int .i64 8)) fun v174 =>
(oW (binN .eql v174 (.int .i64 2)) fun v175 =>
(bW v175
(oW (binN .quo x136 (.int .i64 8)) fun v176 =>
(oW (binN .rem v176 (.int .i64 3)) fun v177 =>
(oW (binN .add (.int .i64 97) v177) fun v178 =>
(oW (cvI .u8 v178) fun v179 =>
(callW Try.prog (fn F_homographref01_Range) [(.int .u8 97), v179] h140 fun v180 h181 =>
(callW Try.prog (fn F_homographref02_Set) [v180] h181 fun v182 h183 =>
(hW (bslW h183 1 [(.int .i64 0), (.int .u64 0), (.int .u64 0), (.int .u64 0), (.int .u64 0), (.int .i64 0), (.int .i64 0), (.slice none 0 0)] [(0, 8, v182)]) fun v184 h185 =>
(hW (apW 8 80 h185 x134 v184) fun v186 h187 =>
(oW (binN .add x135 (.int .i64 1)) fun v188 =>
(∃ m4, m4 < k5 ∧ gcL h (I2 m4) [x132, x133, v186, v188] h187))))))))))
(oW (ldW true 8 h140 x138) fun v189 =>
(hW (bslW h140 1 [(.int .i64 0), (.int .u64 0), (.int .u64 0), (.int .u64 0), (.int .u64 0), (.int .i64 0), (.int .i64 0), (.slice none 0 0)] [(0, 8, v189)]) fun v190 h191 =>
(hW (apW 8 80 h191 x134 v190) fun v192 h193 =>
(oW (binN .add x135 (.int .i64 1)) fun v194 =>
(∃ m4, m4 < k5 ∧ gcL h (I2 m4) [x132, x133, v192, v194] h193))))))))))
(bW (.bool false)
(oW (binN .sub x137 (.int .i64 1)) fun v195 =>
(oW (binN .sub x137 (.int .i64 1)) fun v196 =>
(oW (iaS 8 x134 v196) fun v197 =>
(oW (ldW true 8 h140 v197) fun v198 =>
(hW (bslW h140 1 [(.int .i64 0), (.int .u64 0), (.int .u64 0), (.int .u64 0), (.int .u64 0), (.int .i64 0), (.int .i64 0), (.slice none 0 0)] [(0, 8, v198)]) fun v199 h200 =>
(callW Try.prog (fn F_homographref02_Many) [(.int .i64 5), v199] h200 fun v201 h202 =>
(oW (iaS 8 x134 v195) fun v203 =>
(sW (stW 8 h202 v203 v201) fun h204 =>
(oW (binN .add x135 (.int .i64 1)) fun v205 =>
(∃ m4, m4 < k5 ∧ gcL h (I2 m4) [x132, x133, x134, v205] h204))))))))))
(oW (binN .rem x136 (.int .i64 8)) fun v206 =>
(oW (binN .eql v206 (.int .i64 2)) fun v207 =>
(bW v207
(oW (binN .quo x136 (.int .i64 8)) fun v208 =>
(oW (binN .rem v208 (.int .i64 3)) fun v209 =>
(oW (binN .add (.int .i64 97) v209) fun v210 =>
(oW (cvI .u8 v210) fun v211 =>
(callW Try.prog (fn F_homographref01_Range) [(.int .u8 97), v211] h140 fun v212 h213 =>
(callW Try.prog (fn F_homographref02_Set) [v212] h213 fun v214 h215 =>
(hW (bslW h215 1 [(.int .i64 0), (.int .u64 0), (.int .u64 0), (.int .u64 0), (.int .u64 0), (.int .i64 0), (.int .i64 0), (.slice none 0 0)] [(0, 8, v214)]) fun v216 h217 =>
(hW (apW 8 80 h217 x134 v216) fun v218 h219 =>
(oW (binN .add x135 (.int .i64 1)) fun v220 =>
(∃ m4, m4 < k5 ∧ gcL h (I2 m4) [x132, x133, v218, v220] h219))))))))))
(oW (ldW true 8 h140 x138) fun v221 =>
(hW (bslW h140 1 [(.int .i64 0), (.int .u64 0), (.int .u64 0), (.int .u64 0), (.int .u64 0), (.int .i64 0), (.int .i64 0), (.slice none 0 0)] [(0, 8, v221)]) fun v222 h223 =>
(hW (apW 8 80 h223 x134 v222) fun v224 h225 =>
(oW (binN .add x135 (.int .i64 1)) fun v226 =>
(∃ m4, m4 < k5 ∧ gcL h (I2 m4) [x132, x133, v224, v226] h225))))))))))))))))))))))))))))))))
(oW (lenS x8) fun v227 =>
(oW (binN .eql v227 (.int .i64 1)) fun v228 =>
(bW v228
(oW (iaS 8 x8 (.int .i64 0)) fun v229 =>
(oW (ldW true 8 h10 v229) fun v230 =>
(sW (stW 8 h10 x7 v230) fun h231 =>
(oW (ldP true 8 h231 x7) fun v232 =>
(gcV h Q v232 h231)))))
(callW Try.prog (fn F_homographref02_Many) [(.int .i64 1), x8] h10 fun v233 h234 =>
(sW (stW 8 h234 x7 v233) fun h235 =>
(oW (ldP true 8 h235 x7) fun v236 =>
(gcV h Q v236 h235))))))))))))
theorem W_homographref02_Make_eq (a0 : Value) (h : Heap) (Q : Value → Heap → Prop) : fW Try.prog ⟨[(3, [0, 2, 3, 4])], [(24, [0, 2, 3, 4, 5, 6, 7, 125]), (18, [0, 2, 3, 4, 5, 6, 7, 95]), (14, [0, 2, 3, 4, 5, 6, 7, 66]), (10, [0, 2, 3, 4, 5, 6, 7, 37])]⟩ Try.f60 [a0] h Q = W_homographref02_Make a0 h Q := by kernel_rfl
theorem W_homographref02_Make_ok {a0 : Value} {h : Heap} {Q : Value → Heap → Prop} (e : W_homographref02_Make a0 h Q) : acall Try.prog F_homographref02_Make [a0] h Q :=
  by refine acall_of_fW mixed ⟨[(3, [0, 2, 3, 4])], [(24, [0, 2, 3, 4, 5, 6, 7, 125]), (18, [0, 2, 3, 4, 5, 6, 7, 95]), (14, [0, 2, 3, 4, 5, 6, 7, 66]), (10, [0, 2, 3, 4, 5, 6, 7, 37])]⟩ Try.func60 (by kernel_rfl) ?_; rw [W_homographref02_Make_eq]; exact e

/-- slices.DeleteFunc[[]int,int]: loops {5: [0, 1, 5, 6]}; joins {} -/
def W_slices_DeleteFunc_int_int (a0 a1 : Value) (h : Heap) (Q : Value → Heap → Prop) : Prop :=
(callW Try.prog (fn F_slices_IndexFunc_int_int) [a0, a1] h fun v1 h2 =>
(oW (binN .eql v1 (.int .i64 (-1))) fun v3 =>
(bW v3
(gcV h Q a0 h2)
(oW (binN .add v1 (.int .i64 1)) fun v4 =>
(∃ (I5 : Nat → List Value → Heap → Prop) (k6 : Nat), gcL h (I5 k6) [a0, a1, v1, v4] h2 ∧
∀ k8 : Nat, ∀ x9 : Value, ∀ x10 : Value, ∀ x11 : Value, ∀ x12 : Value, ∀ h13, I5 k8 [x9, x10, x11, x12] h13 →
(oW (lenS x9) fun v14 =>
(oW (binN .lss x12 v14) fun v15 =>
(bW v15
(oW (iaS 1 x9 x12) fun v16 =>
(oW (ldW false 1 h13 v16) fun v17 =>
(callW Try.prog x10 [v17] h13 fun v18 h19 =>
(oW (unA .not v18) fun v20 =>
(bW v20
(oW (iaS 1 x9 x11) fun v21 =>
(sW (stW 1 h19 v21 v17) fun h22 =>
(oW (binN .add x11 (.int .i64 1)) fun v23 =>
(oW (binN .add x12 (.int .i64 1)) fun v24 =>
(∃ m7, m7 < k8 ∧ gcL h (I5 m7) [x9, x10, v23, v24] h22)))))
(oW (binN .add x12 (.int .i64 1)) fun v25 =>
(∃ m7, m7 < k8 ∧ gcL h (I5 m7) [x9, x10, x11, v25] h19)))))))
(oW (slS 1 h13 x9 (some x11) none none) fun v26 =>
(sW (clrW [(.int .i64 0)] 1 h13 v26) fun h27 =>
(oW (slS 1 h27 x9 none (some x11) none) fun v28 =>
(gcV h Q v28 h27))))))))))))
theorem W_slices_DeleteFunc_int_int_eq (a0 a1 : Value) (h : Heap) (Q : Value → Heap → Prop) : fW Try.prog ⟨[(5, [0, 1, 5, 6])], []⟩ Try.f61 [a0, a1] h Q = W_slices_DeleteFunc_int_int a0 a1 h Q := by kernel_rfl
theorem W_slices_DeleteFunc_int_int_ok {a0 a1 : Value} {h : Heap} {Q : Value → Heap → Prop} (e : W_slices_DeleteFunc_int_int a0 a1 h Q) : acall Try.prog F_slices_DeleteFunc_int_int [a0, a1] h Q :=
  by refine acall_of_fW mixed ⟨[(5, [0, 1, 5, 6])], []⟩ Try.func61 (by kernel_rfl) ?_; rw [W_slices_DeleteFunc_int_int_eq]; exact e

/-- slices.Clone[[]int,int]: loops {}; joins {} -/
def W_slices_Clone_int_int (a0 : Value) (h : Heap) (Q : Value → Heap → Prop) : Prop :=
(oW (eqW (nilS_ a0 (.slice none 0 0))) fun v1 =>
(bW v1
(gcV h Q (.slice none 0 0) h)
(hW (bslW h 0 [] []) fun v2 h3 =>
(hW (apW 1 8 h3 v2 a0) fun v4 h5 =>
(gcV h Q v4 h5)))))
theorem W_slices_Clone_int_int_eq (a0 : Value) (h : Heap) (Q : Value → Heap → Prop) : fW Try.prog ⟨[], []⟩ Try.f62 [a0] h Q = W_slices_Clone_int_int a0 h Q := by kernel_rfl
theorem W_slices_Clone_int_int_ok {a0 : Value} {h : Heap} {Q : Value → Heap → Prop} (e : W_slices_Clone_int_int a0 h Q) : acall Try.prog F_slices_Clone_int_int [a0] h Q :=
  by refine acall_of_fW mixed ⟨[], []⟩ Try.func62 (by kernel_rfl) ?_; rw [W_slices_Clone_int_int_eq]; exact e

/-- homograph/nfa.Close$1: loops {}; joins {} -/
def W_nfa_Close_D1 (a0 a1 : Value) (h : Heap) (Q : Value → Heap → Prop) : Prop :=
(oW (binN .lss a0 (.int .i64 0)) fun v1 =>
(bW v1
(gcV h Q (.bool true) h)
(oW (faW 0 1 a1) fun v2 =>
(oW (ldW false 1 h v2) fun v3 =>
(oW (binN .geq a0 v3) fun v4 =>
(gcV h Q v4 h))))))
theorem W_nfa_Close_D1_eq (a0 a1 : Value) (h : Heap) (Q : Value → Heap → Prop) : fW Try.prog ⟨[], []⟩ Try.f63 [a0, a1] h Q = W_nfa_Close_D1 a0 a1 h Q := by kernel_rfl
theorem W_nfa_Close_D1_ok {a0 a1 : Value} {h : Heap} {Q : Value → Heap → Prop} (e : W_nfa_Close_D1 a0 a1 h Q) : acall Try.prog F_nfa_Close_D1 [a0, a1] h Q :=
  by refine acall_of_fW mixed ⟨[], []⟩ Try.func63 (by kernel_rfl) ?_; rw [W_nfa_Close_D1_eq]; exact e

/-- slices.Sorted[int]: loops {}; joins {} -/
def W_slices_Sorted_int (a0 : Value) (h : Heap) (Q : Value → Heap → Prop) : Prop :=
(callW Try.prog (fn F_slices_Collect_int) [a0] h fun v1 h2 =>
(callW Try.prog (fn F_slices_Sort_int_int) [v1] h2 fun v3 h4 =>
(gcV h Q v1 h4)))
theorem W_slices_Sorted_int_eq (a0 : Value) (h : Heap) (Q : Value → Heap → Prop) : fW Try.prog ⟨[], []⟩ Try.f64 [a0] h Q = W_slices_Sorted_int a0 h Q := by kernel_rfl
theorem W_slices_Sorted_int_ok {a0 : Value} {h : Heap} {Q : Value → Heap → Prop} (e : W_slices_Sorted_int a0 h Q) : acall Try.prog F_slices_Sorted_int [a0] h Q :=
  by refine acall_of_fW mixed ⟨[], []⟩ Try.func64 (by kernel_rfl) ?_; rw [W_slices_Sorted_int_eq]; exact e

/-- maps.Keys[map[int]bool,int,bool]: loops {}; joins {} -/
def W_maps_Keys_map_int_bool_int_bool (a0 : Value) (h : Heap) (Q : Value → Heap → Prop) : Prop :=
(hW (boxA h a0) fun v1 h2 =>
(gcV h Q (.func (.func F_maps_Keys_map_int_bool_int_bool_D1) #[] #[v1]) h2))
theorem W_maps_Keys_map_int_bool_int_bool_eq (a0 : Value) (h : Heap) (Q : Value → Heap → Prop) : fW Try.prog ⟨[], []⟩ Try.f65 [a0] h Q = W_maps_Keys_map_int_bool_int_bool a0 h Q := by kernel_rfl
theorem W_maps_Keys_map_int_bool_int_bool_ok {a0 : Value} {h : Heap} {Q : Value → Heap → Prop} (e : W_maps_Keys_map_int_bool_int_bool a0 h Q) : acall Try.prog F_maps_Keys_map_int_bool_int_bool [a0] h Q :=
  by refine acall_of_fW mixed ⟨[], []⟩ Try.func65 (by kernel_rfl) ?_; rw [W_maps_Keys_map_int_bool_int_bool_eq]; exact e

/-- homograph/homographref06.rising: loops {3: [0, 3, 4]}; joins {} -/
def W_homographref06_rising (a0 : Value) (h : Heap) (Q : Value → Heap → Prop) : Prop :=
(∃ (I1 : Nat → List Value → Heap → Prop) (k2 : Nat), gcL h (I1 k2) [a0, (.slice none 0 0), (.int .i64 0)] h ∧
∀ k4 : Nat, ∀ x5 : Value, ∀ x6 : Value, ∀ x7 : Value, ∀ h8, I1 k4 [x5, x6, x7] h8 →
(oW (lenS x5) fun v9 =>
(oW (binN .lss x7 v9) fun v10 =>
(bW v10
(oW (iaS 1 x5 x7) fun v11 =>
(oW (ldW false 1 h8 v11) fun v12 =>
(bW v12
(hW (bslW h8 1 [(.int .i64 0)] [(0, 1, x7)]) fun v13 h14 =>
(hW (apW 1 8 h14 x6 v13) fun v15 h16 =>
(oW (binN .add x7 (.int .i64 1)) fun v17 =>
(∃ m3, m3 < k4 ∧ gcL h (I1 m3) [x5, v15, v17] h16))))
(oW (binN .add x7 (.int .i64 1)) fun v18 =>
(∃ m3, m3 < k4 ∧ gcL h (I1 m3) [x5, x6, v18] h8)))))
(gcV h Q x6 h8)))))
theorem W_homographref06_rising_eq (a0 : Value) (h : Heap) (Q : Value → Heap → Prop) : fW Try.prog ⟨[(3, [0, 3, 4])], []⟩ Try.f66 [a0] h Q = W_homographref06_rising a0 h Q := by kernel_rfl
theorem W_homographref06_rising_ok {a0 : Value} {h : Heap} {Q : Value → Heap → Prop} (e : W_homographref06_rising a0 h Q) : acall Try.prog F_homographref06_rising [a0] h Q :=
  by refine acall_of_fW mixed ⟨[(3, [0, 3, 4])], []⟩ Try.func66 (by kernel_rfl) ?_; rw [W_homographref06_rising_eq]; exact e

/-- homograph/byteset.Has: loops {}; joins {} -/
def W_byteset_Has (a0 a1 : Value) (h : Heap) (Q : Value → Heap → Prop) : Prop :=
(hW (boxA h a0) fun v1 h2 =>
(oW (binN .quo a1 (.int .u8 64)) fun v3 =>
(oW (iaA 4 1 v1 v3) fun v4 =>
(oW (ldW false 1 h2 v4) fun v5 =>
(oW (binN .rem a1 (.int .u8 64)) fun v6 =>
(oW (binN .shl (.int .u64 1) v6) fun v7 =>
(oW (binN .and v5 v7) fun v8 =>
(oW (binN .neq v8 (.int .u64 0)) fun v9 =>
(gcV h Q v9 h2)))))))))
theorem W_byteset_Has_eq (a0 a1 : Value) (h : Heap) (Q : Value → Heap → Prop) : fW Try.prog ⟨[], []⟩ Try.f67 [a0, a1] h Q = W_byteset_Has a0 a1 h Q := by kernel_rfl
theorem W_byteset_Has_ok {a0 a1 : Value} {h : Heap} {Q : Value → Heap → Prop} (e : W_byteset_Has a0 a1 h Q) : acall Try.prog F_byteset_Has [a0, a1] h Q :=
  by refine acall_of_fW mixed ⟨[], []⟩ Try.func67 (by kernel_rfl) ?_; rw [W_byteset_Has_eq]; exact e

/-- homograph/homographref06.has: loops {2: [0, 1, 5]}; joins {} -/
def W_homographref06_has (a0 a1 : Value) (h : Heap) (Q : Value → Heap → Prop) : Prop :=
(∃ (I1 : Nat → List Value → Heap → Prop) (k2 : Nat), gcL h (I1 k2) [a0, a1, (.int .i64 0)] h ∧
∀ k4 : Nat, ∀ x5 : Value, ∀ x6 : Value, ∀ x7 : Value, ∀ h8, I1 k4 [x5, x6, x7] h8 →
(oW (lenS x5) fun v9 =>
(oW (binN .lss x7 v9) fun v10 =>
(bW v10
(oW (iaS 1 x5 x7) fun v11 =>
(oW (ldW false 1 h8 v11) fun v12 =>
(oW (binN .eql v12 x6) fun v13 =>
(bW v13
(gcV h Q (.bool true) h8)
(oW (binN .add x7 (.int .i64 1)) fun v14 =>
(∃ m3, m3 < k4 ∧ gcL h (I1 m3) [x5, x6, v14] h8))))))
(gcV h Q (.bool false) h8)))))
theorem W_homographref06_has_eq (a0 a1 : Value) (h : Heap) (Q : Value → Heap → Prop) : fW Try.prog ⟨[(2, [0, 1, 5])], []⟩ Try.f68 [a0, a1] h Q = W_homographref06_has a0 a1 h Q := by kernel_rfl
theorem W_homographref06_has_ok {a0 a1 : Value} {h : Heap} {Q : Value → Heap → Prop} (e : W_homographref06_has a0 a1 h Q) : acall Try.prog F_homographref06_has [a0, a1] h Q :=
  by refine acall_of_fW mixed ⟨[(2, [0, 1, 5])], []⟩ Try.func68 (by kernel_rfl) ?_; rw [W_homographref06_has_eq]; exact e

/-- homograph/homographref01.Has: loops {}; joins {} -/
def W_homographref01_Has (a0 a1 : Value) (h : Heap) (Q : Value → Heap → Prop) : Prop :=
(hW (boxA h a0) fun v1 h2 =>
(oW (binN .quo a1 (.int .u8 64)) fun v3 =>
(oW (iaA 4 1 v1 v3) fun v4 =>
(oW (ldW false 1 h2 v4) fun v5 =>
(oW (binN .rem a1 (.int .u8 64)) fun v6 =>
(oW (binN .shr v5 v6) fun v7 =>
(oW (binN .and v7 (.int .u64 1)) fun v8 =>
(oW (binN .eql v8 (.int .u64 1)) fun v9 =>
(gcV h Q v9 h2)))))))))
theorem W_homographref01_Has_eq (a0 a1 : Value) (h : Heap) (Q : Value → Heap → Prop) : fW Try.prog ⟨[], []⟩ Try.f69 [a0, a1] h Q = W_homographref01_Has a0 a1 h Q := by kernel_rfl
theorem W_homographref01_Has_ok {a0 a1 : Value} {h : Heap} {Q : Value → Heap → Prop} (e : W_homographref01_Has a0 a1 h Q) : acall Try.prog F_homographref01_Has [a0, a1] h Q :=
  by refine acall_of_fW mixed ⟨[], []⟩ Try.func69 (by kernel_rfl) ?_; rw [W_homographref01_Has_eq]; exact e

/-- slices.Contains[[]int,int]: loops {}; joins {} -/
def W_slices_Contains_int_int (a0 a1 : Value) (h : Heap) (Q : Value → Heap → Prop) : Prop :=
(callW Try.prog (fn F_slices_Index_int_int) [a0, a1] h fun v1 h2 =>
(oW (binN .geq v1 (.int .i64 0)) fun v3 =>
(gcV h Q v3 h2)))
theorem W_slices_Contains_int_int_eq (a0 a1 : Value) (h : Heap) (Q : Value → Heap → Prop) : fW Try.prog ⟨[], []⟩ Try.f70 [a0, a1] h Q = W_slices_Contains_int_int a0 a1 h Q := by kernel_rfl
theorem W_slices_Contains_int_int_ok {a0 a1 : Value} {h : Heap} {Q : Value → Heap → Prop} (e : W_slices_Contains_int_int a0 a1 h Q) : acall Try.prog F_slices_Contains_int_int [a0, a1] h Q :=
  by refine acall_of_fW mixed ⟨[], []⟩ Try.func70 (by kernel_rfl) ?_; rw [W_slices_Contains_int_int_eq]; exact e

/-- homograph/homographref04.Ends: loops {8: [8, 9, 10]}; joins {} -/
def W_homographref04_Ends (a0 a1 a2 : Value) (h : Heap) (Q : Value → Heap → Prop) : Prop :=
(hW (boxA h a0) fun v1 h2 =>
(oW (binN .lss a2 (.int .i64 0)) fun v3 =>
(bW v3
(bW (.bool true)
(gcV h Q (.slice none 0 0) h2)
(oW (lenStr a1) fun v4 =>
(oW (binN .add v4 (.int .i64 1)) fun v5 =>
(hW (mksW [(.bool false)] 1 h2 v5 v5) fun v6 h7 =>
(oW (iaS 1 v6 a2) fun v8 =>
(sW (stW 1 h7 v8 (.bool true)) fun h9 =>
(oW (ldW true 8 h9 v1) fun v10 =>
(callW Try.prog (fn F_homographref04_from) [v10, a1, v6] h9 fun v11 h12 =>
(∃ (I13 : Nat → List Value → Heap → Prop) (k14 : Nat), gcL h (I13 k14) [v11, (.slice none 0 0), (.int .i64 0)] h12 ∧
∀ k16 : Nat, ∀ x17 : Value, ∀ x18 : Value, ∀ x19 : Value, ∀ h20, I13 k16 [x17, x18, x19] h20 →
(oW (lenS x17) fun v21 =>
(oW (binN .lss x19 v21) fun v22 =>
(bW v22
(oW (iaS 1 x17 x19) fun v23 =>
(oW (ldW false 1 h20 v23) fun v24 =>
(bW v24
(hW (bslW h20 1 [(.int .i64 0)] [(0, 1, x19)]) fun v25 h26 =>
(hW (apW 1 8 h26 x18 v25) fun v27 h28 =>
(oW (binN .add x19 (.int .i64 1)) fun v29 =>
(∃ m15, m15 < k16 ∧ gcL h (I13 m15) [x17, v27, v29] h28))))
(oW (binN .add x19 (.int .i64 1)) fun v30 =>
(∃ m15, m15 < k16 ∧ gcL h (I13 m15) [x17, x18, v30] h20)))))
(gcV h Q x18 h20)))))))))))))
(oW (lenStr a1) fun v31 =>
(oW (binN .gtr a2 v31) fun v32 =>
(bW v32
(gcV h Q (.slice none 0 0) h2)
(oW (lenStr a1) fun v33 =>
(oW (binN .add v33 (.int .i64 1)) fun v34 =>
(hW (mksW [(.bool false)] 1 h2 v34 v34) fun v35 h36 =>
(oW (iaS 1 v35 a2) fun v37 =>
(sW (stW 1 h36 v37 (.bool true)) fun h38 =>
(oW (ldW true 8 h38 v1) fun v39 =>
(callW Try.prog (fn F_homographref04_from) [v39, a1, v35] h38 fun v40 h41 =>
(∃ (I42 : Nat → List Value → Heap → Prop) (k43 : Nat), gcL h (I42 k43) [v40, (.slice none 0 0), (.int .i64 0)] h41 ∧
∀ k45 : Nat, ∀ x46 : Value, ∀ x47 : Value, ∀ x48 : Value, ∀ h49, I42 k45 [x46, x47, x48] h49 →
(oW (lenS x46) fun v50 =>
(oW (binN .lss x48 v50) fun v51 =>
(bW v51
(oW (iaS 1 x46 x48) fun v52 =>
(oW (ldW false 1 h49 v52) fun v53 =>
(bW v53
(hW (bslW h49 1 [(.int .i64 0)] [(0, 1, x48)]) fun v54 h55 =>
(hW (apW 1 8 h55 x47 v54) fun v56 h57 =>
(oW (binN .add x48 (.int .i64 1)) fun v58 =>
(∃ m44, m44 < k45 ∧ gcL h (I42 m44) [x46, v56, v58] h57))))
(oW (binN .add x48 (.int .i64 1)) fun v59 =>
(∃ m44, m44 < k45 ∧ gcL h (I42 m44) [x46, x47, v59] h49)))))
(gcV h Q x47 h49))))))))))))))))))
theorem W_homographref04_Ends_eq (a0 a1 a2 : Value) (h : Heap) (Q : Value → Heap → Prop) : fW Try.prog ⟨[(8, [8, 9, 10])], []⟩ Try.f71 [a0, a1, a2] h Q = W_homographref04_Ends a0 a1 a2 h Q := by kernel_rfl
theorem W_homographref04_Ends_ok {a0 a1 a2 : Value} {h : Heap} {Q : Value → Heap → Prop} (e : W_homographref04_Ends a0 a1 a2 h Q) : acall Try.prog F_homographref04_Ends [a0, a1, a2] h Q :=
  by refine acall_of_fW mixed ⟨[(8, [8, 9, 10])], []⟩ Try.func71 (by kernel_rfl) ?_; rw [W_homographref04_Ends_eq]; exact e

/-- homograph/homographref01.With: loops {}; joins {} -/
def W_homographref01_With (a0 a1 : Value) (h : Heap) (Q : Value → Heap → Prop) : Prop :=
(hW (boxA h a0) fun v1 h2 =>
(letH (h2 ++ [.row [(.int .u64 0), (.int .u64 0), (.int .u64 0), (.int .u64 0)] .exact]) fun h3 =>
(oW (binN .quo a1 (.int .u8 64)) fun v4 =>
(oW (iaA 4 1 v1 v4) fun v5 =>
(oW (ldW false 1 h3 v5) fun v6 =>
(oW (binN .rem a1 (.int .u8 64)) fun v7 =>
(oW (binN .shl (.int .u64 1) v7) fun v8 =>
(oW (binN .or v6 v8) fun v9 =>
(oW (iaA 4 1 v1 v4) fun v10 =>
(sW (stW 1 h3 v10 v9) fun h11 =>
(oW (ldW true 4 h11 v1) fun v12 =>
(sW (stW 4 h11 (.pointer (some ⟨h2.length, 0, none⟩)) v12) fun h13 =>
(oW (ldP true 4 h13 (.pointer (some ⟨h2.length, 0, none⟩))) fun v14 =>
(gcV h Q v14 h13))))))))))))))
theorem W_homographref01_With_eq (a0 a1 : Value) (h : Heap) (Q : Value → Heap → Prop) : fW Try.prog ⟨[], []⟩ Try.f97 [a0, a1] h Q = W_homographref01_With a0 a1 h Q := by kernel_rfl
theorem W_homographref01_With_ok {a0 a1 : Value} {h : Heap} {Q : Value → Heap → Prop} (e : W_homographref01_With a0 a1 h Q) : acall Try.prog F_homographref01_With [a0, a1] h Q :=
  by refine acall_of_fW mixed ⟨[], []⟩ Try.func97 (by kernel_rfl) ?_; rw [W_homographref01_With_eq]; exact e

/-- homograph/regex.shallow: loops {}; joins {} -/
def W_regex_shallow (a0 a1 : Value) (h : Heap) (Q : Value → Heap → Prop) : Prop :=
(hW (boxA h a0) fun v1 h2 =>
(hW (boxA h2 a1) fun v3 h4 =>
(oW (ldW false 1 h4 v3) fun v5 =>
(oW (binN .gtr v5 (.int .i64 0)) fun v6 =>
(bW v6
(oW (ldW true 8 h4 v1) fun v7 =>
(callW Try.prog (fn F_regex_counts) [v7] h4 fun v8 h9 =>
(bW v8
(oW (faW 7 1 v1) fun v10 =>
(oW (ldW false 1 h9 v10) fun v11 =>
(callW Try.prog (fn F_slices_ContainsFunc_api_Node_api_Node) [v11, (.func (.func F_regex_shallow_D1) #[] #[v3])] h9 fun v12 h13 =>
(oW (unA .not v12) fun v14 =>
(gcV h Q v14 h13)))))
(gcV h Q (.bool false) h9))))
(gcV h Q (.bool false) h4))))))
theorem W_regex_shallow_eq (a0 a1 : Value) (h : Heap) (Q : Value → Heap → Prop) : fW Try.prog ⟨[], []⟩ Try.f98 [a0, a1] h Q = W_regex_shallow a0 a1 h Q := by kernel_rfl
theorem W_regex_shallow_ok {a0 a1 : Value} {h : Heap} {Q : Value → Heap → Prop} (e : W_regex_shallow a0 a1 h Q) : acall Try.prog F_regex_shallow [a0, a1] h Q :=
  by refine acall_of_fW mixed ⟨[], []⟩ Try.func98 (by kernel_rfl) ?_; rw [W_regex_shallow_eq]; exact e

/-- slices.ContainsFunc[[]homograph/api.Node,homograph/api.Node]: loops {}; joins {} -/
def W_slices_ContainsFunc_api_Node_api_Node (a0 a1 : Value) (h : Heap) (Q : Value → Heap → Prop) : Prop :=
(callW Try.prog (fn F_slices_IndexFunc_api_Node_api_Node) [a0, a1] h fun v1 h2 =>
(oW (binN .geq v1 (.int .i64 0)) fun v3 =>
(gcV h Q v3 h2)))
theorem W_slices_ContainsFunc_api_Node_api_Node_eq (a0 a1 : Value) (h : Heap) (Q : Value → Heap → Prop) : fW Try.prog ⟨[], []⟩ Try.f99 [a0, a1] h Q = W_slices_ContainsFunc_api_Node_api_Node a0 a1 h Q := by kernel_rfl
theorem W_slices_ContainsFunc_api_Node_api_Node_ok {a0 a1 : Value} {h : Heap} {Q : Value → Heap → Prop} (e : W_slices_ContainsFunc_api_Node_api_Node a0 a1 h Q) : acall Try.prog F_slices_ContainsFunc_api_Node_api_Node [a0, a1] h Q :=
  by refine acall_of_fW mixed ⟨[], []⟩ Try.func99 (by kernel_rfl) ?_; rw [W_slices_ContainsFunc_api_Node_api_Node_eq]; exact e

/-- homograph/nfa.plain$1: loops {}; joins {} -/
def W_nfa_plain_D1 (a0 : Value) (h : Heap) (Q : Value → Heap → Prop) : Prop :=
(hW (boxA h a0) fun v1 h2 =>
(oW (ldW true 8 h2 v1) fun v3 =>
(callW Try.prog (fn F_nfa_plain) [v3] h2 fun v4 h5 =>
(oW (unA .not v4) fun v6 =>
(gcV h Q v6 h5)))))
theorem W_nfa_plain_D1_eq (a0 : Value) (h : Heap) (Q : Value → Heap → Prop) : fW Try.prog ⟨[], []⟩ Try.f100 [a0] h Q = W_nfa_plain_D1 a0 h Q := by kernel_rfl
theorem W_nfa_plain_D1_ok {a0 : Value} {h : Heap} {Q : Value → Heap → Prop} (e : W_nfa_plain_D1 a0 h Q) : acall Try.prog F_nfa_plain_D1 [a0] h Q :=
  by refine acall_of_fW mixed ⟨[], []⟩ Try.func100 (by kernel_rfl) ?_; rw [W_nfa_plain_D1_eq]; exact e

/-- (*homograph/nfa.builder).piece$1: loops {}; joins {} -/
def W_nfa_builder_piece_D1 (a0 a1 a2 : Value) (h : Heap) (Q : Value → Heap → Prop) : Prop :=
(hW (boxA h a0) fun v1 h2 =>
(oW (ldW false 1 h2 a1) fun v3 =>
(oW (ldW true 8 h2 v1) fun v4 =>
(callW Try.prog (fn F_nfa_builder_piece) [v3, v4] h2 fun v5 h6 =>
(oW (extractA v5 0) fun v7 =>
(oW (extractA v5 1) fun v8 =>
(oW (ldW false 1 h6 a1) fun v9 =>
(oW (ldW false 1 h6 a2) fun v10 =>
(callW Try.prog (fn F_nfa_builder_eps) [v9, v10, v7] h6 fun v11 h12 =>
(sW (stW 1 h12 a2 v8) fun h13 =>
(gcV h Q (.tuple #[v7, v8]) h13)))))))))))
theorem W_nfa_builder_piece_D1_eq (a0 a1 a2 : Value) (h : Heap) (Q : Value → Heap → Prop) : fW Try.prog ⟨[], []⟩ Try.f101 [a0, a1, a2] h Q = W_nfa_builder_piece_D1 a0 a1 a2 h Q := by kernel_rfl
theorem W_nfa_builder_piece_D1_ok {a0 a1 a2 : Value} {h : Heap} {Q : Value → Heap → Prop} (e : W_nfa_builder_piece_D1 a0 a1 a2 h Q) : acall Try.prog F_nfa_builder_piece_D1 [a0, a1, a2] h Q :=
  by refine acall_of_fW mixed ⟨[], []⟩ Try.func101 (by kernel_rfl) ?_; rw [W_nfa_builder_piece_D1_eq]; exact e

/-- (*homograph/nfa.builder).eps: loops {}; joins {} -/
def W_nfa_builder_eps (a0 a1 a2 : Value) (h : Heap) (Q : Value → Heap → Prop) : Prop :=
(oW (nilCheckA a0) fun v1 =>
(oW (faW 0 5 v1) fun v2 =>
(oW (faW 1 1 v2) fun v3 =>
(oW (ldW false 1 h v3) fun v4 =>
(oW (bldW [(.int .i64 0), (.int .i64 0)] [(0, 1, a1), (1, 1, a2)]) fun v5 =>
(hW (bslW h 1 [(.int .i64 0), (.int .i64 0)] [(0, 2, v5)]) fun v6 h7 =>
(hW (apW 2 16 h7 v4 v6) fun v8 h9 =>
(oW (nilCheckA a0) fun v10 =>
(oW (faW 0 5 v10) fun v11 =>
(oW (faW 1 1 v11) fun v12 =>
(sW (stW 1 h9 v12 v8) fun h13 =>
(gcV h Q (.tuple #[]) h13))))))))))))
theorem W_nfa_builder_eps_eq (a0 a1 a2 : Value) (h : Heap) (Q : Value → Heap → Prop) : fW Try.prog ⟨[], []⟩ Try.f102 [a0, a1, a2] h Q = W_nfa_builder_eps a0 a1 a2 h Q := by kernel_rfl
theorem W_nfa_builder_eps_ok {a0 a1 a2 : Value} {h : Heap} {Q : Value → Heap → Prop} (e : W_nfa_builder_eps a0 a1 a2 h Q) : acall Try.prog F_nfa_builder_eps [a0, a1, a2] h Q :=
  by refine acall_of_fW mixed ⟨[], []⟩ Try.func102 (by kernel_rfl) ?_; rw [W_nfa_builder_eps_eq]; exact e

/-- (*homograph/nfa.builder).again: loops {13: [0, 2, 3, 4, 10, 53, 54], 3: [0, 2, 3, 4, 6, 10, 19, 20]}; joins {} -/
def W_nfa_builder_again (a0 a1 a2 a3 a4 : Value) (h : Heap) (Q : Value → Heap → Prop) : Prop :=
(hW (boxA h a1) fun v1 h2 =>
(oW (faW 7 1 v1) fun v3 =>
(oW (ldW false 1 h2 v3) fun v4 =>
(oW (iaS 8 v4 (.int .i64 0)) fun v5 =>
(oW (ldW true 8 h2 v5) fun v6 =>
(letH (h2 ++ [.row [(.int .i64 0), (.int .u64 0), (.int .u64 0), (.int .u64 0), (.int .u64 0), (.int .i64 0), (.int .i64 0), (.slice none 0 0)] .exact]) fun h7 =>
(sW (stW 8 h7 (.pointer (some ⟨h2.length, 0, none⟩)) v6) fun h8 =>
(oW (faW 5 1 v1) fun v9 =>
(oW (ldW false 1 h8 v9) fun v10 =>
(∃ (I11 : Nat → List Value → Heap → Prop) (k12 : Nat), gcL h (I11 k12) [a0, a2, a3, a4, v1, (.pointer (some ⟨h2.length, 0, none⟩)), v10, (.int .i64 0)] h8 ∧
∀ k14 : Nat, ∀ x15 : Value, ∀ x16 : Value, ∀ x17 : Value, ∀ x18 : Value, ∀ x19 : Value, ∀ x20 : Value, ∀ x21 : Value, ∀ x22 : Value, ∀ h23, I11 k14 [x15, x16, x17, x18, x19, x20, x21, x22] h23 →
(oW (binN .lss x22 x21) fun v24 =>
(bW v24
(oW (ldW true 8 h23 x20) fun v25 =>
(callW Try.prog x18 [v25] h23 fun v26 h27 =>
(oW (binN .add x22 (.int .i64 1)) fun v28 =>
(∃ m13, m13 < k14 ∧ gcL h (I11 m13) [x15, x16, x17, x18, x19, x20, x21, v28] h27))))
(oW (faW 6 1 x19) fun v29 =>
(oW (ldW false 1 h23 v29) fun v30 =>
(oW (binN .lss v30 (.int .i64 0)) fun v31 =>
(bW v31
(oW (nilCheckA x17) fun v32 =>
(oW (ldW false 1 h23 v32) fun v33 =>
(oW (ldW true 8 h23 x20) fun v34 =>
(callW Try.prog x18 [v34] h23 fun v35 h36 =>
(oW (extractA v35 0) fun v37 =>
(oW (extractA v35 1) fun v38 =>
(oW (nilCheckA x17) fun v39 =>
(sW (stW 1 h36 v39 v33) fun h40 =>
(callW Try.prog (fn F_nfa_builder_eps) [x15, v38, v37] h40 fun v41 h42 =>
(callW Try.prog (fn F_nfa_builder_eps) [x15, v38, x16] h42 fun v43 h44 =>
(gcV h Q (.tuple #[]) h44)))))))))))
(oW (faW 6 1 x19) fun v45 =>
(oW (ldW false 1 h23 v45) fun v46 =>
(oW (faW 5 1 x19) fun v47 =>
(oW (ldW false 1 h23 v47) fun v48 =>
(oW (binN .sub v46 v48) fun v49 =>
(∃ (I50 : Nat → List Value → Heap → Prop) (k51 : Nat), gcL h (I50 k51) [x15, x16, x17, x18, x20, v49, (.int .i64 0)] h23 ∧
∀ k53 : Nat, ∀ x54 : Value, ∀ x55 : Value, ∀ x56 : Value, ∀ x57 : Value, ∀ x58 : Value, ∀ x59 : Value, ∀ x60 : Value, ∀ h61, I50 k53 [x54, x55, x56, x57, x58, x59, x60] h61 →
(oW (binN .lss x60 x59) fun v62 =>
(bW v62
(oW (nilCheckA x56) fun v63 =>
(oW (ldW false 1 h61 v63) fun v64 =>
(callW Try.prog (fn F_nfa_builder_eps) [x54, v64, x55] h61 fun v65 h66 =>
(oW (ldW true 8 h66 x58) fun v67 =>
(callW Try.prog x57 [v67] h66 fun v68 h69 =>
(oW (binN .add x60 (.int .i64 1)) fun v70 =>
(∃ m52, m52 < k53 ∧ gcL h (I50 m52) [x54, x55, x56, x57, x58, x59, v70] h69)))))))
(gcV h Q (.tuple #[]) h61)))))))))))))))))))))))))
theorem W_nfa_builder_again_eq (a0 a1 a2 a3 a4 : Value) (h : Heap) (Q : Value → Heap → Prop) : fW Try.prog ⟨[(13, [0, 2, 3, 4, 10, 53, 54]), (3, [0, 2, 3, 4, 6, 10, 19, 20])], []⟩ Try.f103 [a0, a1, a2, a3, a4] h Q = W_nfa_builder_again a0 a1 a2 a3 a4 h Q := by kernel_rfl
theorem W_nfa_builder_again_ok {a0 a1 a2 a3 a4 : Value} {h : Heap} {Q : Value → Heap → Prop} (e : W_nfa_builder_again a0 a1 a2 a3 a4 h Q) : acall Try.prog F_nfa_builder_again [a0, a1, a2, a3, a4] h Q :=
  by refine acall_of_fW mixed ⟨[(13, [0, 2, 3, 4, 10, 53, 54]), (3, [0, 2, 3, 4, 6, 10, 19, 20])], []⟩ Try.func103 (by kernel_rfl) ?_; rw [W_nfa_builder_again_eq]; exact e

/-- homograph/homographref01.Range: loops {3: [1, 4, 5, 6]}; joins {} -/
def W_homographref01_Range (a0 a1 : Value) (h : Heap) (Q : Value → Heap → Prop) : Prop :=
(letH (h ++ [.row [(.int .u64 0), (.int .u64 0), (.int .u64 0), (.int .u64 0)] .exact]) fun h1 =>
(letH (h1 ++ [.row [(.int .u64 0), (.int .u64 0), (.int .u64 0), (.int .u64 0)] .exact]) fun h2 =>
(oW (cvI .i64 a0) fun v3 =>
(∃ (I4 : Nat → List Value → Heap → Prop) (k5 : Nat), gcL h (I4 k5) [a1, (.pointer (some ⟨h.length, 0, none⟩)), (.pointer (some ⟨h1.length, 0, none⟩)), v3] h2 ∧
∀ k7 : Nat, ∀ x8 : Value, ∀ x9 : Value, ∀ x10 : Value, ∀ x11 : Value, ∀ h12, I4 k7 [x8, x9, x10, x11] h12 →
(oW (cvI .i64 x8) fun v13 =>
(oW (binN .leq x11 v13) fun v14 =>
(bW v14
(oW (ldW true 4 h12 x10) fun v15 =>
(oW (cvI .u8 x11) fun v16 =>
(callW Try.prog (fn F_homographref01_With) [v15, v16] h12 fun v17 h18 =>
(sW (stW 4 h18 x10 v17) fun h19 =>
(oW (binN .add x11 (.int .i64 1)) fun v20 =>
(∃ m6, m6 < k7 ∧ gcL h (I4 m6) [x8, x9, x10, v20] h19))))))
(oW (ldW true 4 h12 x10) fun v21 =>
(sW (stW 4 h12 x9 v21) fun h22 =>
(oW (ldP true 4 h22 x9) fun v23 =>
(gcV h Q v23 h22)))))))))))
theorem W_homographref01_Range_eq (a0 a1 : Value) (h : Heap) (Q : Value → Heap → Prop) : fW Try.prog ⟨[(3, [1, 4, 5, 6])], []⟩ Try.f104 [a0, a1] h Q = W_homographref01_Range a0 a1 h Q := by kernel_rfl
theorem W_homographref01_Range_ok {a0 a1 : Value} {h : Heap} {Q : Value → Heap → Prop} (e : W_homographref01_Range a0 a1 h Q) : acall Try.prog F_homographref01_Range [a0, a1] h Q :=
  by refine acall_of_fW mixed ⟨[(3, [1, 4, 5, 6])], []⟩ Try.func104 (by kernel_rfl) ?_; rw [W_homographref01_Range_eq]; exact e

/-- slices.IndexFunc[[]int,int]: loops {2: [0, 1, 7, 8]}; joins {} -/
def W_slices_IndexFunc_int_int (a0 a1 : Value) (h : Heap) (Q : Value → Heap → Prop) : Prop :=
(oW (lenS a0) fun v1 =>
(∃ (I2 : Nat → List Value → Heap → Prop) (k3 : Nat), gcL h (I2 k3) [a0, a1, v1, (.int .i64 0)] h ∧
∀ k5 : Nat, ∀ x6 : Value, ∀ x7 : Value, ∀ x8 : Value, ∀ x9 : Value, ∀ h10, I2 k5 [x6, x7, x8, x9] h10 →
(oW (binN .lss x9 x8) fun v11 =>
(bW v11
(oW (iaS 1 x6 x9) fun v12 =>
(oW (ldW false 1 h10 v12) fun v13 =>
(callW Try.prog x7 [v13] h10 fun v14 h15 =>
(bW v14
(gcV h Q x9 h15)
(oW (binN .add x9 (.int .i64 1)) fun v16 =>
(∃ m4, m4 < k5 ∧ gcL h (I2 m4) [x6, x7, x8, v16] h15))))))
(gcV h Q (.int .i64 (-1)) h10)))))
theorem W_slices_IndexFunc_int_int_eq (a0 a1 : Value) (h : Heap) (Q : Value → Heap → Prop) : fW Try.prog ⟨[(2, [0, 1, 7, 8])], []⟩ Try.f105 [a0, a1] h Q = W_slices_IndexFunc_int_int a0 a1 h Q := by kernel_rfl
theorem W_slices_IndexFunc_int_int_ok {a0 a1 : Value} {h : Heap} {Q : Value → Heap → Prop} (e : W_slices_IndexFunc_int_int a0 a1 h Q) : acall Try.prog F_slices_IndexFunc_int_int [a0, a1] h Q :=
  by refine acall_of_fW mixed ⟨[(2, [0, 1, 7, 8])], []⟩ Try.func105 (by kernel_rfl) ?_; rw [W_slices_IndexFunc_int_int_eq]; exact e

/-- homograph/homographref04.from: loops {25: [1, 2, 3, 7, 11], 5: [1, 2, 3, 7, 8], 12: [1, 3, 7, 9], 18: [1, 2, 3, 7, 10]}; joins {} -/
def W_homographref04_from (a0 a1 a2 : Value) (h : Heap) (Q : Value → Heap → Prop) : Prop :=
(hW (boxA h a0) fun v1 h2 =>
(oW (lenStr a1) fun v3 =>
(oW (binN .add v3 (.int .i64 1)) fun v4 =>
(hW (mksW [(.bool false)] 1 h2 v4 v4) fun v5 h6 =>
(oW (faW 0 1 v1) fun v7 =>
(oW (ldW false 1 h6 v7) fun v8 =>
(oW (binN .eql v8 (.int .i64 0)) fun v9 =>
(bW v9
(∃ (I10 : Nat → List Value → Heap → Prop) (k11 : Nat), gcL h (I10 k11) [a1, a2, v1, v5, (.int .i64 0)] h6 ∧
∀ k13 : Nat, ∀ x14 : Value, ∀ x15 : Value, ∀ x16 : Value, ∀ x17 : Value, ∀ x18 : Value, ∀ h19, I10 k13 [x14, x15, x16, x17, x18] h19 →
(oW (lenStr x14) fun v20 =>
(oW (binN .lss x18 v20) fun v21 =>
(bW v21
(oW (binN .add x18 (.int .i64 1)) fun v22 =>
(oW (iaS 1 x15 x18) fun v23 =>
(oW (ldW false 1 h19 v23) fun v24 =>
(bW v24
(oW (faW 1 4 x16) fun v25 =>
(oW (ldW true 4 h19 v25) fun v26 =>
(oW (ixS x14 x18) fun v27 =>
(callW Try.prog (fn F_homographref01_Has) [v26, v27] h19 fun v28 h29 =>
(keptW [v25, v23] h19 h29 ∧
(oW (iaS 1 x17 v22) fun v30 =>
(sW (stW 1 h29 v30 v28) fun h31 =>
(oW (binN .add x18 (.int .i64 1)) fun v32 =>
(∃ m12, m12 < k13 ∧ gcL h (I10 m12) [x14, x15, x16, x17, v32] h31)))))))))
(oW (iaS 1 x17 v22) fun v33 =>
(sW (stW 1 h19 v33 (.bool false)) fun h34 =>
(oW (binN .add x18 (.int .i64 1)) fun v35 =>
(∃ m12, m12 < k13 ∧ gcL h (I10 m12) [x14, x15, x16, x17, v35] h34))))))))
(gcV h Q x17 h19)))))
(oW (binN .eql v8 (.int .i64 1)) fun v36 =>
(bW v36
(hW (cpW 1 h6 v5 a2) fun v37 h38 =>
(∃ (I39 : Nat → List Value → Heap → Prop) (k40 : Nat), gcL h (I39 k40) [a1, v1, v5, (.int .i64 0)] h38 ∧
∀ k42 : Nat, ∀ x43 : Value, ∀ x44 : Value, ∀ x45 : Value, ∀ x46 : Value, ∀ h47, I39 k42 [x43, x44, x45, x46] h47 →
(oW (faW 7 1 x44) fun v48 =>
(oW (ldW false 1 h47 v48) fun v49 =>
(oW (lenS v49) fun v50 =>
(oW (binN .lss x46 v50) fun v51 =>
(bW v51
(oW (faW 7 1 x44) fun v52 =>
(oW (ldW false 1 h47 v52) fun v53 =>
(oW (iaS 8 v53 x46) fun v54 =>
(oW (ldW true 8 h47 v54) fun v55 =>
(callW Try.prog (fn F_homographref04_from) [v55, x43, x45] h47 fun v56 h57 =>
(oW (binN .add x46 (.int .i64 1)) fun v58 =>
(∃ m41, m41 < k42 ∧ gcL h (I39 m41) [x43, x44, v56, v58] h57)))))))
(gcV h Q x45 h47))))))))
(oW (binN .eql v8 (.int .i64 2)) fun v59 =>
(bW v59
(∃ (I60 : Nat → List Value → Heap → Prop) (k61 : Nat), gcL h (I60 k61) [a1, a2, v1, v5, (.int .i64 0)] h6 ∧
∀ k63 : Nat, ∀ x64 : Value, ∀ x65 : Value, ∀ x66 : Value, ∀ x67 : Value, ∀ x68 : Value, ∀ h69, I60 k63 [x64, x65, x66, x67, x68] h69 →
(oW (faW 7 1 x66) fun v70 =>
(oW (ldW false 1 h69 v70) fun v71 =>
(oW (lenS v71) fun v72 =>
(oW (binN .lss x68 v72) fun v73 =>
(bW v73
(oW (faW 7 1 x66) fun v74 =>
(oW (ldW false 1 h69 v74) fun v75 =>
(oW (iaS 8 v75 x68) fun v76 =>
(oW (ldW true 8 h69 v76) fun v77 =>
(callW Try.prog (fn F_homographref04_from) [v77, x64, x65] h69 fun v78 h79 =>
(callW Try.prog (fn F_homographref04_either) [x67, v78] h79 fun v80 h81 =>
(oW (binN .add x68 (.int .i64 1)) fun v82 =>
(∃ m62, m62 < k63 ∧ gcL h (I60 m62) [x64, x65, x66, v80, v82] h81))))))))
(gcV h Q x67 h69)))))))
(oW (binN .eql v8 (.int .i64 3)) fun v83 =>
(bW v83
(oW (ldW true 8 h6 v1) fun v84 =>
(callW Try.prog (fn F_homographref04_often) [v84, a1, a2] h6 fun v85 h86 =>
(gcV h Q v85 h86)))
(∃ (I87 : Nat → List Value → Heap → Prop) (k88 : Nat), gcL h (I87 k88) [a1, a2, v1, v5, (.int .i64 0)] h6 ∧
∀ k90 : Nat, ∀ x91 : Value, ∀ x92 : Value, ∀ x93 : Value, ∀ x94 : Value, ∀ x95 : Value, ∀ h96, I87 k90 [x91, x92, x93, x94, x95] h96 →
(oW (lenS x92) fun v97 =>
(oW (binN .lss x95 v97) fun v98 =>
(bW v98
(oW (iaS 1 x92 x95) fun v99 =>
(oW (ldW false 1 h96 v99) fun v100 =>
(bW v100
(oW (ldW true 8 h96 x93) fun v101 =>
(callW Try.prog (fn F_homographref04_apart) [v101, x91, x95] h96 fun v102 h103 =>
(callW Try.prog (fn F_homographref04_either) [x94, v102] h103 fun v104 h105 =>
(oW (binN .add x95 (.int .i64 1)) fun v106 =>
(∃ m89, m89 < k90 ∧ gcL h (I87 m89) [x91, x92, x93, v104, v106] h105)))))
(oW (binN .add x95 (.int .i64 1)) fun v107 =>
(∃ m89, m89 < k90 ∧ gcL h (I87 m89) [x91, x92, x93, x94, v107] h96)))))
(gcV h Q x94 h96)))))))))))))))))))
theorem W_homographref04_from_eq (a0 a1 a2 : Value) (h : Heap) (Q : Value → Heap → Prop) : fW Try.prog ⟨[(25, [1, 2, 3, 7, 11]), (5, [1, 2, 3, 7, 8]), (12, [1, 3, 7, 9]), (18, [1, 2, 3, 7, 10])], []⟩ Try.f110 [a0, a1, a2] h Q = W_homographref04_from a0 a1 a2 h Q := by kernel_rfl
theorem W_homographref04_from_ok {a0 a1 a2 : Value} {h : Heap} {Q : Value → Heap → Prop} (e : W_homographref04_from a0 a1 a2 h Q) : acall Try.prog F_homographref04_from [a0, a1, a2] h Q :=
  by refine acall_of_fW mixed ⟨[(25, [1, 2, 3, 7, 11]), (5, [1, 2, 3, 7, 8]), (12, [1, 3, 7, 9]), (18, [1, 2, 3, 7, 10])], []⟩ Try.func110 (by kernel_rfl) ?_; rw [W_homographref04_from_eq]; exact e

/-- homograph/regex.counts: loops {}; joins {7: [1]} -/
def W_regex_counts (a0 : Value) (h : Heap) (Q : Value → Heap → Prop) : Prop :=
(hW (boxA h a0) fun v1 h2 =>
(∃ M3 : List Value → Heap → Prop,
(oW (faW 0 1 v1) fun v4 =>
(oW (ldW false 1 h2 v4) fun v5 =>
(oW (binN .lss v5 (.int .i64 0)) fun v6 =>
(bW v6
(bW (.bool true)
(gcV h Q (.bool false) h2)
(oW (faW 0 1 v1) fun v7 =>
(oW (ldW false 1 h2 v7) fun v8 =>
(oW (binN .eql v8 (.int .i64 0)) fun v9 =>
(bW v9
(oW (faW 7 1 v1) fun v10 =>
(oW (ldW false 1 h2 v10) fun v11 =>
(oW (lenS v11) fun v12 =>
(oW (binN .neq v12 (.int .i64 0)) fun v13 =>
(bW v13
(gcV h Q (.bool false) h2)
(oW (faW 0 1 v1) fun v14 =>
(oW (ldW false 1 h2 v14) fun v15 =>
(oW (binN .eql v15 (.int .i64 3)) fun v16 =>
(bW v16
(oW (faW 7 1 v1) fun v17 =>
(oW (ldW false 1 h2 v17) fun v18 =>
(oW (lenS v18) fun v19 =>
(oW (binN .neq v19 (.int .i64 1)) fun v20 =>
(bW v20
(gcV h Q (.bool false) h2)
(gcL h M3 [v1] h2))))))
(oW (faW 0 1 v1) fun v21 =>
(oW (ldW false 1 h2 v21) fun v22 =>
(oW (binN .eql v22 (.int .i64 5)) fun v23 =>
(bW v23
(oW (faW 7 1 v1) fun v24 =>
(oW (ldW false 1 h2 v24) fun v25 =>
(oW (lenS v25) fun v26 =>
(oW (binN .neq v26 (.int .i64 1)) fun v27 =>
(bW v27
(gcV h Q (.bool false) h2)
(gcL h M3 [v1] h2))))))
(bW (.bool false)
(gcV h Q (.bool false) h2)
(gcL h M3 [v1] h2)))))))))))))))
(bW (.bool false)
(gcV h Q (.bool false) h2)
(oW (faW 0 1 v1) fun v28 =>
(oW (ldW false 1 h2 v28) fun v29 =>
(oW (binN .eql v29 (.int .i64 3)) fun v30 =>
(bW v30
(oW (faW 7 1 v1) fun v31 =>
(oW (ldW false 1 h2 v31) fun v32 =>
(oW (lenS v32) fun v33 =>
(oW (binN .neq v33 (.int .i64 1)) fun v34 =>
(bW v34
(gcV h Q (.bool false) h2)
(gcL h M3 [v1] h2))))))
(oW (faW 0 1 v1) fun v35 =>
(oW (ldW false 1 h2 v35) fun v36 =>
(oW (binN .eql v36 (.int .i64 5)) fun v37 =>
(bW v37
(oW (faW 7 1 v1) fun v38 =>
(oW (ldW false 1 h2 v38) fun v39 =>
(oW (lenS v39) fun v40 =>
(oW (binN .neq v40 (.int .i64 1)) fun v41 =>
(bW v41
(gcV h Q (.bool false) h2)
(gcL h M3 [v1] h2))))))
(bW (.bool false)
(gcV h Q (.bool false) h2)
(gcL h M3 [v1] h2))))))))))))))))
(oW (faW 0 1 v1) fun v42 =>
(oW (ldW false 1 h2 v42) fun v43 =>
(oW (binN .gtr v43 (.int .i64 5)) fun v44 =>
(bW v44
(gcV h Q (.bool false) h2)
(oW (faW 0 1 v1) fun v45 =>
(oW (ldW false 1 h2 v45) fun v46 =>
(oW (binN .eql v46 (.int .i64 0)) fun v47 =>
(bW v47
(oW (faW 7 1 v1) fun v48 =>
(oW (ldW false 1 h2 v48) fun v49 =>
(oW (lenS v49) fun v50 =>
(oW (binN .neq v50 (.int .i64 0)) fun v51 =>
(bW v51
(gcV h Q (.bool false) h2)
(oW (faW 0 1 v1) fun v52 =>
(oW (ldW false 1 h2 v52) fun v53 =>
(oW (binN .eql v53 (.int .i64 3)) fun v54 =>
(bW v54
(oW (faW 7 1 v1) fun v55 =>
(oW (ldW false 1 h2 v55) fun v56 =>
(oW (lenS v56) fun v57 =>
(oW (binN .neq v57 (.int .i64 1)) fun v58 =>
(bW v58
(gcV h Q (.bool false) h2)
(gcL h M3 [v1] h2))))))
(oW (faW 0 1 v1) fun v59 =>
(oW (ldW false 1 h2 v59) fun v60 =>
(oW (binN .eql v60 (.int .i64 5)) fun v61 =>
(bW v61
(oW (faW 7 1 v1) fun v62 =>
(oW (ldW false 1 h2 v62) fun v63 =>
(oW (lenS v63) fun v64 =>
(oW (binN .neq v64 (.int .i64 1)) fun v65 =>
(bW v65
(gcV h Q (.bool false) h2)
(gcL h M3 [v1] h2))))))
(bW (.bool false)
(gcV h Q (.bool false) h2)
(gcL h M3 [v1] h2)))))))))))))))
(bW (.bool false)
(gcV h Q (.bool false) h2)
(oW (faW 0 1 v1) fun v66 =>
(oW (ldW false 1 h2 v66) fun v67 =>
(oW (binN .eql v67 (.int .i64 3)) fun v68 =>
(bW v68
(oW (faW 7 1 v1) fun v69 =>
(oW (ldW false 1 h2 v69) fun v70 =>
(oW (lenS v70) fun v71 =>
(oW (binN .neq v71 (.int .i64 1)) fun v72 =>
(bW v72
(gcV h Q (.bool false) h2)
(gcL h M3 [v1] h2))))))
(oW (faW 0 1 v1) fun v73 =>
(oW (ldW false 1 h2 v73) fun v74 =>
(oW (binN .eql v74 (.int .i64 5)) fun v75 =>
(bW v75
(oW (faW 7 1 v1) fun v76 =>
(oW (ldW false 1 h2 v76) fun v77 =>
(oW (lenS v77) fun v78 =>
(oW (binN .neq v78 (.int .i64 1)) fun v79 =>
(bW v79
(gcV h Q (.bool false) h2)
(gcL h M3 [v1] h2))))))
(bW (.bool false)
(gcV h Q (.bool false) h2)
(gcL h M3 [v1] h2))))))))))))))))))))))) ∧
∀ x80 : Value, ∀ h81, M3 [x80] h81 →
(oW (faW 5 1 x80) fun v82 =>
(oW (ldW false 1 h81 v82) fun v83 =>
(oW (binN .geq v83 (.int .i64 0)) fun v84 =>
(bW v84
(oW (faW 5 1 x80) fun v85 =>
(oW (ldW false 1 h81 v85) fun v86 =>
(oW (binN .leq v86 (.int .i64 32)) fun v87 =>
(bW v87
(oW (faW 6 1 x80) fun v88 =>
(oW (ldW false 1 h81 v88) fun v89 =>
(oW (binN .leq v89 (.int .i64 32)) fun v90 =>
(bW v90
(oW (faW 6 1 x80) fun v91 =>
(oW (ldW false 1 h81 v91) fun v92 =>
(oW (binN .lss v92 (.int .i64 0)) fun v93 =>
(bW v93
(gcV h Q (.bool true) h81)
(oW (faW 6 1 x80) fun v94 =>
(oW (ldW false 1 h81 v94) fun v95 =>
(oW (faW 5 1 x80) fun v96 =>
(oW (ldW false 1 h81 v96) fun v97 =>
(oW (binN .geq v95 v97) fun v98 =>
(gcV h Q v98 h81))))))))))
(gcV h Q (.bool false) h81)))))
(gcV h Q (.bool false) h81)))))
(gcV h Q (.bool false) h81)))))))
theorem W_regex_counts_eq (a0 : Value) (h : Heap) (Q : Value → Heap → Prop) : fW Try.prog ⟨[], [(7, [1])]⟩ Try.f128 [a0] h Q = W_regex_counts a0 h Q := by kernel_rfl
theorem W_regex_counts_ok {a0 : Value} {h : Heap} {Q : Value → Heap → Prop} (e : W_regex_counts a0 h Q) : acall Try.prog F_regex_counts [a0] h Q :=
  by refine acall_of_fW mixed ⟨[], [(7, [1])]⟩ Try.func128 (by kernel_rfl) ?_; rw [W_regex_counts_eq]; exact e

/-- homograph/regex.shallow$1: loops {}; joins {} -/
def W_regex_shallow_D1 (a0 a1 : Value) (h : Heap) (Q : Value → Heap → Prop) : Prop :=
(hW (boxA h a0) fun v1 h2 =>
(oW (ldW true 8 h2 v1) fun v3 =>
(oW (ldW false 1 h2 a1) fun v4 =>
(oW (binN .sub v4 (.int .i64 1)) fun v5 =>
(callW Try.prog (fn F_regex_shallow) [v3, v5] h2 fun v6 h7 =>
(oW (unA .not v6) fun v8 =>
(gcV h Q v8 h7)))))))
theorem W_regex_shallow_D1_eq (a0 a1 : Value) (h : Heap) (Q : Value → Heap → Prop) : fW Try.prog ⟨[], []⟩ Try.f129 [a0, a1] h Q = W_regex_shallow_D1 a0 a1 h Q := by kernel_rfl
theorem W_regex_shallow_D1_ok {a0 a1 : Value} {h : Heap} {Q : Value → Heap → Prop} (e : W_regex_shallow_D1 a0 a1 h Q) : acall Try.prog F_regex_shallow_D1 [a0, a1] h Q :=
  by refine acall_of_fW mixed ⟨[], []⟩ Try.func129 (by kernel_rfl) ?_; rw [W_regex_shallow_D1_eq]; exact e

/-- slices.IndexFunc[[]homograph/api.Node,homograph/api.Node]: loops {2: [0, 1, 7, 8]}; joins {} -/
def W_slices_IndexFunc_api_Node_api_Node (a0 a1 : Value) (h : Heap) (Q : Value → Heap → Prop) : Prop :=
(oW (lenS a0) fun v1 =>
(∃ (I2 : Nat → List Value → Heap → Prop) (k3 : Nat), gcL h (I2 k3) [a0, a1, v1, (.int .i64 0)] h ∧
∀ k5 : Nat, ∀ x6 : Value, ∀ x7 : Value, ∀ x8 : Value, ∀ x9 : Value, ∀ h10, I2 k5 [x6, x7, x8, x9] h10 →
(oW (binN .lss x9 x8) fun v11 =>
(bW v11
(oW (iaS 8 x6 x9) fun v12 =>
(oW (ldW true 8 h10 v12) fun v13 =>
(callW Try.prog x7 [v13] h10 fun v14 h15 =>
(bW v14
(gcV h Q x9 h15)
(oW (binN .add x9 (.int .i64 1)) fun v16 =>
(∃ m4, m4 < k5 ∧ gcL h (I2 m4) [x6, x7, x8, v16] h15))))))
(gcV h Q (.int .i64 (-1)) h10)))))
theorem W_slices_IndexFunc_api_Node_api_Node_eq (a0 a1 : Value) (h : Heap) (Q : Value → Heap → Prop) : fW Try.prog ⟨[(2, [0, 1, 7, 8])], []⟩ Try.f130 [a0, a1] h Q = W_slices_IndexFunc_api_Node_api_Node a0 a1 h Q := by kernel_rfl
theorem W_slices_IndexFunc_api_Node_api_Node_ok {a0 a1 : Value} {h : Heap} {Q : Value → Heap → Prop} (e : W_slices_IndexFunc_api_Node_api_Node a0 a1 h Q) : acall Try.prog F_slices_IndexFunc_api_Node_api_Node [a0, a1] h Q :=
  by refine acall_of_fW mixed ⟨[(2, [0, 1, 7, 8])], []⟩ Try.func130 (by kernel_rfl) ?_; rw [W_slices_IndexFunc_api_Node_api_Node_eq]; exact e

/-- homograph/homographref04.either: loops {3: [0, 1, 5, 6]}; joins {} -/
def W_homographref04_either (a0 a1 : Value) (h : Heap) (Q : Value → Heap → Prop) : Prop :=
(oW (lenS a0) fun v1 =>
(hW (mksW [(.bool false)] 1 h v1 v1) fun v2 h3 =>
(∃ (I4 : Nat → List Value → Heap → Prop) (k5 : Nat), gcL h (I4 k5) [a0, a1, v2, (.int .i64 0)] h3 ∧
∀ k7 : Nat, ∀ x8 : Value, ∀ x9 : Value, ∀ x10 : Value, ∀ x11 : Value, ∀ h12, I4 k7 [x8, x9, x10, x11] h12 →
(oW (lenS x8) fun v13 =>
(oW (binN .lss x11 v13) fun v14 =>
(bW v14
(oW (iaS 1 x8 x11) fun v15 =>
(oW (ldW false 1 h12 v15) fun v16 =>
(bW v16
(oW (iaS 1 x10 x11) fun v17 =>
(sW (stW 1 h12 v17 (.bool true)) fun h18 =>
(oW (binN .add x11 (.int .i64 1)) fun v19 =>
(∃ m6, m6 < k7 ∧ gcL h (I4 m6) [x8, x9, x10, v19] h18))))
(oW (iaS 1 x9 x11) fun v20 =>
(oW (ldW false 1 h12 v20) fun v21 =>
(oW (iaS 1 x10 x11) fun v22 =>
(sW (stW 1 h12 v22 v21) fun h23 =>
(oW (binN .add x11 (.int .i64 1)) fun v24 =>
(∃ m6, m6 < k7 ∧ gcL h (I4 m6) [x8, x9, x10, v24] h23)))))))))
(gcV h Q x10 h12)))))))
theorem W_homographref04_either_eq (a0 a1 : Value) (h : Heap) (Q : Value → Heap → Prop) : fW Try.prog ⟨[(3, [0, 1, 5, 6])], []⟩ Try.f134 [a0, a1] h Q = W_homographref04_either a0 a1 h Q := by kernel_rfl
theorem W_homographref04_either_ok {a0 a1 : Value} {h : Heap} {Q : Value → Heap → Prop} (e : W_homographref04_either a0 a1 h Q) : acall Try.prog F_homographref04_either [a0, a1] h Q :=
  by refine acall_of_fW mixed ⟨[(3, [0, 1, 5, 6])], []⟩ Try.func134 (by kernel_rfl) ?_; rw [W_homographref04_either_eq]; exact e

/-- homograph/homographref04.often: loops {11: [1, 3, 7, 9, 10, 11], 3: [1, 3, 7, 8]}; joins {} -/
def W_homographref04_often (a0 a1 a2 : Value) (h : Heap) (Q : Value → Heap → Prop) : Prop :=
(hW (boxA h a0) fun v1 h2 =>
(callW Try.prog (fn F_homographref04_either) [a2, a2] h2 fun v3 h4 =>
(∃ (I5 : Nat → List Value → Heap → Prop) (k6 : Nat), gcL h (I5 k6) [a1, v1, v3, (.int .i64 0)] h4 ∧
∀ k8 : Nat, ∀ x9 : Value, ∀ x10 : Value, ∀ x11 : Value, ∀ x12 : Value, ∀ h13, I5 k8 [x9, x10, x11, x12] h13 →
(oW (faW 5 1 x10) fun v14 =>
(oW (ldW false 1 h13 v14) fun v15 =>
(oW (binN .lss x12 v15) fun v16 =>
(bW v16
(oW (faW 7 1 x10) fun v17 =>
(oW (ldW false 1 h13 v17) fun v18 =>
(oW (iaS 8 v18 (.int .i64 0)) fun v19 =>
(oW (ldW true 8 h13 v19) fun v20 =>
(callW Try.prog (fn F_homographref04_from) [v20, x9, x11] h13 fun v21 h22 =>
(oW (binN .add x12 (.int .i64 1)) fun v23 =>
(∃ m7, m7 < k8 ∧ gcL h (I5 m7) [x9, x10, v21, v23] h22)))))))
(oW (faW 6 1 x10) fun v24 =>
(oW (ldW false 1 h13 v24) fun v25 =>
(oW (faW 5 1 x10) fun v26 =>
(oW (ldW false 1 h13 v26) fun v27 =>
(oW (binN .sub v25 v27) fun v28 =>
(oW (faW 6 1 x10) fun v29 =>
(oW (ldW false 1 h13 v29) fun v30 =>
(oW (binN .lss v30 (.int .i64 0)) fun v31 =>
(bW v31
(oW (lenStr x9) fun v32 =>
(oW (binN .add v32 (.int .i64 1)) fun v33 =>
(∃ (I34 : Nat → List Value → Heap → Prop) (k35 : Nat), gcL h (I34 k35) [x9, x10, x11, x11, v33, (.int .i64 0)] h13 ∧
∀ k37 : Nat, ∀ x38 : Value, ∀ x39 : Value, ∀ x40 : Value, ∀ x41 : Value, ∀ x42 : Value, ∀ x43 : Value, ∀ h44, I34 k37 [x38, x39, x40, x41, x42, x43] h44 →
(oW (binN .lss x43 x42) fun v45 =>
(bW v45
(oW (faW 7 1 x39) fun v46 =>
(oW (ldW false 1 h44 v46) fun v47 =>
(oW (iaS 8 v47 (.int .i64 0)) fun v48 =>
(oW (ldW true 8 h44 v48) fun v49 =>
(callW Try.prog (fn F_homographref04_from) [v49, x38, x40] h44 fun v50 h51 =>
(callW Try.prog (fn F_homographref04_either) [x41, v50] h51 fun v52 h53 =>
(oW (binN .add x43 (.int .i64 1)) fun v54 =>
(∃ m36, m36 < k37 ∧ gcL h (I34 m36) [x38, x39, v50, v52, x42, v54] h53))))))))
(gcV h Q x41 h44))))))
(∃ (I55 : Nat → List Value → Heap → Prop) (k56 : Nat), gcL h (I55 k56) [x9, x10, x11, x11, v28, (.int .i64 0)] h13 ∧
∀ k58 : Nat, ∀ x59 : Value, ∀ x60 : Value, ∀ x61 : Value, ∀ x62 : Value, ∀ x63 : Value, ∀ x64 : Value, ∀ h65, I55 k58 [x59, x60, x61, x62, x63, x64] h65 →
(oW (binN .lss x64 x63) fun v66 =>
(bW v66
(oW (faW 7 1 x60) fun v67 =>
(oW (ldW false 1 h65 v67) fun v68 =>
(oW (iaS 8 v68 (.int .i64 0)) fun v69 =>
(oW (ldW true 8 h65 v69) fun v70 =>
(callW Try.prog (fn F_homographref04_from) [v70, x59, x61] h65 fun v71 h72 =>
(callW Try.prog (fn F_homographref04_either) [x62, v71] h72 fun v73 h74 =>
(oW (binN .add x64 (.int .i64 1)) fun v75 =>
(∃ m57, m57 < k58 ∧ gcL h (I55 m57) [x59, x60, v71, v73, x63, v75] h74))))))))
(gcV h Q x62 h65))))))))))))))))))))
theorem W_homographref04_often_eq (a0 a1 a2 : Value) (h : Heap) (Q : Value → Heap → Prop) : fW Try.prog ⟨[(11, [1, 3, 7, 9, 10, 11]), (3, [1, 3, 7, 8])], []⟩ Try.f135 [a0, a1, a2] h Q = W_homographref04_often a0 a1 a2 h Q := by kernel_rfl
theorem W_homographref04_often_ok {a0 a1 a2 : Value} {h : Heap} {Q : Value → Heap → Prop} (e : W_homographref04_often a0 a1 a2 h Q) : acall Try.prog F_homographref04_often [a0, a1, a2] h Q :=
  by refine acall_of_fW mixed ⟨[(11, [1, 3, 7, 9, 10, 11]), (3, [1, 3, 7, 8])], []⟩ Try.func135 (by kernel_rfl) ?_; rw [W_homographref04_often_eq]; exact e

/-- homograph/homographref04.apart: loops {13: [1, 2, 3, 7, 8, 10, 11, 12], 9: [1, 2, 3, 7, 8, 10], 5: [1, 2, 3, 7, 8, 9]}; joins {} -/
def W_homographref04_apart (a0 a1 a2 : Value) (h : Heap) (Q : Value → Heap → Prop) : Prop :=
(hW (boxA h a0) fun v1 h2 =>
(oW (lenStr a1) fun v3 =>
(oW (binN .add v3 (.int .i64 1)) fun v4 =>
(hW (mksW [(.bool false)] 1 h2 v4 v4) fun v5 h6 =>
(oW (iaS 1 v5 a2) fun v7 =>
(sW (stW 1 h6 v7 (.bool true)) fun h8 =>
(oW (lenStr a1) fun v9 =>
(oW (binN .add v9 (.int .i64 1)) fun v10 =>
(hW (mksW [(.bool false)] 1 h8 v10 v10) fun v11 h12 =>
(∃ (I13 : Nat → List Value → Heap → Prop) (k14 : Nat), gcL h (I13 k14) [a1, a2, v1, v5, v11, a2] h12 ∧
∀ k16 : Nat, ∀ x17 : Value, ∀ x18 : Value, ∀ x19 : Value, ∀ x20 : Value, ∀ x21 : Value, ∀ x22 : Value, ∀ h23, I13 k16 [x17, x18, x19, x20, x21, x22] h23 →
(oW (lenS x21) fun v24 =>
(oW (binN .lss x22 v24) fun v25 =>
(bW v25
(oW (iaS 1 x21 x22) fun v26 =>
(sW (stW 1 h23 v26 (.bool true)) fun h27 =>
(oW (binN .add x22 (.int .i64 1)) fun v28 =>
(∃ m15, m15 < k16 ∧ gcL h (I13 m15) [x17, x18, x19, x20, x21, v28] h27))))
(∃ (I29 : Nat → List Value → Heap → Prop) (k30 : Nat), gcL h (I29 k30) [x17, x18, x19, x20, x21, (.int .i64 0)] h23 ∧
∀ k32 : Nat, ∀ x33 : Value, ∀ x34 : Value, ∀ x35 : Value, ∀ x36 : Value, ∀ x37 : Value, ∀ x38 : Value, ∀ h39, I29 k32 [x33, x34, x35, x36, x37, x38] h39 →
(oW (faW 7 1 x35) fun v40 =>
(oW (ldW false 1 h39 v40) fun v41 =>
(oW (lenS v41) fun v42 =>
(oW (binN .lss x38 v42) fun v43 =>
(bW v43
(oW (faW 7 1 x35) fun v44 =>
(oW (ldW false 1 h39 v44) fun v45 =>
(oW (iaS 8 v45 x38) fun v46 =>
(oW (ldW true 8 h39 v46) fun v47 =>
(callW Try.prog (fn F_homographref04_from) [v47, x33, x36] h39 fun v48 h49 =>
(∃ (I50 : Nat → List Value → Heap → Prop) (k51 : Nat), gcL h (I50 k51) [x33, x34, x35, x36, x37, x38, v48, x34] h49 ∧
∀ k53 : Nat, ∀ x54 : Value, ∀ x55 : Value, ∀ x56 : Value, ∀ x57 : Value, ∀ x58 : Value, ∀ x59 : Value, ∀ x60 : Value, ∀ x61 : Value, ∀ h62, I50 k53 [x54, x55, x56, x57, x58, x59, x60, x61] h62 →
(oW (lenS x58) fun v63 =>
(oW (binN .lss x61 v63) fun v64 =>
(bW v64
(oW (faW 0 1 x56) fun v65 =>
(oW (ldW false 1 h62 v65) fun v66 =>
(oW (binN .eql v66 (.int .i64 5)) fun v67 =>
(bW v67
(oW (iaS 1 x60 x61) fun v68 =>
(oW (ldW false 1 h62 v68) fun v69 =>
(oW (unA .not v69) fun v70 =>
(oW (iaS 1 x58 x61) fun v71 =>
(sW (stW 1 h62 v71 v70) fun h72 =>
(oW (binN .add x61 (.int .i64 1)) fun v73 =>
(∃ m52, m52 < k53 ∧ gcL h (I50 m52) [x54, x55, x56, x57, x58, x59, x60, v73] h72)))))))
(oW (iaS 1 x58 x61) fun v74 =>
(oW (ldW false 1 h62 v74) fun v75 =>
(bW v75
(oW (iaS 1 x60 x61) fun v76 =>
(oW (ldW false 1 h62 v76) fun v77 =>
(oW (iaS 1 x58 x61) fun v78 =>
(sW (stW 1 h62 v78 v77) fun h79 =>
(oW (binN .add x61 (.int .i64 1)) fun v80 =>
(∃ m52, m52 < k53 ∧ gcL h (I50 m52) [x54, x55, x56, x57, x58, x59, x60, v80] h79))))))
(oW (iaS 1 x58 x61) fun v81 =>
(sW (stW 1 h62 v81 (.bool false)) fun h82 =>
(oW (binN .add x61 (.int .i64 1)) fun v83 =>
(∃ m52, m52 < k53 ∧ gcL h (I50 m52) [x54, x55, x56, x57, x58, x59, x60, v83] h82)))))))))))
(oW (binN .add x59 (.int .i64 1)) fun v84 =>
(∃ m31, m31 < k32 ∧ gcL h (I29 m31) [x54, x55, x56, x57, x58, v84] h62)))))))))))
(gcV h Q x37 h39))))))))))))))))))))
theorem W_homographref04_apart_eq (a0 a1 a2 : Value) (h : Heap) (Q : Value → Heap → Prop) : fW Try.prog ⟨[(13, [1, 2, 3, 7, 8, 10, 11, 12]), (9, [1, 2, 3, 7, 8, 10]), (5, [1, 2, 3, 7, 8, 9])], []⟩ Try.f136 [a0, a1, a2] h Q = W_homographref04_apart a0 a1 a2 h Q := by kernel_rfl
theorem W_homographref04_apart_ok {a0 a1 a2 : Value} {h : Heap} {Q : Value → Heap → Prop} (e : W_homographref04_apart a0 a1 a2 h Q) : acall Try.prog F_homographref04_apart [a0, a1, a2] h Q :=
  by refine acall_of_fW mixed ⟨[(13, [1, 2, 3, 7, 8, 10, 11, 12]), (9, [1, 2, 3, 7, 8, 10]), (5, [1, 2, 3, 7, 8, 9])], []⟩ Try.func136 (by kernel_rfl) ?_; rw [W_homographref04_apart_eq]; exact e

end Go.Ax
