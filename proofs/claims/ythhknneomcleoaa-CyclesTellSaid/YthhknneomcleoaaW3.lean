/- The small words of functions that the laws reach. -/
import Derived.Test.YthhknneomcleoaaW1
import Derived.Test.YthhknneomcleoaaW2
namespace Go.Ax
open Go Go.Proofs

abbrev F_homographlaw17_SetsFollow : FuncId := 8
abbrev F_homographlaw17_SetsAgree : FuncId := 9
abbrev F_homographlaw17_SetsMore : FuncId := 10
abbrev F_homographlaw17_awake : FuncId := 24
abbrev F_homographlaw17_made : FuncId := 25
abbrev F_homographref16_Make : FuncId := 26
abbrev F_homographref17_Bools : FuncId := 27
abbrev F_sets_Nullable : FuncId := 28
abbrev F_homographref17_Nullable : FuncId := 29
abbrev F_sets_Reached : FuncId := 30
abbrev F_homographref17_Reached : FuncId := 31
abbrev F_sets_Productive : FuncId := 32
abbrev F_homographref17_Productive : FuncId := 33
abbrev F_sets_Row : FuncId := 35
abbrev F_homographref17_Row : FuncId := 36
abbrev F_homographref17_Same : FuncId := 37
abbrev F_sets_First : FuncId := 38
abbrev F_homographref17_First : FuncId := 39
abbrev F_sets_Follow : FuncId := 40
abbrev F_homographref17_Follow : FuncId := 41
abbrev F_homographlaw17_within : FuncId := 42
abbrev F_sets_marked : FuncId := 72
abbrev F_homographref17_right : FuncId := 73
abbrev F_sets_right : FuncId := 74
abbrev F_symbols_By : FuncId := 75
abbrev F_sets_viewed : FuncId := 76
abbrev F_sets_view_row : FuncId := 77
abbrev F_maps_Keys_sets_set_int_bool : FuncId := 78
abbrev F_homographref17_row : FuncId := 79
abbrev F_homographref17_firsts : FuncId := 80
abbrev F_homographref17_rising : FuncId := 81
abbrev F_sets_rising : FuncId := 82
abbrev F_sets_until_int : FuncId := 83
abbrev F_sets_Follow_D1 : FuncId := 84
abbrev F_sets_set_add : FuncId := 85
abbrev F_homographref16_Check : FuncId := 90
abbrev F_sets_marked_D1 : FuncId := 111
abbrev F_slices_ContainsFunc_int_int : FuncId := 112
abbrev F_sets_marked_D1_D1 : FuncId := 113
abbrev F_symbols_Check : FuncId := 114
abbrev F_sets_viewed_D1 : FuncId := 115
abbrev F_maps_Keys_sets_set_int_bool_D1 : FuncId := 116
abbrev F_maps_Copy_sets_set_sets_set_int_bool : FuncId := 117
abbrev F_homographref16_made : FuncId := 124
abbrev F_homographref16_By : FuncId := 125
abbrev F_symbols_Grammar_made : FuncId := 137
abbrev F_symbols_Grammar_fits : FuncId := 138
abbrev F_symbols_Grammar_symbol : FuncId := 154
abbrev F_symbols_Grammar_fits_D1 : FuncId := 155

/-- homograph/homographlaw17.SetsFollow: loops {}; joins {} -/
def W_homographlaw17_SetsFollow (a0 a1 : Value) (h : Heap) (Q : Value → Heap → Prop) : Prop :=
(callW Try.prog (fn F_homographlaw17_awake) [] h fun v1 h2 =>
(oW (unA .not v1) fun v3 =>
(bW v3
(gcV h Q (.bool false) h2)
(oW (lenStr a0) fun v4 =>
(oW (binN .gtr v4 (.int .i64 80)) fun v5 =>
(bW v5
(bW (.bool true)
(gcV h Q (.bool true) h2)
(callW Try.prog (fn F_homographlaw17_made) [a0] h2 fun v6 h7 =>
(letH (h7 ++ [.row [(.slice none 0 0), (.int .i64 0), (.slice none 0 0), (.slice none 0 0), (.int .i64 0)] .exact]) fun h8 =>
(sW (stW 5 h8 (.pointer (some ⟨h7.length, 0, none⟩)) v6) fun h9 =>
(callW Try.prog (fn F_homographref16_Make) [a0] h9 fun v10 h11 =>
(letH (h11 ++ [.row [(.slice none 0 0), (.int .i64 0), (.slice none 0 0), (.slice none 0 0), (.int .i64 0)] .exact]) fun h12 =>
(sW (stW 5 h12 (.pointer (some ⟨h11.length, 0, none⟩)) v10) fun h13 =>
(oW (ldW true 5 h13 (.pointer (some ⟨h7.length, 0, none⟩))) fun v14 =>
(callW Try.prog (fn F_sets_Row) [v14, a1] h13 fun v15 h16 =>
(oW (extractA v15 0) fun v17 =>
(oW (extractA v15 1) fun v18 =>
(oW (ldW true 5 h16 (.pointer (some ⟨h11.length, 0, none⟩))) fun v19 =>
(callW Try.prog (fn F_homographref17_Row) [v19, a1] h16 fun v20 h21 =>
(oW (extractA v20 0) fun v22 =>
(oW (extractA v20 1) fun v23 =>
(oW (ldW true 5 h21 (.pointer (some ⟨h7.length, 0, none⟩))) fun v24 =>
(oW (ldW true 5 h21 (.pointer (some ⟨h11.length, 0, none⟩))) fun v25 =>
(callW Try.prog (fn F_sets_First) [v24] h21 fun v26 h27 =>
(keptW [(.pointer (some ⟨h11.length, 0, none⟩)), (.pointer (some ⟨h7.length, 0, none⟩))] h21 h27 ∧
(callW Try.prog (fn F_homographref17_First) [v25] h27 fun v28 h29 =>
(keptW [(.pointer (some ⟨h11.length, 0, none⟩)), (.pointer (some ⟨h7.length, 0, none⟩))] h27 h29 ∧
(callW Try.prog (fn F_homographref17_Same) [v26, v28] h29 fun v30 h31 =>
(keptW [(.pointer (some ⟨h11.length, 0, none⟩)), (.pointer (some ⟨h7.length, 0, none⟩))] h29 h31 ∧
(bW v30
(oW (ldW true 5 h31 (.pointer (some ⟨h7.length, 0, none⟩))) fun v32 =>
(oW (ldW true 5 h31 (.pointer (some ⟨h11.length, 0, none⟩))) fun v33 =>
(callW Try.prog (fn F_sets_Follow) [v32] h31 fun v34 h35 =>
(keptW [(.pointer (some ⟨h11.length, 0, none⟩)), (.pointer (some ⟨h7.length, 0, none⟩)), (.pointer (some ⟨h11.length, 0, none⟩)), (.pointer (some ⟨h7.length, 0, none⟩))] h31 h35 ∧
(callW Try.prog (fn F_homographref17_Follow) [v33] h35 fun v36 h37 =>
(keptW [(.pointer (some ⟨h11.length, 0, none⟩)), (.pointer (some ⟨h7.length, 0, none⟩)), (.pointer (some ⟨h11.length, 0, none⟩)), (.pointer (some ⟨h7.length, 0, none⟩))] h35 h37 ∧
(callW Try.prog (fn F_homographref17_Same) [v34, v36] h37 fun v38 h39 =>
(keptW [(.pointer (some ⟨h11.length, 0, none⟩)), (.pointer (some ⟨h7.length, 0, none⟩)), (.pointer (some ⟨h11.length, 0, none⟩)), (.pointer (some ⟨h7.length, 0, none⟩))] h37 h39 ∧
(bW v38
(callW Try.prog (fn F_homographref04_Same) [v17, v22] h39 fun v40 h41 =>
(keptW [(.pointer (some ⟨h11.length, 0, none⟩)), (.pointer (some ⟨h7.length, 0, none⟩)), (.pointer (some ⟨h11.length, 0, none⟩)), (.pointer (some ⟨h7.length, 0, none⟩))] h39 h41 ∧
(bW v40
(oW (eqB v18 v23) fun v42 =>
(gcV h Q v42 h41))
(gcV h Q (.bool false) h41))))
(gcV h Q (.bool false) h39))))))))))
(gcV h Q (.bool false) h31)))))))))))))))))))))))))
(oW (lenS a1) fun v43 =>
(oW (binN .gtr v43 (.int .i64 20)) fun v44 =>
(bW v44
(gcV h Q (.bool true) h2)
(callW Try.prog (fn F_homographlaw17_made) [a0] h2 fun v45 h46 =>
(letH (h46 ++ [.row [(.slice none 0 0), (.int .i64 0), (.slice none 0 0), (.slice none 0 0), (.int .i64 0)] .exact]) fun h47 =>
(sW (stW 5 h47 (.pointer (some ⟨h46.length, 0, none⟩)) v45) fun h48 =>
(callW Try.prog (fn F_homographref16_Make) [a0] h48 fun v49 h50 =>
(letH (h50 ++ [.row [(.slice none 0 0), (.int .i64 0), (.slice none 0 0), (.slice none 0 0), (.int .i64 0)] .exact]) fun h51 =>
(sW (stW 5 h51 (.pointer (some ⟨h50.length, 0, none⟩)) v49) fun h52 =>
(oW (ldW true 5 h52 (.pointer (some ⟨h46.length, 0, none⟩))) fun v53 =>
(callW Try.prog (fn F_sets_Row) [v53, a1] h52 fun v54 h55 =>
(oW (extractA v54 0) fun v56 =>
(oW (extractA v54 1) fun v57 =>
(oW (ldW true 5 h55 (.pointer (some ⟨h50.length, 0, none⟩))) fun v58 =>
(callW Try.prog (fn F_homographref17_Row) [v58, a1] h55 fun v59 h60 =>
(oW (extractA v59 0) fun v61 =>
(oW (extractA v59 1) fun v62 =>
(oW (ldW true 5 h60 (.pointer (some ⟨h46.length, 0, none⟩))) fun v63 =>
(oW (ldW true 5 h60 (.pointer (some ⟨h50.length, 0, none⟩))) fun v64 =>
(callW Try.prog (fn F_sets_First) [v63] h60 fun v65 h66 =>
(keptW [(.pointer (some ⟨h50.length, 0, none⟩)), (.pointer (some ⟨h46.length, 0, none⟩))] h60 h66 ∧
(callW Try.prog (fn F_homographref17_First) [v64] h66 fun v67 h68 =>
(keptW [(.pointer (some ⟨h50.length, 0, none⟩)), (.pointer (some ⟨h46.length, 0, none⟩))] h66 h68 ∧
(callW Try.prog (fn F_homographref17_Same) [v65, v67] h68 fun v69 h70 =>
(keptW [(.pointer (some ⟨h50.length, 0, none⟩)), (.pointer (some ⟨h46.length, 0, none⟩))] h68 h70 ∧
(bW v69
(oW (ldW true 5 h70 (.pointer (some ⟨h46.length, 0, none⟩))) fun v71 =>
(oW (ldW true 5 h70 (.pointer (some ⟨h50.length, 0, none⟩))) fun v72 =>
(callW Try.prog (fn F_sets_Follow) [v71] h70 fun v73 h74 =>
(keptW [(.pointer (some ⟨h50.length, 0, none⟩)), (.pointer (some ⟨h46.length, 0, none⟩)), (.pointer (some ⟨h50.length, 0, none⟩)), (.pointer (some ⟨h46.length, 0, none⟩))] h70 h74 ∧
(callW Try.prog (fn F_homographref17_Follow) [v72] h74 fun v75 h76 =>
(keptW [(.pointer (some ⟨h50.length, 0, none⟩)), (.pointer (some ⟨h46.length, 0, none⟩)), (.pointer (some ⟨h50.length, 0, none⟩)), (.pointer (some ⟨h46.length, 0, none⟩))] h74 h76 ∧
(callW Try.prog (fn F_homographref17_Same) [v73, v75] h76 fun v77 h78 =>
(keptW [(.pointer (some ⟨h50.length, 0, none⟩)), (.pointer (some ⟨h46.length, 0, none⟩)), (.pointer (some ⟨h50.length, 0, none⟩)), (.pointer (some ⟨h46.length, 0, none⟩))] h76 h78 ∧
(bW v77
(callW Try.prog (fn F_homographref04_Same) [v56, v61] h78 fun v79 h80 =>
(keptW [(.pointer (some ⟨h50.length, 0, none⟩)), (.pointer (some ⟨h46.length, 0, none⟩)), (.pointer (some ⟨h50.length, 0, none⟩)), (.pointer (some ⟨h46.length, 0, none⟩))] h78 h80 ∧
(bW v79
(oW (eqB v57 v62) fun v81 =>
(gcV h Q v81 h80))
(gcV h Q (.bool false) h80))))
(gcV h Q (.bool false) h78))))))))))
(gcV h Q (.bool false) h70)))))))))))))))))))))))))))))))))
theorem W_homographlaw17_SetsFollow_eq (a0 a1 : Value) (h : Heap) (Q : Value → Heap → Prop) : fW Try.prog ⟨[], []⟩ Try.f8 [a0, a1] h Q = W_homographlaw17_SetsFollow a0 a1 h Q := by kernel_rfl
theorem W_homographlaw17_SetsFollow_ok {a0 a1 : Value} {h : Heap} {Q : Value → Heap → Prop} (e : W_homographlaw17_SetsFollow a0 a1 h Q) : acall Try.prog F_homographlaw17_SetsFollow [a0, a1] h Q :=
  by refine acall_of_fW mixed ⟨[], []⟩ Try.func8 (by kernel_rfl) ?_; rw [W_homographlaw17_SetsFollow_eq]; exact e

/-- homograph/homographlaw17.SetsAgree: loops {28: [4, 5, 7, 8, 10, 11, 12, 14, 15, 16], 24: [4, 5, 7, 8, 10, 11, 12, 14], 17: [4, 5, 7, 8, 10], 12: [4, 5, 6, 7, 8, 9]}; joins {} -/
def W_homographlaw17_SetsAgree (a0 : Value) (h : Heap) (Q : Value → Heap → Prop) : Prop :=
(callW Try.prog (fn F_homographlaw17_awake) [] h fun v1 h2 =>
(oW (unA .not v1) fun v3 =>
(bW v3
(gcV h Q (.bool false) h2)
(oW (lenStr a0) fun v4 =>
(oW (binN .gtr v4 (.int .i64 80)) fun v5 =>
(bW v5
(gcV h Q (.bool true) h2)
(callW Try.prog (fn F_homographlaw17_made) [a0] h2 fun v6 h7 =>
(letH (h7 ++ [.row [(.slice none 0 0), (.int .i64 0), (.slice none 0 0), (.slice none 0 0), (.int .i64 0)] .exact]) fun h8 =>
(sW (stW 5 h8 (.pointer (some ⟨h7.length, 0, none⟩)) v6) fun h9 =>
(oW (ldW true 5 h9 (.pointer (some ⟨h7.length, 0, none⟩))) fun v10 =>
(callW Try.prog (fn F_sets_Nullable) [v10] h9 fun v11 h12 =>
(oW (ldW true 5 h12 (.pointer (some ⟨h7.length, 0, none⟩))) fun v13 =>
(callW Try.prog (fn F_sets_Productive) [v13] h12 fun v14 h15 =>
(oW (ldW true 5 h15 (.pointer (some ⟨h7.length, 0, none⟩))) fun v16 =>
(callW Try.prog (fn F_sets_First) [v16] h15 fun v17 h18 =>
(oW (ldW true 5 h18 (.pointer (some ⟨h7.length, 0, none⟩))) fun v19 =>
(callW Try.prog (fn F_sets_Follow) [v19] h18 fun v20 h21 =>
(∃ (I22 : Nat → List Value → Heap → Prop) (k23 : Nat), gcL h (I22 k23) [(.pointer (some ⟨h7.length, 0, none⟩)), v11, v14, v17, v20, (.int .i64 0)] h21 ∧
∀ k25 : Nat, ∀ x26 : Value, ∀ x27 : Value, ∀ x28 : Value, ∀ x29 : Value, ∀ x30 : Value, ∀ x31 : Value, ∀ h32, I22 k25 [x26, x27, x28, x29, x30, x31] h32 →
(oW (faW 0 1 x26) fun v33 =>
(oW (ldW false 1 h32 v33) fun v34 =>
(oW (lenS v34) fun v35 =>
(oW (binN .lss x31 v35) fun v36 =>
(bW v36
(oW (iaS 1 x27 x31) fun v37 =>
(oW (ldW false 1 h32 v37) fun v38 =>
(bW v38
(oW (iaS 1 x28 x31) fun v39 =>
(oW (ldW false 1 h32 v39) fun v40 =>
(oW (unA .not v40) fun v41 =>
(bW v41
(gcV h Q (.bool false) h32)
(oW (binN .add x31 (.int .i64 1)) fun v42 =>
(∃ m24, m24 < k25 ∧ gcL h (I22 m24) [x26, x27, x28, x29, x30, v42] h32))))))
(bW (.bool false)
(gcV h Q (.bool false) h32)
(oW (binN .add x31 (.int .i64 1)) fun v43 =>
(∃ m24, m24 < k25 ∧ gcL h (I22 m24) [x26, x27, x28, x29, x30, v43] h32))))))
(∃ (I44 : Nat → List Value → Heap → Prop) (k45 : Nat), gcL h (I44 k45) [x26, x27, x29, x30, (.int .i64 0)] h32 ∧
∀ k47 : Nat, ∀ x48 : Value, ∀ x49 : Value, ∀ x50 : Value, ∀ x51 : Value, ∀ x52 : Value, ∀ h53, I44 k47 [x48, x49, x50, x51, x52] h53 →
(oW (faW 3 1 x48) fun v54 =>
(oW (ldW false 1 h53 v54) fun v55 =>
(oW (lenS v55) fun v56 =>
(oW (binN .lss x52 v56) fun v57 =>
(bW v57
(oW (faW 3 1 x48) fun v58 =>
(oW (ldW false 1 h53 v58) fun v59 =>
(oW (iaS 1 v59 x52) fun v60 =>
(oW (ldW false 1 h53 v60) fun v61 =>
(oW (ldW true 5 h53 x48) fun v62 =>
(oW (slS 1 h53 v61 (some (.int .i64 1)) none none) fun v63 =>
(callW Try.prog (fn F_sets_Row) [v62, v63] h53 fun v64 h65 =>
(keptW [v61, x48] h53 h65 ∧
(oW (extractA v64 0) fun v66 =>
(oW (extractA v64 1) fun v67 =>
(bW v67
(oW (iaS 1 v61 (.int .i64 0)) fun v68 =>
(oW (ldW false 1 h65 v68) fun v69 =>
(oW (iaS 1 x49 v69) fun v70 =>
(oW (ldW false 1 h65 v70) fun v71 =>
(oW (unA .not v71) fun v72 =>
(bW v72
(gcV h Q (.bool false) h65)
(∃ (I73 : Nat → List Value → Heap → Prop) (k74 : Nat), gcL h (I73 k74) [x48, x49, x50, x51, x52, v61, v66, (.int .i64 0)] h65 ∧
∀ k76 : Nat, ∀ x77 : Value, ∀ x78 : Value, ∀ x79 : Value, ∀ x80 : Value, ∀ x81 : Value, ∀ x82 : Value, ∀ x83 : Value, ∀ x84 : Value, ∀ h85, I73 k76 [x77, x78, x79, x80, x81, x82, x83, x84] h85 →
(oW (lenS x83) fun v86 =>
(oW (binN .lss x84 v86) fun v87 =>
(bW v87
(∃ (I88 : Nat → List Value → Heap → Prop) (k89 : Nat), gcL h (I88 k89) [x77, x78, x79, x80, x81, x82, x83, x84, (.bool false), (.int .i64 0)] h85 ∧
∀ k91 : Nat, ∀ x92 : Value, ∀ x93 : Value, ∀ x94 : Value, ∀ x95 : Value, ∀ x96 : Value, ∀ x97 : Value, ∀ x98 : Value, ∀ x99 : Value, ∀ x100 : Value, ∀ x101 : Value, ∀ h102, I88 k91 [x92, x93, x94, x95, x96, x97, x98, x99, x100, x101] h102 →
(oW (iaS 1 x97 (.int .i64 0)) fun v103 =>
(oW (ldW false 1 h102 v103) fun v104 =>
(oW (iaS 1 x94 v104) fun v105 =>
(oW (ldW false 1 h102 v105) fun v106 =>
(oW (lenS v106) fun v107 =>
(oW (binN .lss x101 v107) fun v108 =>
(bW v108
(bW x100
(oW (binN .add x101 (.int .i64 1)) fun v109 =>
(∃ m90, m90 < k91 ∧ gcL h (I88 m90) [x92, x93, x94, x95, x96, x97, x98, x99, (.bool true), v109] h102))
(oW (iaS 1 x97 (.int .i64 0)) fun v110 =>
(oW (ldW false 1 h102 v110) fun v111 =>
(oW (iaS 1 x94 v111) fun v112 =>
(oW (ldW false 1 h102 v112) fun v113 =>
(oW (iaS 1 v113 x101) fun v114 =>
(oW (ldW false 1 h102 v114) fun v115 =>
(oW (iaS 1 x98 x99) fun v116 =>
(oW (ldW false 1 h102 v116) fun v117 =>
(oW (binN .eql v115 v117) fun v118 =>
(oW (binN .add x101 (.int .i64 1)) fun v119 =>
(∃ m90, m90 < k91 ∧ gcL h (I88 m90) [x92, x93, x94, x95, x96, x97, x98, x99, v118, v119] h102))))))))))))
(oW (unA .not x100) fun v120 =>
(bW v120
(gcV h Q (.bool false) h102)
(oW (binN .add x99 (.int .i64 1)) fun v121 =>
(∃ m75, m75 < k76 ∧ gcL h (I73 m75) [x92, x93, x94, x95, x96, x97, x98, v121] h102))))))))))))
(oW (binN .add x81 (.int .i64 1)) fun v122 =>
(∃ m46, m46 < k47 ∧ gcL h (I44 m46) [x77, x78, x79, x80, v122] h85))))))))))))
(bW (.bool false)
(gcV h Q (.bool false) h65)
(∃ (I123 : Nat → List Value → Heap → Prop) (k124 : Nat), gcL h (I123 k124) [x48, x49, x50, x51, x52, v61, v66, (.int .i64 0)] h65 ∧
∀ k126 : Nat, ∀ x127 : Value, ∀ x128 : Value, ∀ x129 : Value, ∀ x130 : Value, ∀ x131 : Value, ∀ x132 : Value, ∀ x133 : Value, ∀ x134 : Value, ∀ h135, I123 k126 [x127, x128, x129, x130, x131, x132, x133, x134] h135 →
(oW (lenS x133) fun v136 =>
(oW (binN .lss x134 v136) fun v137 =>
(bW v137
(∃ (I138 : Nat → List Value → Heap → Prop) (k139 : Nat), gcL h (I138 k139) [x127, x128, x129, x130, x131, x132, x133, x134, (.bool false), (.int .i64 0)] h135 ∧
∀ k141 : Nat, ∀ x142 : Value, ∀ x143 : Value, ∀ x144 : Value, ∀ x145 : Value, ∀ x146 : Value, ∀ x147 : Value, ∀ x148 : Value, ∀ x149 : Value, ∀ x150 : Value, ∀ x151 : Value, ∀ h152, I138 k141 [x142, x143, x144, x145, x146, x147, x148, x149, x150, x151] h152 →
(oW (iaS 1 x147 (.int .i64 0)) fun v153 =>
(oW (ldW false 1 h152 v153) fun v154 =>
(oW (iaS 1 x144 v154) fun v155 =>
(oW (ldW false 1 h152 v155) fun v156 =>
(oW (lenS v156) fun v157 =>
(oW (binN .lss x151 v157) fun v158 =>
(bW v158
(bW x150
(oW (binN .add x151 (.int .i64 1)) fun v159 =>
(∃ m140, m140 < k141 ∧ gcL h (I138 m140) [x142, x143, x144, x145, x146, x147, x148, x149, (.bool true), v159] h152))
(oW (iaS 1 x147 (.int .i64 0)) fun v160 =>
(oW (ldW false 1 h152 v160) fun v161 =>
(oW (iaS 1 x144 v161) fun v162 =>
(oW (ldW false 1 h152 v162) fun v163 =>
(oW (iaS 1 v163 x151) fun v164 =>
(oW (ldW false 1 h152 v164) fun v165 =>
(oW (iaS 1 x148 x149) fun v166 =>
(oW (ldW false 1 h152 v166) fun v167 =>
(oW (binN .eql v165 v167) fun v168 =>
(oW (binN .add x151 (.int .i64 1)) fun v169 =>
(∃ m140, m140 < k141 ∧ gcL h (I138 m140) [x142, x143, x144, x145, x146, x147, x148, x149, v168, v169] h152))))))))))))
(oW (unA .not x150) fun v170 =>
(bW v170
(gcV h Q (.bool false) h152)
(oW (binN .add x149 (.int .i64 1)) fun v171 =>
(∃ m125, m125 < k126 ∧ gcL h (I123 m125) [x142, x143, x144, x145, x146, x147, x148, v171] h152))))))))))))
(oW (binN .add x131 (.int .i64 1)) fun v172 =>
(∃ m46, m46 < k47 ∧ gcL h (I44 m46) [x127, x128, x129, x130, v172] h135))))))))))))))))))
(oW (faW 4 1 x48) fun v173 =>
(oW (ldW false 1 h53 v173) fun v174 =>
(oW (iaS 1 x51 v174) fun v175 =>
(oW (ldW false 1 h53 v175) fun v176 =>
(oW (ldW true 5 h53 x48) fun v177 =>
(oW (faW 4 1 x48) fun v178 =>
(oW (ldW false 1 h53 v178) fun v179 =>
(callW Try.prog (fn F_sets_Reached) [v177] h53 fun v180 h181 =>
(keptW [v178, x48] h53 h181 ∧
(oW (iaS 1 v180 v179) fun v182 =>
(oW (ldW false 1 h181 v182) fun v183 =>
(bW v183
(oW (lenS v176) fun v184 =>
(oW (binN .gtr v184 (.int .i64 0)) fun v185 =>
(bW v185
(oW (lenS v176) fun v186 =>
(oW (binN .sub v186 (.int .i64 1)) fun v187 =>
(oW (iaS 1 v176 v187) fun v188 =>
(oW (ldW false 1 h181 v188) fun v189 =>
(oW (faW 0 1 x48) fun v190 =>
(oW (ldW false 1 h181 v190) fun v191 =>
(oW (lenS v191) fun v192 =>
(oW (binN .eql v189 v192) fun v193 =>
(gcV h Q v193 h181)))))))))
(gcV h Q (.bool false) h181))))
(gcV h Q (.bool false) h181))))))))))))))))))))))))))))))))))))))))))
theorem W_homographlaw17_SetsAgree_eq (a0 : Value) (h : Heap) (Q : Value → Heap → Prop) : fW Try.prog ⟨[(28, [4, 5, 7, 8, 10, 11, 12, 14, 15, 16]), (24, [4, 5, 7, 8, 10, 11, 12, 14]), (17, [4, 5, 7, 8, 10]), (12, [4, 5, 6, 7, 8, 9])], []⟩ Try.f9 [a0] h Q = W_homographlaw17_SetsAgree a0 h Q := by kernel_rfl
theorem W_homographlaw17_SetsAgree_ok {a0 : Value} {h : Heap} {Q : Value → Heap → Prop} (e : W_homographlaw17_SetsAgree a0 h Q) : acall Try.prog F_homographlaw17_SetsAgree [a0] h Q :=
  by refine acall_of_fW mixed ⟨[(28, [4, 5, 7, 8, 10, 11, 12, 14, 15, 16]), (24, [4, 5, 7, 8, 10, 11, 12, 14]), (17, [4, 5, 7, 8, 10]), (12, [4, 5, 6, 7, 8, 9])], []⟩ Try.func9 (by kernel_rfl) ?_; rw [W_homographlaw17_SetsAgree_eq]; exact e

/-- homograph/homographlaw17.SetsMore: loops {20: [8, 9, 12, 13, 14, 15], 17: [8, 9, 12, 13, 14], 10: [2, 8, 9, 10, 11]}; joins {6: [0, 1, 2]} -/
def W_homographlaw17_SetsMore (a0 a1 a2 : Value) (h : Heap) (Q : Value → Heap → Prop) : Prop :=
(callW Try.prog (fn F_homographlaw17_awake) [] h fun v1 h2 =>
(oW (unA .not v1) fun v3 =>
(bW v3
(gcV h Q (.bool false) h2)
(∃ M4 : List Value → Heap → Prop,
(oW (lenStr a0) fun v5 =>
(oW (binN .gtr v5 (.int .i64 60)) fun v6 =>
(bW v6
(bW (.bool true)
(gcV h Q (.bool true) h2)
(gcL h M4 [a0, a1, a2] h2))
(oW (lenS a2) fun v7 =>
(oW (binN .gtr v7 (.int .i64 4)) fun v8 =>
(bW v8
(gcV h Q (.bool true) h2)
(gcL h M4 [a0, a1, a2] h2))))))) ∧
∀ x9 : Value, ∀ x10 : Value, ∀ x11 : Value, ∀ h12, M4 [x9, x10, x11] h12 →
(callW Try.prog (fn F_homographlaw17_made) [x9] h12 fun v13 h14 =>
(letH (h14 ++ [.row [(.slice none 0 0), (.int .i64 0), (.slice none 0 0), (.slice none 0 0), (.int .i64 0)] .exact]) fun h15 =>
(sW (stW 5 h15 (.pointer (some ⟨h14.length, 0, none⟩)) v13) fun h16 =>
(callW Try.prog (fn F_homographlaw17_made) [x9] h16 fun v17 h18 =>
(letH (h18 ++ [.row [(.slice none 0 0), (.int .i64 0), (.slice none 0 0), (.slice none 0 0), (.int .i64 0)] .exact]) fun h19 =>
(sW (stW 5 h19 (.pointer (some ⟨h18.length, 0, none⟩)) v17) fun h20 =>
(oW (faW 1 1 (.pointer (some ⟨h14.length, 0, none⟩))) fun v21 =>
(oW (ldW false 1 h20 v21) fun v22 =>
(oW (faW 0 1 (.pointer (some ⟨h14.length, 0, none⟩))) fun v23 =>
(oW (ldW false 1 h20 v23) fun v24 =>
(oW (lenS v24) fun v25 =>
(oW (faW 1 1 (.pointer (some ⟨h14.length, 0, none⟩))) fun v26 =>
(oW (ldW false 1 h20 v26) fun v27 =>
(oW (binN .sub v25 v27) fun v28 =>
(oW (cvI .i64 x10) fun v29 =>
(keptW [v26, v24, v23, v21] h20 h20 ∧
(oW (binN .rem v29 v28) fun v30 =>
(oW (binN .add v22 v30) fun v31 =>
(hW (bslW h20 1 [(.int .i64 0)] [(0, 1, v31)]) fun v32 h33 =>
(keptW [v26, v24, v23, v21] h20 h33 ∧
(∃ (I34 : Nat → List Value → Heap → Prop) (k35 : Nat), gcL h (I34 k35) [x11, (.pointer (some ⟨h14.length, 0, none⟩)), (.pointer (some ⟨h18.length, 0, none⟩)), v32, (.int .i64 0)] h33 ∧
∀ k37 : Nat, ∀ x38 : Value, ∀ x39 : Value, ∀ x40 : Value, ∀ x41 : Value, ∀ x42 : Value, ∀ h43, I34 k37 [x38, x39, x40, x41, x42] h43 →
(oW (lenS x38) fun v44 =>
(oW (binN .lss x42 v44) fun v45 =>
(bW v45
(oW (iaS 1 x38 x42) fun v46 =>
(oW (ldW false 1 h43 v46) fun v47 =>
(oW (faW 0 1 x39) fun v48 =>
(oW (ldW false 1 h43 v48) fun v49 =>
(oW (lenS v49) fun v50 =>
(oW (cvI .i64 v47) fun v51 =>
(keptW [v49, v48, v46] h43 h43 ∧
(oW (binN .rem v51 v50) fun v52 =>
(hW (bslW h43 1 [(.int .i64 0)] [(0, 1, v52)]) fun v53 h54 =>
(keptW [v49, v48, v46] h43 h54 ∧
(hW (apW 1 8 h54 x41 v53) fun v55 h56 =>
(keptW [v49, v48, v46] h54 h56 ∧
(oW (binN .add x42 (.int .i64 1)) fun v57 =>
(∃ m36, m36 < k37 ∧ gcL h (I34 m36) [x38, x39, x40, v55, v57] h56))))))))))))))
(oW (faW 3 1 x40) fun v58 =>
(oW (ldW false 1 h43 v58) fun v59 =>
(hW (bslW h43 1 [(.slice none 0 0)] [(0, 1, x41)]) fun v60 h61 =>
(hW (apW 1 24 h61 v59 v60) fun v62 h63 =>
(oW (faW 3 1 x40) fun v64 =>
(sW (stW 1 h63 v64 v62) fun h65 =>
(oW (ldW true 5 h65 x39) fun v66 =>
(oW (ldW true 5 h65 x39) fun v67 =>
(oW (ldW true 5 h65 x39) fun v68 =>
(callW Try.prog (fn F_sets_Nullable) [v66] h65 fun v69 h70 =>
(keptW [x39, x39, x39] h65 h70 ∧
(callW Try.prog (fn F_sets_Productive) [v67] h70 fun v71 h72 =>
(keptW [x39, x39, x39] h70 h72 ∧
(callW Try.prog (fn F_sets_Reached) [v68] h72 fun v73 h74 =>
(keptW [x39, x39, x39] h72 h74 ∧
(hW (bslW h74 3 [(.slice none 0 0), (.slice none 0 0), (.slice none 0 0)] [(0, 1, v69), (1, 1, v71), (2, 1, v73)]) fun v75 h76 =>
(keptW [x39, x39, x39] h74 h76 ∧
(oW (ldW true 5 h76 x40) fun v77 =>
(oW (ldW true 5 h76 x40) fun v78 =>
(oW (ldW true 5 h76 x40) fun v79 =>
(callW Try.prog (fn F_sets_Nullable) [v77] h76 fun v80 h81 =>
(keptW [x40, x40, x40] h76 h81 ∧
(callW Try.prog (fn F_sets_Productive) [v78] h81 fun v82 h83 =>
(keptW [x40, x40, x40] h81 h83 ∧
(callW Try.prog (fn F_sets_Reached) [v79] h83 fun v84 h85 =>
(keptW [x40, x40, x40] h83 h85 ∧
(hW (bslW h85 3 [(.slice none 0 0), (.slice none 0 0), (.slice none 0 0)] [(0, 1, v80), (1, 1, v82), (2, 1, v84)]) fun v86 h87 =>
(keptW [x40, x40, x40] h85 h87 ∧
(∃ (I88 : Nat → List Value → Heap → Prop) (k89 : Nat), gcL h (I88 k89) [x39, x40, v75, v86, (.int .i64 0)] h87 ∧
∀ k91 : Nat, ∀ x92 : Value, ∀ x93 : Value, ∀ x94 : Value, ∀ x95 : Value, ∀ x96 : Value, ∀ h97, I88 k91 [x92, x93, x94, x95, x96] h97 →
(oW (binN .lss x96 (.int .i64 3)) fun v98 =>
(bW v98
(∃ (I99 : Nat → List Value → Heap → Prop) (k100 : Nat), gcL h (I99 k100) [x92, x93, x94, x95, x96, (.int .i64 0)] h97 ∧
∀ k102 : Nat, ∀ x103 : Value, ∀ x104 : Value, ∀ x105 : Value, ∀ x106 : Value, ∀ x107 : Value, ∀ x108 : Value, ∀ h109, I99 k102 [x103, x104, x105, x106, x107, x108] h109 →
(oW (faW 0 1 x103) fun v110 =>
(oW (ldW false 1 h109 v110) fun v111 =>
(oW (lenS v111) fun v112 =>
(oW (binN .lss x108 v112) fun v113 =>
(bW v113
(oW (iaS 1 x105 x107) fun v114 =>
(oW (ldW false 1 h109 v114) fun v115 =>
(oW (iaS 1 v115 x108) fun v116 =>
(oW (ldW false 1 h109 v116) fun v117 =>
(bW v117
(oW (iaS 1 x106 x107) fun v118 =>
(oW (ldW false 1 h109 v118) fun v119 =>
(oW (iaS 1 v119 x108) fun v120 =>
(oW (ldW false 1 h109 v120) fun v121 =>
(oW (unA .not v121) fun v122 =>
(bW v122
(gcV h Q (.bool false) h109)
(oW (binN .add x108 (.int .i64 1)) fun v123 =>
(∃ m101, m101 < k102 ∧ gcL h (I99 m101) [x103, x104, x105, x106, x107, v123] h109))))))))
(bW (.bool false)
(gcV h Q (.bool false) h109)
(oW (binN .add x108 (.int .i64 1)) fun v124 =>
(∃ m101, m101 < k102 ∧ gcL h (I99 m101) [x103, x104, x105, x106, x107, v124] h109))))))))
(oW (binN .add x107 (.int .i64 1)) fun v125 =>
(∃ m90, m90 < k91 ∧ gcL h (I88 m90) [x103, x104, x105, x106, v125] h109))))))))
(oW (ldW true 5 h97 x92) fun v126 =>
(oW (ldW true 5 h97 x93) fun v127 =>
(callW Try.prog (fn F_sets_First) [v126] h97 fun v128 h129 =>
(keptW [x93, x92] h97 h129 ∧
(callW Try.prog (fn F_sets_First) [v127] h129 fun v130 h131 =>
(keptW [x93, x92] h129 h131 ∧
(callW Try.prog (fn F_homographlaw17_within) [v128, v130] h131 fun v132 h133 =>
(keptW [x93, x92] h131 h133 ∧
(bW v132
(oW (ldW true 5 h133 x92) fun v134 =>
(oW (ldW true 5 h133 x93) fun v135 =>
(callW Try.prog (fn F_sets_Follow) [v134] h133 fun v136 h137 =>
(keptW [x93, x92, x93, x92] h133 h137 ∧
(callW Try.prog (fn F_sets_Follow) [v135] h137 fun v138 h139 =>
(keptW [x93, x92, x93, x92] h137 h139 ∧
(callW Try.prog (fn F_homographlaw17_within) [v136, v138] h139 fun v140 h141 =>
(keptW [x93, x92, x93, x92] h139 h141 ∧
(gcV h Q v140 h141)))))))))
(gcV h Q (.bool false) h133)))))))))))))))))))))))))))))))))))))))))))))))))))))))))))))))))))))
theorem W_homographlaw17_SetsMore_eq (a0 a1 a2 : Value) (h : Heap) (Q : Value → Heap → Prop) : fW Try.prog ⟨[(20, [8, 9, 12, 13, 14, 15]), (17, [8, 9, 12, 13, 14]), (10, [2, 8, 9, 10, 11])], [(6, [0, 1, 2])]⟩ Try.f10 [a0, a1, a2] h Q = W_homographlaw17_SetsMore a0 a1 a2 h Q := by kernel_rfl
theorem W_homographlaw17_SetsMore_ok {a0 a1 a2 : Value} {h : Heap} {Q : Value → Heap → Prop} (e : W_homographlaw17_SetsMore a0 a1 a2 h Q) : acall Try.prog F_homographlaw17_SetsMore [a0, a1, a2] h Q :=
  by refine acall_of_fW mixed ⟨[(20, [8, 9, 12, 13, 14, 15]), (17, [8, 9, 12, 13, 14]), (10, [2, 8, 9, 10, 11])], [(6, [0, 1, 2])]⟩ Try.func10 (by kernel_rfl) ?_; rw [W_homographlaw17_SetsMore_eq]; exact e

/-- homograph/homographlaw17.awake: loops {}; joins {} -/
def W_homographlaw17_awake (h : Heap) (Q : Value → Heap → Prop) : Prop :=
(hW (bslW h 2 [(.string ⟨#[]⟩), (.string ⟨#[]⟩)] [(0, 1, (.string ⟨#[97]⟩)), (1, 1, (.string ⟨#[83]⟩))]) fun v1 h2 =>
(hW (bslW h2 1 [(.int .i64 0)] [(0, 1, (.int .i64 0))]) fun v3 h4 =>
(hW (bslW h4 3 [(.int .i64 0), (.int .i64 0), (.int .i64 0)] [(0, 1, (.int .i64 1)), (1, 1, (.int .i64 0)), (2, 1, (.int .i64 1))]) fun v5 h6 =>
(hW (bslW h6 1 [(.int .i64 0)] [(0, 1, (.int .i64 1))]) fun v7 h8 =>
(hW (bslW h8 2 [(.slice none 0 0), (.slice none 0 0)] [(0, 1, v5), (1, 1, v7)]) fun v9 h10 =>
(oW (bldW [(.slice none 0 0), (.int .i64 0), (.slice none 0 0), (.slice none 0 0), (.int .i64 0)] [(0, 1, v1), (1, 1, (.int .i64 1)), (2, 1, v3), (3, 1, v9), (4, 1, (.int .i64 1))]) fun v11 =>
(letH (h10 ++ [.row [(.slice none 0 0), (.int .i64 0), (.slice none 0 0), (.slice none 0 0), (.int .i64 0)] .exact]) fun h12 =>
(sW (stW 5 h12 (.pointer (some ⟨h10.length, 0, none⟩)) v11) fun h13 =>
(oW (ldW true 5 h13 (.pointer (some ⟨h10.length, 0, none⟩))) fun v14 =>
(hW (bslW h13 2 [(.int .i64 0), (.int .i64 0)] [(0, 1, (.int .i64 1)), (1, 1, (.int .i64 0))]) fun v15 h16 =>
(callW Try.prog (fn F_sets_Row) [v14, v15] h16 fun v17 h18 =>
(oW (extractA v17 0) fun v19 =>
(oW (extractA v17 1) fun v20 =>
(oW (ldW true 5 h18 (.pointer (some ⟨h10.length, 0, none⟩))) fun v21 =>
(callW Try.prog (fn F_sets_Nullable) [v21] h18 fun v22 h23 =>
(hW (bslW h23 2 [(.bool false), (.bool false)] [(0, 1, (.bool false)), (1, 1, (.bool true))]) fun v24 h25 =>
(callW Try.prog (fn F_homographref17_Bools) [v22, v24] h25 fun v26 h27 =>
(bW v26
(oW (ldW true 5 h27 (.pointer (some ⟨h10.length, 0, none⟩))) fun v28 =>
(callW Try.prog (fn F_sets_First) [v28] h27 fun v29 h30 =>
(hW (bslW h30 1 [(.int .i64 0)] [(0, 1, (.int .i64 0))]) fun v31 h32 =>
(hW (bslW h32 1 [(.int .i64 0)] [(0, 1, (.int .i64 0))]) fun v33 h34 =>
(hW (bslW h34 2 [(.slice none 0 0), (.slice none 0 0)] [(0, 1, v31), (1, 1, v33)]) fun v35 h36 =>
(callW Try.prog (fn F_homographref17_Same) [v29, v35] h36 fun v37 h38 =>
(bW v37
(oW (ldW true 5 h38 (.pointer (some ⟨h10.length, 0, none⟩))) fun v39 =>
(callW Try.prog (fn F_sets_Follow) [v39] h38 fun v40 h41 =>
(hW (bslW h41 2 [(.int .i64 0), (.int .i64 0)] [(0, 1, (.int .i64 0)), (1, 1, (.int .i64 2))]) fun v42 h43 =>
(hW (bslW h43 1 [(.int .i64 0)] [(0, 1, (.int .i64 2))]) fun v44 h45 =>
(hW (bslW h45 2 [(.slice none 0 0), (.slice none 0 0)] [(0, 1, v42), (1, 1, v44)]) fun v46 h47 =>
(callW Try.prog (fn F_homographref17_Same) [v40, v46] h47 fun v48 h49 =>
(bW v48
(oW (ldW true 5 h49 (.pointer (some ⟨h10.length, 0, none⟩))) fun v50 =>
(callW Try.prog (fn F_sets_Reached) [v50] h49 fun v51 h52 =>
(hW (bslW h52 2 [(.bool false), (.bool false)] [(0, 1, (.bool true)), (1, 1, (.bool true))]) fun v53 h54 =>
(callW Try.prog (fn F_homographref17_Bools) [v51, v53] h54 fun v55 h56 =>
(bW v55
(oW (ldW true 5 h56 (.pointer (some ⟨h10.length, 0, none⟩))) fun v57 =>
(callW Try.prog (fn F_sets_Productive) [v57] h56 fun v58 h59 =>
(hW (bslW h59 2 [(.bool false), (.bool false)] [(0, 1, (.bool true)), (1, 1, (.bool true))]) fun v60 h61 =>
(callW Try.prog (fn F_homographref17_Bools) [v58, v60] h61 fun v62 h63 =>
(bW v62
(oW (lenS v19) fun v64 =>
(oW (binN .eql v64 (.int .i64 1)) fun v65 =>
(bW v65
(oW (unA .not v20) fun v66 =>
(gcV h Q v66 h63))
(gcV h Q (.bool false) h63))))
(gcV h Q (.bool false) h63))))))
(gcV h Q (.bool false) h56))))))
(gcV h Q (.bool false) h49))))))))
(gcV h Q (.bool false) h38))))))))
(gcV h Q (.bool false) h27)))))))))))))))))))
theorem W_homographlaw17_awake_eq (h : Heap) (Q : Value → Heap → Prop) : fW Try.prog ⟨[], []⟩ Try.f24 [] h Q = W_homographlaw17_awake  h Q := by kernel_rfl
theorem W_homographlaw17_awake_ok {h : Heap} {Q : Value → Heap → Prop} (e : W_homographlaw17_awake  h Q) : acall Try.prog F_homographlaw17_awake [] h Q :=
  by refine acall_of_fW mixed ⟨[], []⟩ Try.func24 (by kernel_rfl) ?_; rw [W_homographlaw17_awake_eq]; exact e

/-- homograph/homographlaw17.made: loops {}; joins {} -/
def W_homographlaw17_made (a0 : Value) (h : Heap) (Q : Value → Heap → Prop) : Prop :=
(letH (h ++ [.row [(.slice none 0 0), (.int .i64 0), (.slice none 0 0), (.slice none 0 0), (.int .i64 0)] .exact]) fun h1 =>
(callW Try.prog (fn F_homographref16_Make) [a0] h1 fun v2 h3 =>
(letH (h3 ++ [.row [(.slice none 0 0), (.int .i64 0), (.slice none 0 0), (.slice none 0 0), (.int .i64 0)] .exact]) fun h4 =>
(sW (stW 5 h4 (.pointer (some ⟨h3.length, 0, none⟩)) v2) fun h5 =>
(oW (faW 0 1 (.pointer (some ⟨h3.length, 0, none⟩))) fun v6 =>
(oW (ldW false 1 h5 v6) fun v7 =>
(oW (faW 1 1 (.pointer (some ⟨h3.length, 0, none⟩))) fun v8 =>
(oW (ldW false 1 h5 v8) fun v9 =>
(oW (faW 2 1 (.pointer (some ⟨h3.length, 0, none⟩))) fun v10 =>
(oW (ldW false 1 h5 v10) fun v11 =>
(oW (faW 3 1 (.pointer (some ⟨h3.length, 0, none⟩))) fun v12 =>
(oW (ldW false 1 h5 v12) fun v13 =>
(oW (faW 4 1 (.pointer (some ⟨h3.length, 0, none⟩))) fun v14 =>
(oW (ldW false 1 h5 v14) fun v15 =>
(oW (bldW [(.slice none 0 0), (.int .i64 0), (.slice none 0 0), (.slice none 0 0), (.int .i64 0)] [(0, 1, v7), (1, 1, v9), (2, 1, v11), (3, 1, v13), (4, 1, v15)]) fun v16 =>
(sW (stW 5 h5 (.pointer (some ⟨h.length, 0, none⟩)) v16) fun h17 =>
(oW (ldP true 5 h17 (.pointer (some ⟨h.length, 0, none⟩))) fun v18 =>
(gcV h Q v18 h17))))))))))))))))))
theorem W_homographlaw17_made_eq (a0 : Value) (h : Heap) (Q : Value → Heap → Prop) : fW Try.prog ⟨[], []⟩ Try.f25 [a0] h Q = W_homographlaw17_made a0 h Q := by kernel_rfl
theorem W_homographlaw17_made_ok {a0 : Value} {h : Heap} {Q : Value → Heap → Prop} (e : W_homographlaw17_made a0 h Q) : acall Try.prog F_homographlaw17_made [a0] h Q :=
  by refine acall_of_fW mixed ⟨[], []⟩ Try.func25 (by kernel_rfl) ?_; rw [W_homographlaw17_made_eq]; exact e

/-- homograph/homographref16.Make: loops {25: [0, 2, 3, 4, 5, 6, 7, 8, 9, 10, 11], 17: [0, 2, 3, 4, 5, 6, 7, 8], 10: [0, 2, 3, 4, 5, 6]}; joins {7: [0, 2, 3, 4, 5]} -/
def W_homographref16_Make (a0 : Value) (h : Heap) (Q : Value → Heap → Prop) : Prop :=
(letH (h ++ [.row [(.slice none 0 0), (.int .i64 0), (.slice none 0 0), (.slice none 0 0), (.int .i64 0)] .exact]) fun h1 =>
(hW (bslW h1 2 [(.int .i64 0), (.int .i64 0)] [(0, 1, (.int .i64 0)), (1, 1, (.int .i64 1))]) fun v2 h3 =>
(hW (bslW h3 5 [(.string ⟨#[]⟩), (.string ⟨#[]⟩), (.string ⟨#[]⟩), (.string ⟨#[]⟩), (.string ⟨#[]⟩)] [(0, 1, (.string ⟨#[97]⟩)), (1, 1, (.string ⟨#[98]⟩)), (2, 1, (.string ⟨#[83]⟩)), (3, 1, (.string ⟨#[84]⟩)), (4, 1, (.string ⟨#[85]⟩))]) fun v4 h5 =>
(oW (bldW [(.slice none 0 0), (.int .i64 0), (.slice none 0 0), (.slice none 0 0), (.int .i64 0)] [(1, 1, (.int .i64 2)), (2, 1, v2), (0, 1, v4)]) fun v6 =>
(letH (h5 ++ [.row [(.slice none 0 0), (.int .i64 0), (.slice none 0 0), (.slice none 0 0), (.int .i64 0)] .exact]) fun h7 =>
(sW (stW 5 h7 (.pointer (some ⟨h5.length, 0, none⟩)) v6) fun h8 =>
(∃ M9 : List Value → Heap → Prop,
(oW (lenStr a0) fun v10 =>
(oW (binN .gtr v10 (.int .i64 0)) fun v11 =>
(bW v11
(oW (ixS a0 (.int .i64 0)) fun v12 =>
(oW (cvI .i64 v12) fun v13 =>
(oW (binN .rem v13 (.int .i64 3)) fun v14 =>
(oW (binN .add (.int .i64 1) v14) fun v15 =>
(gcL h M9 [a0, (.pointer (some ⟨h.length, 0, none⟩)), (.int .i64 1), (.pointer (some ⟨h5.length, 0, none⟩)), v15] h8)))))
(gcL h M9 [a0, (.pointer (some ⟨h.length, 0, none⟩)), (.int .i64 0), (.pointer (some ⟨h5.length, 0, none⟩)), (.int .i64 1)] h8)))) ∧
∀ x16 : Value, ∀ x17 : Value, ∀ x18 : Value, ∀ x19 : Value, ∀ x20 : Value, ∀ h21, M9 [x16, x17, x18, x19, x20] h21 →
(oW (faW 0 1 x19) fun v22 =>
(oW (ldW false 1 h21 v22) fun v23 =>
(oW (binN .add (.int .i64 2) x20) fun v24 =>
(oW (slS 1 h21 v23 none (some v24) none) fun v25 =>
(oW (faW 0 1 x19) fun v26 =>
(sW (stW 1 h21 v26 v25) fun h27 =>
(oW (faW 4 1 x19) fun v28 =>
(sW (stW 1 h27 v28 (.int .i64 2)) fun h29 =>
(∃ (I30 : Nat → List Value → Heap → Prop) (k31 : Nat), gcL h (I30 k31) [x16, x17, x18, x19, x20, (.int .i64 0)] h29 ∧
∀ k33 : Nat, ∀ x34 : Value, ∀ x35 : Value, ∀ x36 : Value, ∀ x37 : Value, ∀ x38 : Value, ∀ x39 : Value, ∀ h40, I30 k33 [x34, x35, x36, x37, x38, x39] h40 →
(oW (binN .lss x39 x38) fun v41 =>
(bW v41
(oW (lenStr x34) fun v42 =>
(oW (binN .lss x36 v42) fun v43 =>
(bW v43
(oW (ixS x34 x36) fun v44 =>
(oW (cvI .i64 v44) fun v45 =>
(oW (binN .rem v45 (.int .i64 3)) fun v46 =>
(oW (binN .add (.int .i64 1) v46) fun v47 =>
(oW (binN .add x36 (.int .i64 1)) fun v48 =>
(∃ (I49 : Nat → List Value → Heap → Prop) (k50 : Nat), gcL h (I49 k50) [x34, x35, v48, x37, x38, x39, v47, (.int .i64 0)] h40 ∧
∀ k52 : Nat, ∀ x53 : Value, ∀ x54 : Value, ∀ x55 : Value, ∀ x56 : Value, ∀ x57 : Value, ∀ x58 : Value, ∀ x59 : Value, ∀ x60 : Value, ∀ h61, I49 k52 [x53, x54, x55, x56, x57, x58, x59, x60] h61 →
(oW (binN .lss x60 x59) fun v62 =>
(bW v62
(oW (binN .add (.int .i64 2) x58) fun v63 =>
(hW (bslW h61 1 [(.int .i64 0)] [(0, 1, v63)]) fun v64 h65 =>
(oW (lenStr x53) fun v66 =>
(oW (binN .lss x55 v66) fun v67 =>
(bW v67
(oW (ixS x53 x55) fun v68 =>
(oW (cvI .i64 v68) fun v69 =>
(oW (binN .rem v69 (.int .i64 4)) fun v70 =>
(oW (binN .add x55 (.int .i64 1)) fun v71 =>
(∃ (I72 : Nat → List Value → Heap → Prop) (k73 : Nat), gcL h (I72 k73) [x53, x54, v71, x56, x57, x58, x59, x60, v64, v70, (.int .i64 0)] h65 ∧
∀ k75 : Nat, ∀ x76 : Value, ∀ x77 : Value, ∀ x78 : Value, ∀ x79 : Value, ∀ x80 : Value, ∀ x81 : Value, ∀ x82 : Value, ∀ x83 : Value, ∀ x84 : Value, ∀ x85 : Value, ∀ x86 : Value, ∀ h87, I72 k75 [x76, x77, x78, x79, x80, x81, x82, x83, x84, x85, x86] h87 →
(oW (binN .lss x86 x85) fun v88 =>
(bW v88
(oW (lenStr x76) fun v89 =>
(oW (binN .lss x78 v89) fun v90 =>
(bW v90
(oW (ixS x76 x78) fun v91 =>
(oW (cvI .i64 v91) fun v92 =>
(oW (binN .add (.int .i64 2) x80) fun v93 =>
(oW (binN .rem v92 v93) fun v94 =>
(oW (binN .add x78 (.int .i64 1)) fun v95 =>
(hW (bslW h87 1 [(.int .i64 0)] [(0, 1, v94)]) fun v96 h97 =>
(hW (apW 1 8 h97 x84 v96) fun v98 h99 =>
(oW (binN .add x86 (.int .i64 1)) fun v100 =>
(∃ m74, m74 < k75 ∧ gcL h (I72 m74) [x76, x77, v95, x79, x80, x81, x82, x83, v98, x85, v100] h99)))))))))
(hW (bslW h87 1 [(.int .i64 0)] [(0, 1, (.int .i64 0))]) fun v101 h102 =>
(hW (apW 1 8 h102 x84 v101) fun v103 h104 =>
(oW (binN .add x86 (.int .i64 1)) fun v105 =>
(∃ m74, m74 < k75 ∧ gcL h (I72 m74) [x76, x77, x78, x79, x80, x81, x82, x83, v103, x85, v105] h104)))))))
(oW (faW 3 1 x79) fun v106 =>
(oW (ldW false 1 h87 v106) fun v107 =>
(hW (bslW h87 1 [(.slice none 0 0)] [(0, 1, x84)]) fun v108 h109 =>
(hW (apW 1 24 h109 v107 v108) fun v110 h111 =>
(oW (faW 3 1 x79) fun v112 =>
(sW (stW 1 h111 v112 v110) fun h113 =>
(oW (binN .add x83 (.int .i64 1)) fun v114 =>
(∃ m51, m51 < k52 ∧ gcL h (I49 m51) [x76, x77, x78, x79, x80, x81, x82, v114] h113)))))))))))))))
(∃ (I115 : Nat → List Value → Heap → Prop) (k116 : Nat), gcL h (I115 k116) [x53, x54, x55, x56, x57, x58, x59, x60, v64, (.int .i64 1), (.int .i64 0)] h65 ∧
∀ k118 : Nat, ∀ x119 : Value, ∀ x120 : Value, ∀ x121 : Value, ∀ x122 : Value, ∀ x123 : Value, ∀ x124 : Value, ∀ x125 : Value, ∀ x126 : Value, ∀ x127 : Value, ∀ x128 : Value, ∀ x129 : Value, ∀ h130, I115 k118 [x119, x120, x121, x122, x123, x124, x125, x126, x127, x128, x129] h130 →
(oW (binN .lss x129 x128) fun v131 =>
(bW v131
(oW (lenStr x119) fun v132 =>
(oW (binN .lss x121 v132) fun v133 =>
(bW v133
(oW (ixS x119 x121) fun v134 =>
(oW (cvI .i64 v134) fun v135 =>
(oW (binN .add (.int .i64 2) x123) fun v136 =>
(oW (binN .rem v135 v136) fun v137 =>
(oW (binN .add x121 (.int .i64 1)) fun v138 =>
(hW (bslW h130 1 [(.int .i64 0)] [(0, 1, v137)]) fun v139 h140 =>
(hW (apW 1 8 h140 x127 v139) fun v141 h142 =>
(oW (binN .add x129 (.int .i64 1)) fun v143 =>
(∃ m117, m117 < k118 ∧ gcL h (I115 m117) [x119, x120, v138, x122, x123, x124, x125, x126, v141, x128, v143] h142)))))))))
(hW (bslW h130 1 [(.int .i64 0)] [(0, 1, (.int .i64 0))]) fun v144 h145 =>
(hW (apW 1 8 h145 x127 v144) fun v146 h147 =>
(oW (binN .add x129 (.int .i64 1)) fun v148 =>
(∃ m117, m117 < k118 ∧ gcL h (I115 m117) [x119, x120, x121, x122, x123, x124, x125, x126, v146, x128, v148] h147)))))))
(oW (faW 3 1 x122) fun v149 =>
(oW (ldW false 1 h130 v149) fun v150 =>
(hW (bslW h130 1 [(.slice none 0 0)] [(0, 1, x127)]) fun v151 h152 =>
(hW (apW 1 24 h152 v150 v151) fun v153 h154 =>
(oW (faW 3 1 x122) fun v155 =>
(sW (stW 1 h154 v155 v153) fun h156 =>
(oW (binN .add x126 (.int .i64 1)) fun v157 =>
(∃ m51, m51 < k52 ∧ gcL h (I49 m51) [x119, x120, x121, x122, x123, x124, x125, v157] h156))))))))))))))))
(oW (binN .add x58 (.int .i64 1)) fun v158 =>
(∃ m32, m32 < k33 ∧ gcL h (I30 m32) [x53, x54, x55, x56, x57, v158] h61))))))))))
(∃ (I159 : Nat → List Value → Heap → Prop) (k160 : Nat), gcL h (I159 k160) [x34, x35, x36, x37, x38, x39, (.int .i64 1), (.int .i64 0)] h40 ∧
∀ k162 : Nat, ∀ x163 : Value, ∀ x164 : Value, ∀ x165 : Value, ∀ x166 : Value, ∀ x167 : Value, ∀ x168 : Value, ∀ x169 : Value, ∀ x170 : Value, ∀ h171, I159 k162 [x163, x164, x165, x166, x167, x168, x169, x170] h171 →
(oW (binN .lss x170 x169) fun v172 =>
(bW v172
(oW (binN .add (.int .i64 2) x168) fun v173 =>
(hW (bslW h171 1 [(.int .i64 0)] [(0, 1, v173)]) fun v174 h175 =>
(oW (lenStr x163) fun v176 =>
(oW (binN .lss x165 v176) fun v177 =>
(bW v177
(oW (ixS x163 x165) fun v178 =>
(oW (cvI .i64 v178) fun v179 =>
(oW (binN .rem v179 (.int .i64 4)) fun v180 =>
(oW (binN .add x165 (.int .i64 1)) fun v181 =>
(∃ (I182 : Nat → List Value → Heap → Prop) (k183 : Nat), gcL h (I182 k183) [x163, x164, v181, x166, x167, x168, x169, x170, v174, v180, (.int .i64 0)] h175 ∧
∀ k185 : Nat, ∀ x186 : Value, ∀ x187 : Value, ∀ x188 : Value, ∀ x189 : Value, ∀ x190 : Value, ∀ x191 : Value, ∀ x192 : Value, ∀ x193 : Value, ∀ x194 : Value, ∀ x195 : Value, ∀ x196 : Value, ∀ h197, I182 k185 [x186, x187, x188, x189, x190, x191, x192, x193, x194, x195, x196] h197 →
(oW (binN .lss x196 x195) fun v198 =>
(bW v198
(oW (lenStr x186) fun v199 =>
(oW (binN .lss x188 v199) fun v200 =>
(bW v200
(oW (ixS x186 x188) fun v201 =>
(oW (cvI .i64 v201) fun v202 =>
(oW (binN .add (.int .i64 2) x190) fun v203 =>
(oW (binN .rem v202 v203) fun v204 =>
(oW (binN .add x188 (.int .i64 1)) fun v205 =>
(hW (bslW h197 1 [(.int .i64 0)] [(0, 1, v204)]) fun v206 h207 =>
(hW (apW 1 8 h207 x194 v206) fun v208 h209 =>
(oW (binN .add x196 (.int .i64 1)) fun v210 =>
(∃ m184, m184 < k185 ∧ gcL h (I182 m184) [x186, x187, v205, x189, x190, x191, x192, x193, v208, x195, v210] h209)))))))))
(hW (bslW h197 1 [(.int .i64 0)] [(0, 1, (.int .i64 0))]) fun v211 h212 =>
(hW (apW 1 8 h212 x194 v211) fun v213 h214 =>
(oW (binN .add x196 (.int .i64 1)) fun v215 =>
(∃ m184, m184 < k185 ∧ gcL h (I182 m184) [x186, x187, x188, x189, x190, x191, x192, x193, v213, x195, v215] h214)))))))
(oW (faW 3 1 x189) fun v216 =>
(oW (ldW false 1 h197 v216) fun v217 =>
(hW (bslW h197 1 [(.slice none 0 0)] [(0, 1, x194)]) fun v218 h219 =>
(hW (apW 1 24 h219 v217 v218) fun v220 h221 =>
(oW (faW 3 1 x189) fun v222 =>
(sW (stW 1 h221 v222 v220) fun h223 =>
(oW (binN .add x193 (.int .i64 1)) fun v224 =>
(∃ m161, m161 < k162 ∧ gcL h (I159 m161) [x186, x187, x188, x189, x190, x191, x192, v224] h223)))))))))))))))
(∃ (I225 : Nat → List Value → Heap → Prop) (k226 : Nat), gcL h (I225 k226) [x163, x164, x165, x166, x167, x168, x169, x170, v174, (.int .i64 1), (.int .i64 0)] h175 ∧
∀ k228 : Nat, ∀ x229 : Value, ∀ x230 : Value, ∀ x231 : Value, ∀ x232 : Value, ∀ x233 : Value, ∀ x234 : Value, ∀ x235 : Value, ∀ x236 : Value, ∀ x237 : Value, ∀ x238 : Value, ∀ x239 : Value, ∀ h240, I225 k228 [x229, x230, x231, x232, x233, x234, x235, x236, x237, x238, x239] h240 →
(oW (binN .lss x239 x238) fun v241 =>
(bW v241
(oW (lenStr x229) fun v242 =>
(oW (binN .lss x231 v242) fun v243 =>
(bW v243
(oW (ixS x229 x231) fun v244 =>
(oW (cvI .i64 v244) fun v245 =>
(oW (binN .add (.int .i64 2) x233) fun v246 =>
(oW (binN .rem v245 v246) fun v247 =>
(oW (binN .add x231 (.int .i64 1)) fun v248 =>
(hW (bslW h240 1 [(.int .i64 0)] [(0, 1, v247)]) fun v249 h250 =>
(hW (apW 1 8 h250 x237 v249) fun v251 h252 =>
(oW (binN .add x239 (.int .i64 1)) fun v253 =>
(∃ m227, m227 < k228 ∧ gcL h (I225 m227) [x229, x230, v248, x232, x233, x234, x235, x236, v251, x238, v253] h252)))))))))
(hW (bslW h240 1 [(.int .i64 0)] [(0, 1, (.int .i64 0))]) fun v254 h255 =>
(hW (apW 1 8 h255 x237 v254) fun v256 h257 =>
(oW (binN .add x239 (.int .i64 1)) fun v258 =>
(∃ m227, m227 < k228 ∧ gcL h (I225 m227) [x229, x230, x231, x232, x233, x234, x235, x236, v256, x238, v258] h257)))))))
(oW (faW 3 1 x232) fun v259 =>
(oW (ldW false 1 h240 v259) fun v260 =>
(hW (bslW h240 1 [(.slice none 0 0)] [(0, 1, x237)]) fun v261 h262 =>
(hW (apW 1 24 h262 v260 v261) fun v263 h264 =>
(oW (faW 3 1 x232) fun v265 =>
(sW (stW 1 h264 v265 v263) fun h266 =>
(oW (binN .add x236 (.int .i64 1)) fun v267 =>
(∃ m161, m161 < k162 ∧ gcL h (I159 m161) [x229, x230, x231, x232, x233, x234, x235, v267] h266))))))))))))))))
(oW (binN .add x168 (.int .i64 1)) fun v268 =>
(∃ m32, m32 < k33 ∧ gcL h (I30 m32) [x163, x164, x165, x166, x167, v268] h171))))))))
(oW (ldW true 5 h40 x37) fun v269 =>
(sW (stW 5 h40 x35 v269) fun h270 =>
(oW (ldP true 5 h270 x35) fun v271 =>
(gcV h Q v271 h270))))))))))))))))))))))
theorem W_homographref16_Make_eq (a0 : Value) (h : Heap) (Q : Value → Heap → Prop) : fW Try.prog ⟨[(25, [0, 2, 3, 4, 5, 6, 7, 8, 9, 10, 11]), (17, [0, 2, 3, 4, 5, 6, 7, 8]), (10, [0, 2, 3, 4, 5, 6])], [(7, [0, 2, 3, 4, 5])]⟩ Try.f26 [a0] h Q = W_homographref16_Make a0 h Q := by kernel_rfl
theorem W_homographref16_Make_ok {a0 : Value} {h : Heap} {Q : Value → Heap → Prop} (e : W_homographref16_Make a0 h Q) : acall Try.prog F_homographref16_Make [a0] h Q :=
  by refine acall_of_fW mixed ⟨[(25, [0, 2, 3, 4, 5, 6, 7, 8, 9, 10, 11]), (17, [0, 2, 3, 4, 5, 6, 7, 8]), (10, [0, 2, 3, 4, 5, 6])], [(7, [0, 2, 3, 4, 5])]⟩ Try.func26 (by kernel_rfl) ?_; rw [W_homographref16_Make_eq]; exact e

/-- homograph/homographref17.Bools: loops {4: [0, 1, 5]}; joins {} -/
def W_homographref17_Bools (a0 a1 : Value) (h : Heap) (Q : Value → Heap → Prop) : Prop :=
(oW (lenS a0) fun v1 =>
(oW (lenS a1) fun v2 =>
(oW (binN .neq v1 v2) fun v3 =>
(bW v3
(gcV h Q (.bool false) h)
(∃ (I4 : Nat → List Value → Heap → Prop) (k5 : Nat), gcL h (I4 k5) [a0, a1, (.int .i64 0)] h ∧
∀ k7 : Nat, ∀ x8 : Value, ∀ x9 : Value, ∀ x10 : Value, ∀ h11, I4 k7 [x8, x9, x10] h11 →
(oW (lenS x8) fun v12 =>
(oW (binN .lss x10 v12) fun v13 =>
(bW v13
(oW (iaS 1 x8 x10) fun v14 =>
(oW (ldW false 1 h11 v14) fun v15 =>
(oW (iaS 1 x9 x10) fun v16 =>
(oW (ldW false 1 h11 v16) fun v17 =>
(oW (neB v15 v17) fun v18 =>
(bW v18
(gcV h Q (.bool false) h11)
(oW (binN .add x10 (.int .i64 1)) fun v19 =>
(∃ m6, m6 < k7 ∧ gcL h (I4 m6) [x8, x9, v19] h11))))))))
(gcV h Q (.bool true) h11)))))))))
theorem W_homographref17_Bools_eq (a0 a1 : Value) (h : Heap) (Q : Value → Heap → Prop) : fW Try.prog ⟨[(4, [0, 1, 5])], []⟩ Try.f27 [a0, a1] h Q = W_homographref17_Bools a0 a1 h Q := by kernel_rfl
theorem W_homographref17_Bools_ok {a0 a1 : Value} {h : Heap} {Q : Value → Heap → Prop} (e : W_homographref17_Bools a0 a1 h Q) : acall Try.prog F_homographref17_Bools [a0, a1] h Q :=
  by refine acall_of_fW mixed ⟨[(4, [0, 1, 5])], []⟩ Try.func27 (by kernel_rfl) ?_; rw [W_homographref17_Bools_eq]; exact e

/-- homograph/sets.Nullable: loops {}; joins {} -/
def W_sets_Nullable (a0 : Value) (h : Heap) (Q : Value → Heap → Prop) : Prop :=
(hW (boxA h a0) fun v1 h2 =>
(oW (ldW true 5 h2 v1) fun v3 =>
(callW Try.prog (fn F_sets_marked) [v3, (.bool false)] h2 fun v4 h5 =>
(gcV h Q v4 h5))))
theorem W_sets_Nullable_eq (a0 : Value) (h : Heap) (Q : Value → Heap → Prop) : fW Try.prog ⟨[], []⟩ Try.f28 [a0] h Q = W_sets_Nullable a0 h Q := by kernel_rfl
theorem W_sets_Nullable_ok {a0 : Value} {h : Heap} {Q : Value → Heap → Prop} (e : W_sets_Nullable a0 h Q) : acall Try.prog F_sets_Nullable [a0] h Q :=
  by refine acall_of_fW mixed ⟨[], []⟩ Try.func28 (by kernel_rfl) ?_; rw [W_sets_Nullable_eq]; exact e

/-- homograph/homographref17.Nullable: loops {12: [1, 3, 4, 5, 6, 7], 8: [1, 3, 4, 5], 5: [1, 3, 4]}; joins {} -/
def W_homographref17_Nullable (a0 : Value) (h : Heap) (Q : Value → Heap → Prop) : Prop :=
(hW (boxA h a0) fun v1 h2 =>
(oW (ldW true 5 h2 v1) fun v3 =>
(callW Try.prog (fn F_homographref17_right) [v3] h2 fun v4 h5 =>
(oW (unA .not v4) fun v6 =>
(bW v6
(gcV h Q (.slice none 0 0) h5)
(oW (faW 0 1 v1) fun v7 =>
(oW (ldW false 1 h5 v7) fun v8 =>
(oW (lenS v8) fun v9 =>
(hW (mksW [(.bool false)] 1 h5 v9 v9) fun v10 h11 =>
(∃ (I12 : Nat → List Value → Heap → Prop) (k13 : Nat), gcL h (I12 k13) [v1, v10, (.int .i64 0)] h11 ∧
∀ k15 : Nat, ∀ x16 : Value, ∀ x17 : Value, ∀ x18 : Value, ∀ h19, I12 k15 [x16, x17, x18] h19 →
(oW (faW 0 1 x16) fun v20 =>
(oW (ldW false 1 h19 v20) fun v21 =>
(oW (lenS v21) fun v22 =>
(oW (binN .leq x18 v22) fun v23 =>
(bW v23
(∃ (I24 : Nat → List Value → Heap → Prop) (k25 : Nat), gcL h (I24 k25) [x16, x17, x18, (.int .i64 0)] h19 ∧
∀ k27 : Nat, ∀ x28 : Value, ∀ x29 : Value, ∀ x30 : Value, ∀ x31 : Value, ∀ h32, I24 k27 [x28, x29, x30, x31] h32 →
(oW (faW 3 1 x28) fun v33 =>
(oW (ldW false 1 h32 v33) fun v34 =>
(oW (lenS v34) fun v35 =>
(oW (binN .lss x31 v35) fun v36 =>
(bW v36
(∃ (I37 : Nat → List Value → Heap → Prop) (k38 : Nat), gcL h (I37 k38) [x28, x29, x30, x31, (.bool true), (.int .i64 1)] h32 ∧
∀ k40 : Nat, ∀ x41 : Value, ∀ x42 : Value, ∀ x43 : Value, ∀ x44 : Value, ∀ x45 : Value, ∀ x46 : Value, ∀ h47, I37 k40 [x41, x42, x43, x44, x45, x46] h47 →
(oW (faW 3 1 x41) fun v48 =>
(oW (ldW false 1 h47 v48) fun v49 =>
(oW (iaS 1 v49 x44) fun v50 =>
(oW (ldW false 1 h47 v50) fun v51 =>
(oW (lenS v51) fun v52 =>
(oW (binN .lss x46 v52) fun v53 =>
(bW v53
(bW x45
(oW (faW 3 1 x41) fun v54 =>
(oW (ldW false 1 h47 v54) fun v55 =>
(oW (iaS 1 v55 x44) fun v56 =>
(oW (ldW false 1 h47 v56) fun v57 =>
(oW (iaS 1 v57 x46) fun v58 =>
(oW (ldW false 1 h47 v58) fun v59 =>
(oW (iaS 1 x42 v59) fun v60 =>
(oW (ldW false 1 h47 v60) fun v61 =>
(oW (binN .add x46 (.int .i64 1)) fun v62 =>
(∃ m39, m39 < k40 ∧ gcL h (I37 m39) [x41, x42, x43, x44, v61, v62] h47))))))))))
(oW (binN .add x46 (.int .i64 1)) fun v63 =>
(∃ m39, m39 < k40 ∧ gcL h (I37 m39) [x41, x42, x43, x44, (.bool false), v63] h47)))
(oW (faW 3 1 x41) fun v64 =>
(oW (ldW false 1 h47 v64) fun v65 =>
(oW (iaS 1 v65 x44) fun v66 =>
(oW (ldW false 1 h47 v66) fun v67 =>
(oW (iaS 1 v67 (.int .i64 0)) fun v68 =>
(oW (ldW false 1 h47 v68) fun v69 =>
(oW (faW 3 1 x41) fun v70 =>
(oW (ldW false 1 h47 v70) fun v71 =>
(oW (iaS 1 v71 x44) fun v72 =>
(oW (ldW false 1 h47 v72) fun v73 =>
(oW (iaS 1 v73 (.int .i64 0)) fun v74 =>
(oW (ldW false 1 h47 v74) fun v75 =>
(oW (iaS 1 x42 v75) fun v76 =>
(oW (ldW false 1 h47 v76) fun v77 =>
(bW v77
(oW (iaS 1 x42 v69) fun v78 =>
(sW (stW 1 h47 v78 (.bool true)) fun h79 =>
(oW (binN .add x44 (.int .i64 1)) fun v80 =>
(∃ m26, m26 < k27 ∧ gcL h (I24 m26) [x41, x42, x43, v80] h79))))
(oW (iaS 1 x42 v69) fun v81 =>
(sW (stW 1 h47 v81 x45) fun h82 =>
(oW (binN .add x44 (.int .i64 1)) fun v83 =>
(∃ m26, m26 < k27 ∧ gcL h (I24 m26) [x41, x42, x43, v83] h82)))))))))))))))))))))))))))
(oW (binN .add x30 (.int .i64 1)) fun v84 =>
(∃ m14, m14 < k15 ∧ gcL h (I12 m14) [x28, x29, v84] h32))))))))
(gcV h Q x17 h19))))))))))))))))
theorem W_homographref17_Nullable_eq (a0 : Value) (h : Heap) (Q : Value → Heap → Prop) : fW Try.prog ⟨[(12, [1, 3, 4, 5, 6, 7]), (8, [1, 3, 4, 5]), (5, [1, 3, 4])], []⟩ Try.f29 [a0] h Q = W_homographref17_Nullable a0 h Q := by kernel_rfl
theorem W_homographref17_Nullable_ok {a0 : Value} {h : Heap} {Q : Value → Heap → Prop} (e : W_homographref17_Nullable a0 h Q) : acall Try.prog F_homographref17_Nullable [a0] h Q :=
  by refine acall_of_fW mixed ⟨[(12, [1, 3, 4, 5, 6, 7]), (8, [1, 3, 4, 5]), (5, [1, 3, 4])], []⟩ Try.func29 (by kernel_rfl) ?_; rw [W_homographref17_Nullable_eq]; exact e

/-- homograph/sets.Reached: loops {11: [1, 3, 4, 41, 42, 43], 5: [1, 3, 4]}; joins {} -/
def W_sets_Reached (a0 : Value) (h : Heap) (Q : Value → Heap → Prop) : Prop :=
(hW (boxA h a0) fun v1 h2 =>
(oW (ldW true 5 h2 v1) fun v3 =>
(callW Try.prog (fn F_sets_right) [v3] h2 fun v4 h5 =>
(oW (unA .not v4) fun v6 =>
(bW v6
(gcV h Q (.slice none 0 0) h5)
(oW (faW 0 1 v1) fun v7 =>
(oW (ldW false 1 h5 v7) fun v8 =>
(oW (lenS v8) fun v9 =>
(hW (mksW [(.bool false)] 1 h5 v9 v9) fun v10 h11 =>
(oW (faW 4 1 v1) fun v12 =>
(oW (ldW false 1 h11 v12) fun v13 =>
(hW (bslW h11 1 [(.int .i64 0)] [(0, 1, v13)]) fun v14 h15 =>
(∃ (I16 : Nat → List Value → Heap → Prop) (k17 : Nat), gcL h (I16 k17) [v1, v10, v14] h15 ∧
∀ k19 : Nat, ∀ x20 : Value, ∀ x21 : Value, ∀ x22 : Value, ∀ h23, I16 k19 [x20, x21, x22] h23 →
(oW (lenS x22) fun v24 =>
(oW (binN .gtr v24 (.int .i64 0)) fun v25 =>
(bW v25
(oW (lenS x22) fun v26 =>
(oW (binN .sub v26 (.int .i64 1)) fun v27 =>
(oW (iaS 1 x22 v27) fun v28 =>
(oW (ldW false 1 h23 v28) fun v29 =>
(oW (lenS x22) fun v30 =>
(oW (binN .sub v30 (.int .i64 1)) fun v31 =>
(oW (slS 1 h23 x22 none (some v31) none) fun v32 =>
(oW (iaS 1 x21 v29) fun v33 =>
(oW (ldW false 1 h23 v33) fun v34 =>
(bW v34
(∃ m18, m18 < k19 ∧ gcL h (I16 m18) [x20, x21, v32] h23)
(oW (iaS 1 x21 v29) fun v35 =>
(sW (stW 1 h23 v35 (.bool true)) fun h36 =>
(oW (ldW true 5 h36 x20) fun v37 =>
(callW Try.prog (fn F_symbols_By) [v37, v29] h36 fun v38 h39 =>
(oW (lenS v38) fun v40 =>
(∃ (I41 : Nat → List Value → Heap → Prop) (k42 : Nat), gcL h (I41 k42) [x20, x21, v32, v38, v40, (.int .i64 0)] h39 ∧
∀ k44 : Nat, ∀ x45 : Value, ∀ x46 : Value, ∀ x47 : Value, ∀ x48 : Value, ∀ x49 : Value, ∀ x50 : Value, ∀ h51, I41 k44 [x45, x46, x47, x48, x49, x50] h51 →
(oW (binN .lss x50 x49) fun v52 =>
(bW v52
(oW (iaS 1 x48 x50) fun v53 =>
(oW (ldW false 1 h51 v53) fun v54 =>
(oW (faW 3 1 x45) fun v55 =>
(oW (ldW false 1 h51 v55) fun v56 =>
(oW (iaS 1 v56 v54) fun v57 =>
(oW (ldW false 1 h51 v57) fun v58 =>
(oW (slS 1 h51 v58 (some (.int .i64 1)) none none) fun v59 =>
(hW (apW 1 8 h51 x47 v59) fun v60 h61 =>
(oW (binN .add x50 (.int .i64 1)) fun v62 =>
(∃ m43, m43 < k44 ∧ gcL h (I41 m43) [x45, x46, v60, x48, x49, v62] h61))))))))))
(∃ m18, m18 < k19 ∧ gcL h (I16 m18) [x45, x46, x47] h51)))))))))))))))))))
(gcV h Q x21 h23)))))))))))))))))
theorem W_sets_Reached_eq (a0 : Value) (h : Heap) (Q : Value → Heap → Prop) : fW Try.prog ⟨[(11, [1, 3, 4, 41, 42, 43]), (5, [1, 3, 4])], []⟩ Try.f30 [a0] h Q = W_sets_Reached a0 h Q := by kernel_rfl
theorem W_sets_Reached_ok {a0 : Value} {h : Heap} {Q : Value → Heap → Prop} (e : W_sets_Reached a0 h Q) : acall Try.prog F_sets_Reached [a0] h Q :=
  by refine acall_of_fW mixed ⟨[(11, [1, 3, 4, 41, 42, 43]), (5, [1, 3, 4])], []⟩ Try.func30 (by kernel_rfl) ?_; rw [W_sets_Reached_eq]; exact e

/-- homograph/homographref17.Reached: loops {12: [1, 3, 4, 5, 6], 9: [1, 3, 4, 5], 6: [1, 3, 4]}; joins {} -/
def W_homographref17_Reached (a0 : Value) (h : Heap) (Q : Value → Heap → Prop) : Prop :=
(hW (boxA h a0) fun v1 h2 =>
(oW (ldW true 5 h2 v1) fun v3 =>
(callW Try.prog (fn F_homographref17_right) [v3] h2 fun v4 h5 =>
(oW (unA .not v4) fun v6 =>
(bW v6
(gcV h Q (.slice none 0 0) h5)
(oW (faW 0 1 v1) fun v7 =>
(oW (ldW false 1 h5 v7) fun v8 =>
(oW (lenS v8) fun v9 =>
(hW (mksW [(.bool false)] 1 h5 v9 v9) fun v10 h11 =>
(oW (faW 4 1 v1) fun v12 =>
(oW (ldW false 1 h11 v12) fun v13 =>
(oW (iaS 1 v10 v13) fun v14 =>
(sW (stW 1 h11 v14 (.bool true)) fun h15 =>
(∃ (I16 : Nat → List Value → Heap → Prop) (k17 : Nat), gcL h (I16 k17) [v1, v10, (.int .i64 0)] h15 ∧
∀ k19 : Nat, ∀ x20 : Value, ∀ x21 : Value, ∀ x22 : Value, ∀ h23, I16 k19 [x20, x21, x22] h23 →
(oW (faW 0 1 x20) fun v24 =>
(oW (ldW false 1 h23 v24) fun v25 =>
(oW (lenS v25) fun v26 =>
(oW (binN .leq x22 v26) fun v27 =>
(bW v27
(∃ (I28 : Nat → List Value → Heap → Prop) (k29 : Nat), gcL h (I28 k29) [x20, x21, x22, (.int .i64 0)] h23 ∧
∀ k31 : Nat, ∀ x32 : Value, ∀ x33 : Value, ∀ x34 : Value, ∀ x35 : Value, ∀ h36, I28 k31 [x32, x33, x34, x35] h36 →
(oW (faW 3 1 x32) fun v37 =>
(oW (ldW false 1 h36 v37) fun v38 =>
(oW (lenS v38) fun v39 =>
(oW (binN .lss x35 v39) fun v40 =>
(bW v40
(∃ (I41 : Nat → List Value → Heap → Prop) (k42 : Nat), gcL h (I41 k42) [x32, x33, x34, x35, (.int .i64 1)] h36 ∧
∀ k44 : Nat, ∀ x45 : Value, ∀ x46 : Value, ∀ x47 : Value, ∀ x48 : Value, ∀ x49 : Value, ∀ h50, I41 k44 [x45, x46, x47, x48, x49] h50 →
(oW (faW 3 1 x45) fun v51 =>
(oW (ldW false 1 h50 v51) fun v52 =>
(oW (iaS 1 v52 x48) fun v53 =>
(oW (ldW false 1 h50 v53) fun v54 =>
(oW (lenS v54) fun v55 =>
(oW (binN .lss x49 v55) fun v56 =>
(bW v56
(oW (faW 3 1 x45) fun v57 =>
(oW (ldW false 1 h50 v57) fun v58 =>
(oW (iaS 1 v58 x48) fun v59 =>
(oW (ldW false 1 h50 v59) fun v60 =>
(oW (iaS 1 v60 (.int .i64 0)) fun v61 =>
(oW (ldW false 1 h50 v61) fun v62 =>
(oW (iaS 1 x46 v62) fun v63 =>
(oW (ldW false 1 h50 v63) fun v64 =>
(bW v64
(oW (faW 3 1 x45) fun v65 =>
(oW (ldW false 1 h50 v65) fun v66 =>
(oW (iaS 1 v66 x48) fun v67 =>
(oW (ldW false 1 h50 v67) fun v68 =>
(oW (iaS 1 v68 x49) fun v69 =>
(oW (ldW false 1 h50 v69) fun v70 =>
(oW (iaS 1 x46 v70) fun v71 =>
(sW (stW 1 h50 v71 (.bool true)) fun h72 =>
(oW (binN .add x49 (.int .i64 1)) fun v73 =>
(∃ m43, m43 < k44 ∧ gcL h (I41 m43) [x45, x46, x47, x48, v73] h72))))))))))
(oW (binN .add x48 (.int .i64 1)) fun v74 =>
(∃ m30, m30 < k31 ∧ gcL h (I28 m30) [x45, x46, x47, v74] h50)))))))))))
(bW (.bool false)
(oW (faW 3 1 x45) fun v75 =>
(oW (ldW false 1 h50 v75) fun v76 =>
(oW (iaS 1 v76 x48) fun v77 =>
(oW (ldW false 1 h50 v77) fun v78 =>
(oW (iaS 1 v78 x49) fun v79 =>
(oW (ldW false 1 h50 v79) fun v80 =>
(oW (iaS 1 x46 v80) fun v81 =>
(sW (stW 1 h50 v81 (.bool true)) fun h82 =>
(oW (binN .add x49 (.int .i64 1)) fun v83 =>
(∃ m43, m43 < k44 ∧ gcL h (I41 m43) [x45, x46, x47, x48, v83] h82))))))))))
(oW (binN .add x48 (.int .i64 1)) fun v84 =>
(∃ m30, m30 < k31 ∧ gcL h (I28 m30) [x45, x46, x47, v84] h50)))))))))))
(oW (binN .add x34 (.int .i64 1)) fun v85 =>
(∃ m18, m18 < k19 ∧ gcL h (I16 m18) [x32, x33, v85] h36))))))))
(gcV h Q x21 h23))))))))))))))))))))
theorem W_homographref17_Reached_eq (a0 : Value) (h : Heap) (Q : Value → Heap → Prop) : fW Try.prog ⟨[(12, [1, 3, 4, 5, 6]), (9, [1, 3, 4, 5]), (6, [1, 3, 4])], []⟩ Try.f31 [a0] h Q = W_homographref17_Reached a0 h Q := by kernel_rfl
theorem W_homographref17_Reached_ok {a0 : Value} {h : Heap} {Q : Value → Heap → Prop} (e : W_homographref17_Reached a0 h Q) : acall Try.prog F_homographref17_Reached [a0] h Q :=
  by refine acall_of_fW mixed ⟨[(12, [1, 3, 4, 5, 6]), (9, [1, 3, 4, 5]), (6, [1, 3, 4])], []⟩ Try.func31 (by kernel_rfl) ?_; rw [W_homographref17_Reached_eq]; exact e

/-- homograph/sets.Productive: loops {}; joins {} -/
def W_sets_Productive (a0 : Value) (h : Heap) (Q : Value → Heap → Prop) : Prop :=
(hW (boxA h a0) fun v1 h2 =>
(oW (ldW true 5 h2 v1) fun v3 =>
(callW Try.prog (fn F_sets_marked) [v3, (.bool true)] h2 fun v4 h5 =>
(gcV h Q v4 h5))))
theorem W_sets_Productive_eq (a0 : Value) (h : Heap) (Q : Value → Heap → Prop) : fW Try.prog ⟨[], []⟩ Try.f32 [a0] h Q = W_sets_Productive a0 h Q := by kernel_rfl
theorem W_sets_Productive_ok {a0 : Value} {h : Heap} {Q : Value → Heap → Prop} (e : W_sets_Productive a0 h Q) : acall Try.prog F_sets_Productive [a0] h Q :=
  by refine acall_of_fW mixed ⟨[], []⟩ Try.func32 (by kernel_rfl) ?_; rw [W_sets_Productive_eq]; exact e

/-- homograph/homographref17.Productive: loops {16: [1, 3, 5, 6, 7, 8], 12: [1, 3, 5, 6], 9: [1, 3, 5], 5: [1, 3, 4]}; joins {} -/
def W_homographref17_Productive (a0 : Value) (h : Heap) (Q : Value → Heap → Prop) : Prop :=
(hW (boxA h a0) fun v1 h2 =>
(oW (ldW true 5 h2 v1) fun v3 =>
(callW Try.prog (fn F_homographref17_right) [v3] h2 fun v4 h5 =>
(oW (unA .not v4) fun v6 =>
(bW v6
(gcV h Q (.slice none 0 0) h5)
(oW (faW 0 1 v1) fun v7 =>
(oW (ldW false 1 h5 v7) fun v8 =>
(oW (lenS v8) fun v9 =>
(hW (mksW [(.bool false)] 1 h5 v9 v9) fun v10 h11 =>
(∃ (I12 : Nat → List Value → Heap → Prop) (k13 : Nat), gcL h (I12 k13) [v1, v10, (.int .i64 0)] h11 ∧
∀ k15 : Nat, ∀ x16 : Value, ∀ x17 : Value, ∀ x18 : Value, ∀ h19, I12 k15 [x16, x17, x18] h19 →
(oW (faW 1 1 x16) fun v20 =>
(oW (ldW false 1 h19 v20) fun v21 =>
(oW (binN .lss x18 v21) fun v22 =>
(bW v22
(oW (iaS 1 x17 x18) fun v23 =>
(sW (stW 1 h19 v23 (.bool true)) fun h24 =>
(oW (binN .add x18 (.int .i64 1)) fun v25 =>
(∃ m14, m14 < k15 ∧ gcL h (I12 m14) [x16, x17, v25] h24))))
(∃ (I26 : Nat → List Value → Heap → Prop) (k27 : Nat), gcL h (I26 k27) [x16, x17, (.int .i64 0)] h19 ∧
∀ k29 : Nat, ∀ x30 : Value, ∀ x31 : Value, ∀ x32 : Value, ∀ h33, I26 k29 [x30, x31, x32] h33 →
(oW (faW 0 1 x30) fun v34 =>
(oW (ldW false 1 h33 v34) fun v35 =>
(oW (lenS v35) fun v36 =>
(oW (binN .leq x32 v36) fun v37 =>
(bW v37
(∃ (I38 : Nat → List Value → Heap → Prop) (k39 : Nat), gcL h (I38 k39) [x30, x31, x32, (.int .i64 0)] h33 ∧
∀ k41 : Nat, ∀ x42 : Value, ∀ x43 : Value, ∀ x44 : Value, ∀ x45 : Value, ∀ h46, I38 k41 [x42, x43, x44, x45] h46 →
(oW (faW 3 1 x42) fun v47 =>
(oW (ldW false 1 h46 v47) fun v48 =>
(oW (lenS v48) fun v49 =>
(oW (binN .lss x45 v49) fun v50 =>
(bW v50
(∃ (I51 : Nat → List Value → Heap → Prop) (k52 : Nat), gcL h (I51 k52) [x42, x43, x44, x45, (.bool true), (.int .i64 1)] h46 ∧
∀ k54 : Nat, ∀ x55 : Value, ∀ x56 : Value, ∀ x57 : Value, ∀ x58 : Value, ∀ x59 : Value, ∀ x60 : Value, ∀ h61, I51 k54 [x55, x56, x57, x58, x59, x60] h61 →
(oW (faW 3 1 x55) fun v62 =>
(oW (ldW false 1 h61 v62) fun v63 =>
(oW (iaS 1 v63 x58) fun v64 =>
(oW (ldW false 1 h61 v64) fun v65 =>
(oW (lenS v65) fun v66 =>
(oW (binN .lss x60 v66) fun v67 =>
(bW v67
(bW x59
(oW (faW 3 1 x55) fun v68 =>
(oW (ldW false 1 h61 v68) fun v69 =>
(oW (iaS 1 v69 x58) fun v70 =>
(oW (ldW false 1 h61 v70) fun v71 =>
(oW (iaS 1 v71 x60) fun v72 =>
(oW (ldW false 1 h61 v72) fun v73 =>
(oW (iaS 1 x56 v73) fun v74 =>
(oW (ldW false 1 h61 v74) fun v75 =>
(oW (binN .add x60 (.int .i64 1)) fun v76 =>
(∃ m53, m53 < k54 ∧ gcL h (I51 m53) [x55, x56, x57, x58, v75, v76] h61))))))))))
(oW (binN .add x60 (.int .i64 1)) fun v77 =>
(∃ m53, m53 < k54 ∧ gcL h (I51 m53) [x55, x56, x57, x58, (.bool false), v77] h61)))
(oW (faW 3 1 x55) fun v78 =>
(oW (ldW false 1 h61 v78) fun v79 =>
(oW (iaS 1 v79 x58) fun v80 =>
(oW (ldW false 1 h61 v80) fun v81 =>
(oW (iaS 1 v81 (.int .i64 0)) fun v82 =>
(oW (ldW false 1 h61 v82) fun v83 =>
(oW (faW 3 1 x55) fun v84 =>
(oW (ldW false 1 h61 v84) fun v85 =>
(oW (iaS 1 v85 x58) fun v86 =>
(oW (ldW false 1 h61 v86) fun v87 =>
(oW (iaS 1 v87 (.int .i64 0)) fun v88 =>
(oW (ldW false 1 h61 v88) fun v89 =>
(oW (iaS 1 x56 v89) fun v90 =>
(oW (ldW false 1 h61 v90) fun v91 =>
(bW v91
(oW (iaS 1 x56 v83) fun v92 =>
(sW (stW 1 h61 v92 (.bool true)) fun h93 =>
(oW (binN .add x58 (.int .i64 1)) fun v94 =>
(∃ m40, m40 < k41 ∧ gcL h (I38 m40) [x55, x56, x57, v94] h93))))
(oW (iaS 1 x56 v83) fun v95 =>
(sW (stW 1 h61 v95 x59) fun h96 =>
(oW (binN .add x58 (.int .i64 1)) fun v97 =>
(∃ m40, m40 < k41 ∧ gcL h (I38 m40) [x55, x56, x57, v97] h96)))))))))))))))))))))))))))
(oW (binN .add x44 (.int .i64 1)) fun v98 =>
(∃ m28, m28 < k29 ∧ gcL h (I26 m28) [x42, x43, v98] h46))))))))
(gcV h Q x31 h33)))))))))))))))))))))
theorem W_homographref17_Productive_eq (a0 : Value) (h : Heap) (Q : Value → Heap → Prop) : fW Try.prog ⟨[(16, [1, 3, 5, 6, 7, 8]), (12, [1, 3, 5, 6]), (9, [1, 3, 5]), (5, [1, 3, 4])], []⟩ Try.f33 [a0] h Q = W_homographref17_Productive a0 h Q := by kernel_rfl
theorem W_homographref17_Productive_ok {a0 : Value} {h : Heap} {Q : Value → Heap → Prop} (e : W_homographref17_Productive a0 h Q) : acall Try.prog F_homographref17_Productive [a0] h Q :=
  by refine acall_of_fW mixed ⟨[(16, [1, 3, 5, 6, 7, 8]), (12, [1, 3, 5, 6]), (9, [1, 3, 5]), (5, [1, 3, 4])], []⟩ Try.func33 (by kernel_rfl) ?_; rw [W_homographref17_Productive_eq]; exact e

/-- homograph/sets.Row: loops {}; joins {} -/
def W_sets_Row (a0 a1 : Value) (h : Heap) (Q : Value → Heap → Prop) : Prop :=
(hW (boxA h a0) fun v1 h2 =>
(oW (ldW true 5 h2 v1) fun v3 =>
(callW Try.prog (fn F_sets_right) [v3] h2 fun v4 h5 =>
(oW (unA .not v4) fun v6 =>
(bW v6
(gcV h Q (.tuple #[(.slice none 0 0), (.bool false)]) h5)
(oW (ldW true 5 h5 v1) fun v7 =>
(callW Try.prog (fn F_sets_viewed) [v7] h5 fun v8 h9 =>
(callW Try.prog (fn F_sets_view_row) [v8, a1] h9 fun v10 h11 =>
(oW (extractA v10 0) fun v12 =>
(oW (extractA v10 1) fun v13 =>
(callW Try.prog (fn F_maps_Keys_sets_set_int_bool) [v12] h11 fun v14 h15 =>
(callW Try.prog (fn F_slices_Sorted_int) [v14] h15 fun v16 h17 =>
(gcV h Q (.tuple #[v16, v13]) h17)))))))))))))
theorem W_sets_Row_eq (a0 a1 : Value) (h : Heap) (Q : Value → Heap → Prop) : fW Try.prog ⟨[], []⟩ Try.f35 [a0, a1] h Q = W_sets_Row a0 a1 h Q := by kernel_rfl
theorem W_sets_Row_ok {a0 a1 : Value} {h : Heap} {Q : Value → Heap → Prop} (e : W_sets_Row a0 a1 h Q) : acall Try.prog F_sets_Row [a0, a1] h Q :=
  by refine acall_of_fW mixed ⟨[], []⟩ Try.func35 (by kernel_rfl) ?_; rw [W_sets_Row_eq]; exact e

/-- homograph/homographref17.Row: loops {}; joins {} -/
def W_homographref17_Row (a0 a1 : Value) (h : Heap) (Q : Value → Heap → Prop) : Prop :=
(hW (boxA h a0) fun v1 h2 =>
(oW (ldW true 5 h2 v1) fun v3 =>
(callW Try.prog (fn F_homographref17_right) [v3] h2 fun v4 h5 =>
(oW (unA .not v4) fun v6 =>
(bW v6
(gcV h Q (.tuple #[(.slice none 0 0), (.bool false)]) h5)
(oW (ldW true 5 h5 v1) fun v7 =>
(oW (ldW true 5 h5 v1) fun v8 =>
(oW (ldW true 5 h5 v1) fun v9 =>
(callW Try.prog (fn F_homographref17_firsts) [v8] h5 fun v10 h11 =>
(keptW [v1, v1, v1] h5 h11 ∧
(callW Try.prog (fn F_homographref17_Nullable) [v9] h11 fun v12 h13 =>
(keptW [v1, v1, v1] h11 h13 ∧
(callW Try.prog (fn F_homographref17_row) [v7, v10, v12, a1] h13 fun v14 h15 =>
(keptW [v1, v1, v1] h13 h15 ∧
(oW (extractA v14 0) fun v16 =>
(oW (extractA v14 1) fun v17 =>
(callW Try.prog (fn F_homographref17_rising) [v16] h15 fun v18 h19 =>
(gcV h Q (.tuple #[v18, v17]) h19))))))))))))))))))
theorem W_homographref17_Row_eq (a0 a1 : Value) (h : Heap) (Q : Value → Heap → Prop) : fW Try.prog ⟨[], []⟩ Try.f36 [a0, a1] h Q = W_homographref17_Row a0 a1 h Q := by kernel_rfl
theorem W_homographref17_Row_ok {a0 a1 : Value} {h : Heap} {Q : Value → Heap → Prop} (e : W_homographref17_Row a0 a1 h Q) : acall Try.prog F_homographref17_Row [a0, a1] h Q :=
  by refine acall_of_fW mixed ⟨[], []⟩ Try.func36 (by kernel_rfl) ?_; rw [W_homographref17_Row_eq]; exact e

/-- homograph/homographref17.Same: loops {9: [0, 1, 5, 6], 4: [0, 1, 5]}; joins {} -/
def W_homographref17_Same (a0 a1 : Value) (h : Heap) (Q : Value → Heap → Prop) : Prop :=
(oW (lenS a0) fun v1 =>
(oW (lenS a1) fun v2 =>
(oW (binN .neq v1 v2) fun v3 =>
(bW v3
(gcV h Q (.bool false) h)
(∃ (I4 : Nat → List Value → Heap → Prop) (k5 : Nat), gcL h (I4 k5) [a0, a1, (.int .i64 0)] h ∧
∀ k7 : Nat, ∀ x8 : Value, ∀ x9 : Value, ∀ x10 : Value, ∀ h11, I4 k7 [x8, x9, x10] h11 →
(oW (lenS x8) fun v12 =>
(oW (binN .lss x10 v12) fun v13 =>
(bW v13
(oW (iaS 1 x8 x10) fun v14 =>
(oW (ldW false 1 h11 v14) fun v15 =>
(oW (lenS v15) fun v16 =>
(oW (iaS 1 x9 x10) fun v17 =>
(oW (ldW false 1 h11 v17) fun v18 =>
(oW (lenS v18) fun v19 =>
(oW (binN .neq v16 v19) fun v20 =>
(bW v20
(gcV h Q (.bool false) h11)
(∃ (I21 : Nat → List Value → Heap → Prop) (k22 : Nat), gcL h (I21 k22) [x8, x9, x10, (.int .i64 0)] h11 ∧
∀ k24 : Nat, ∀ x25 : Value, ∀ x26 : Value, ∀ x27 : Value, ∀ x28 : Value, ∀ h29, I21 k24 [x25, x26, x27, x28] h29 →
(oW (iaS 1 x25 x27) fun v30 =>
(oW (ldW false 1 h29 v30) fun v31 =>
(oW (lenS v31) fun v32 =>
(oW (binN .lss x28 v32) fun v33 =>
(bW v33
(oW (iaS 1 x25 x27) fun v34 =>
(oW (ldW false 1 h29 v34) fun v35 =>
(oW (iaS 1 v35 x28) fun v36 =>
(oW (ldW false 1 h29 v36) fun v37 =>
(oW (iaS 1 x26 x27) fun v38 =>
(oW (ldW false 1 h29 v38) fun v39 =>
(oW (iaS 1 v39 x28) fun v40 =>
(oW (ldW false 1 h29 v40) fun v41 =>
(oW (binN .neq v37 v41) fun v42 =>
(bW v42
(gcV h Q (.bool false) h29)
(oW (binN .add x28 (.int .i64 1)) fun v43 =>
(∃ m23, m23 < k24 ∧ gcL h (I21 m23) [x25, x26, x27, v43] h29))))))))))))
(oW (binN .add x27 (.int .i64 1)) fun v44 =>
(∃ m6, m6 < k7 ∧ gcL h (I4 m6) [x25, x26, v44] h29))))))))))))))))
(gcV h Q (.bool true) h11)))))))))
theorem W_homographref17_Same_eq (a0 a1 : Value) (h : Heap) (Q : Value → Heap → Prop) : fW Try.prog ⟨[(9, [0, 1, 5, 6]), (4, [0, 1, 5])], []⟩ Try.f37 [a0, a1] h Q = W_homographref17_Same a0 a1 h Q := by kernel_rfl
theorem W_homographref17_Same_ok {a0 a1 : Value} {h : Heap} {Q : Value → Heap → Prop} (e : W_homographref17_Same a0 a1 h Q) : acall Try.prog F_homographref17_Same [a0, a1] h Q :=
  by refine acall_of_fW mixed ⟨[(9, [0, 1, 5, 6]), (4, [0, 1, 5])], []⟩ Try.func37 (by kernel_rfl) ?_; rw [W_homographref17_Same_eq]; exact e

/-- homograph/sets.First: loops {}; joins {} -/
def W_sets_First (a0 : Value) (h : Heap) (Q : Value → Heap → Prop) : Prop :=
(hW (boxA h a0) fun v1 h2 =>
(oW (ldW true 5 h2 v1) fun v3 =>
(callW Try.prog (fn F_sets_right) [v3] h2 fun v4 h5 =>
(oW (unA .not v4) fun v6 =>
(bW v6
(gcV h Q (.slice none 0 0) h5)
(oW (ldW true 5 h5 v1) fun v7 =>
(callW Try.prog (fn F_sets_viewed) [v7] h5 fun v8 h9 =>
(oW (fldW false 6 1 v8) fun v10 =>
(callW Try.prog (fn F_sets_rising) [v10] h9 fun v11 h12 =>
(gcV h Q v11 h12))))))))))
theorem W_sets_First_eq (a0 : Value) (h : Heap) (Q : Value → Heap → Prop) : fW Try.prog ⟨[], []⟩ Try.f38 [a0] h Q = W_sets_First a0 h Q := by kernel_rfl
theorem W_sets_First_ok {a0 : Value} {h : Heap} {Q : Value → Heap → Prop} (e : W_sets_First a0 h Q) : acall Try.prog F_sets_First [a0] h Q :=
  by refine acall_of_fW mixed ⟨[], []⟩ Try.func38 (by kernel_rfl) ?_; rw [W_sets_First_eq]; exact e

/-- homograph/homographref17.First: loops {6: [3, 4, 5]}; joins {} -/
def W_homographref17_First (a0 : Value) (h : Heap) (Q : Value → Heap → Prop) : Prop :=
(hW (boxA h a0) fun v1 h2 =>
(oW (ldW true 5 h2 v1) fun v3 =>
(callW Try.prog (fn F_homographref17_right) [v3] h2 fun v4 h5 =>
(oW (unA .not v4) fun v6 =>
(bW v6
(gcV h Q (.slice none 0 0) h5)
(oW (ldW true 5 h5 v1) fun v7 =>
(callW Try.prog (fn F_homographref17_firsts) [v7] h5 fun v8 h9 =>
(∃ (I10 : Nat → List Value → Heap → Prop) (k11 : Nat), gcL h (I10 k11) [v8, (.slice none 0 0), (.int .i64 0)] h9 ∧
∀ k13 : Nat, ∀ x14 : Value, ∀ x15 : Value, ∀ x16 : Value, ∀ h17, I10 k13 [x14, x15, x16] h17 →
(oW (lenS x14) fun v18 =>
(oW (binN .lss x16 v18) fun v19 =>
(bW v19
(oW (iaS 1 x14 x16) fun v20 =>
(oW (ldW false 1 h17 v20) fun v21 =>
(callW Try.prog (fn F_homographref17_rising) [v21] h17 fun v22 h23 =>
(hW (bslW h23 1 [(.slice none 0 0)] [(0, 1, v22)]) fun v24 h25 =>
(hW (apW 1 24 h25 x15 v24) fun v26 h27 =>
(oW (binN .add x16 (.int .i64 1)) fun v28 =>
(∃ m12, m12 < k13 ∧ gcL h (I10 m12) [x14, v26, v28] h27)))))))
(gcV h Q x15 h17))))))))))))
theorem W_homographref17_First_eq (a0 : Value) (h : Heap) (Q : Value → Heap → Prop) : fW Try.prog ⟨[(6, [3, 4, 5])], []⟩ Try.f39 [a0] h Q = W_homographref17_First a0 h Q := by kernel_rfl
theorem W_homographref17_First_ok {a0 : Value} {h : Heap} {Q : Value → Heap → Prop} (e : W_homographref17_First a0 h Q) : acall Try.prog F_homographref17_First [a0] h Q :=
  by refine acall_of_fW mixed ⟨[(6, [3, 4, 5])], []⟩ Try.func39 (by kernel_rfl) ?_; rw [W_homographref17_First_eq]; exact e

/-- homograph/sets.Follow: loops {6: [1, 3, 4, 16, 17]}; joins {} -/
def W_sets_Follow (a0 : Value) (h : Heap) (Q : Value → Heap → Prop) : Prop :=
(hW (boxA h a0) fun v1 h2 =>
(oW (ldW true 5 h2 v1) fun v3 =>
(callW Try.prog (fn F_sets_right) [v3] h2 fun v4 h5 =>
(oW (unA .not v4) fun v6 =>
(bW v6
(gcV h Q (.slice none 0 0) h5)
(oW (ldW true 5 h5 v1) fun v7 =>
(callW Try.prog (fn F_sets_viewed) [v7] h5 fun v8 h9 =>
(letH (h9 ++ [.row [(.slice none 0 0), (.int .i64 0), (.slice none 0 0), (.slice none 0 0), (.int .i64 0), (.slice none 0 0), (.slice none 0 0)] .exact]) fun h10 =>
(sW (stW 7 h10 (.pointer (some ⟨h9.length, 0, none⟩)) v8) fun h11 =>
(oW (faW 0 1 v1) fun v12 =>
(oW (ldW false 1 h11 v12) fun v13 =>
(oW (lenS v13) fun v14 =>
(hW (mksW [(.map none)] 8 h11 v14 v14) fun v15 h16 =>
(letH (h16 ++ [.row [(.slice none 0 0)] .exact]) fun h17 =>
(sW (stW 1 h17 (.pointer (some ⟨h16.length, 0, none⟩)) v15) fun h18 =>
(oW (ldW false 1 h18 (.pointer (some ⟨h16.length, 0, none⟩))) fun v19 =>
(oW (lenS v19) fun v20 =>
(∃ (I21 : Nat → List Value → Heap → Prop) (k22 : Nat), gcL h (I21 k22) [v1, (.pointer (some ⟨h9.length, 0, none⟩)), (.pointer (some ⟨h16.length, 0, none⟩)), v20, (.int .i64 0)] h18 ∧
∀ k24 : Nat, ∀ x25 : Value, ∀ x26 : Value, ∀ x27 : Value, ∀ x28 : Value, ∀ x29 : Value, ∀ h30, I21 k24 [x25, x26, x27, x28, x29] h30 →
(oW (binN .lss x29 x28) fun v31 =>
(bW v31
(oW (ldW false 1 h30 x27) fun v32 =>
(letH (h30 ++ [.map []]) fun h33 =>
(oW (iaS 1 v32 x29) fun v34 =>
(sW (stW 1 h33 v34 (.map (some h30.length))) fun h35 =>
(oW (binN .add x29 (.int .i64 1)) fun v36 =>
(∃ m23, m23 < k24 ∧ gcL h (I21 m23) [x25, x26, x27, x28, v36] h35))))))
(oW (ldW false 1 h30 x27) fun v37 =>
(oW (faW 4 1 x25) fun v38 =>
(oW (ldW false 1 h30 v38) fun v39 =>
(oW (iaS 1 v37 v39) fun v40 =>
(oW (ldW false 1 h30 v40) fun v41 =>
(oW (faW 0 1 x25) fun v42 =>
(oW (ldW false 1 h30 v42) fun v43 =>
(oW (lenS v43) fun v44 =>
(sW (upS (.int .i64) h30 v41 v44 (.bool true)) fun h45 =>
(oW (faW 3 1 x25) fun v46 =>
(oW (ldW false 1 h45 v46) fun v47 =>
(callW Try.prog (fn F_sets_until_int) [v47, (.func (.func F_sets_Follow_D1) #[] #[x26, x27])] h45 fun v48 h49 =>
(oW (ldW false 1 h49 x27) fun v50 =>
(callW Try.prog (fn F_sets_rising) [v50] h49 fun v51 h52 =>
(gcV h Q v51 h52)))))))))))))))))))))))))))))))))))
theorem W_sets_Follow_eq (a0 : Value) (h : Heap) (Q : Value → Heap → Prop) : fW Try.prog ⟨[(6, [1, 3, 4, 16, 17])], []⟩ Try.f40 [a0] h Q = W_sets_Follow a0 h Q := by kernel_rfl
theorem W_sets_Follow_ok {a0 : Value} {h : Heap} {Q : Value → Heap → Prop} (e : W_sets_Follow a0 h Q) : acall Try.prog F_sets_Follow [a0] h Q :=
  by refine acall_of_fW mixed ⟨[(6, [1, 3, 4, 16, 17])], []⟩ Try.func40 (by kernel_rfl) ?_; rw [W_sets_Follow_eq]; exact e

/-- homograph/homographref17.Follow: loops {33: [3, 6, 16, 17], 25: [1, 3, 4, 5, 6, 8, 9, 10, 11, 12, 13, 14, 15], 21: [1, 3, 4, 5, 6, 8, 9, 10, 11, 12], 17: [1, 3, 4, 5, 6, 8, 9, 10], 13: [1, 3, 4, 5, 6, 8], 8: [1, 3, 4, 5, 6, 7]}; joins {} -/
def W_homographref17_Follow (a0 : Value) (h : Heap) (Q : Value → Heap → Prop) : Prop :=
(hW (boxA h a0) fun v1 h2 =>
(oW (ldW true 5 h2 v1) fun v3 =>
(callW Try.prog (fn F_homographref17_right) [v3] h2 fun v4 h5 =>
(oW (unA .not v4) fun v6 =>
(bW v6
(gcV h Q (.slice none 0 0) h5)
(oW (faW 0 1 v1) fun v7 =>
(oW (ldW false 1 h5 v7) fun v8 =>
(oW (lenS v8) fun v9 =>
(oW (ldW true 5 h5 v1) fun v10 =>
(callW Try.prog (fn F_homographref17_firsts) [v10] h5 fun v11 h12 =>
(oW (ldW true 5 h12 v1) fun v13 =>
(callW Try.prog (fn F_homographref17_Nullable) [v13] h12 fun v14 h15 =>
(∃ (I16 : Nat → List Value → Heap → Prop) (k17 : Nat), gcL h (I16 k17) [v1, v9, v11, v14, (.slice none 0 0), (.int .i64 0)] h15 ∧
∀ k19 : Nat, ∀ x20 : Value, ∀ x21 : Value, ∀ x22 : Value, ∀ x23 : Value, ∀ x24 : Value, ∀ x25 : Value, ∀ h26, I16 k19 [x20, x21, x22, x23, x24, x25] h26 →
(oW (binN .lss x25 x21) fun v27 =>
(bW v27
(oW (binN .add x21 (.int .i64 1)) fun v28 =>
(hW (mksW [(.bool false)] 1 h26 v28 v28) fun v29 h30 =>
(hW (bslW h30 1 [(.slice none 0 0)] [(0, 1, v29)]) fun v31 h32 =>
(hW (apW 1 24 h32 x24 v31) fun v33 h34 =>
(oW (binN .add x25 (.int .i64 1)) fun v35 =>
(∃ m18, m18 < k19 ∧ gcL h (I16 m18) [x20, x21, x22, x23, v33, v35] h34))))))
(oW (faW 4 1 x20) fun v36 =>
(oW (ldW false 1 h26 v36) fun v37 =>
(oW (iaS 1 x24 v37) fun v38 =>
(oW (ldW false 1 h26 v38) fun v39 =>
(oW (iaS 1 v39 x21) fun v40 =>
(sW (stW 1 h26 v40 (.bool true)) fun h41 =>
(∃ (I42 : Nat → List Value → Heap → Prop) (k43 : Nat), gcL h (I42 k43) [x20, x21, x22, x23, x24, (.int .i64 0)] h41 ∧
∀ k45 : Nat, ∀ x46 : Value, ∀ x47 : Value, ∀ x48 : Value, ∀ x49 : Value, ∀ x50 : Value, ∀ x51 : Value, ∀ h52, I42 k45 [x46, x47, x48, x49, x50, x51] h52 →
(oW (binN .mul x47 x47) fun v53 =>
(oW (binN .leq x51 v53) fun v54 =>
(bW v54
(∃ (I55 : Nat → List Value → Heap → Prop) (k56 : Nat), gcL h (I55 k56) [x46, x47, x48, x49, x50, x51, (.bool false), (.int .i64 0)] h52 ∧
∀ k58 : Nat, ∀ x59 : Value, ∀ x60 : Value, ∀ x61 : Value, ∀ x62 : Value, ∀ x63 : Value, ∀ x64 : Value, ∀ x65 : Value, ∀ x66 : Value, ∀ h67, I55 k58 [x59, x60, x61, x62, x63, x64, x65, x66] h67 →
(oW (faW 3 1 x59) fun v68 =>
(oW (ldW false 1 h67 v68) fun v69 =>
(oW (lenS v69) fun v70 =>
(oW (binN .lss x66 v70) fun v71 =>
(bW v71
(oW (faW 3 1 x59) fun v72 =>
(oW (ldW false 1 h67 v72) fun v73 =>
(oW (iaS 1 v73 x66) fun v74 =>
(oW (ldW false 1 h67 v74) fun v75 =>
(∃ (I76 : Nat → List Value → Heap → Prop) (k77 : Nat), gcL h (I76 k77) [x59, x60, x61, x62, x63, x64, x65, x66, v75, (.int .i64 1)] h67 ∧
∀ k79 : Nat, ∀ x80 : Value, ∀ x81 : Value, ∀ x82 : Value, ∀ x83 : Value, ∀ x84 : Value, ∀ x85 : Value, ∀ x86 : Value, ∀ x87 : Value, ∀ x88 : Value, ∀ x89 : Value, ∀ h90, I76 k79 [x80, x81, x82, x83, x84, x85, x86, x87, x88, x89] h90 →
(oW (lenS x88) fun v91 =>
(oW (binN .lss x89 v91) fun v92 =>
(bW v92
(oW (ldW true 5 h90 x80) fun v93 =>
(oW (binN .add x89 (.int .i64 1)) fun v94 =>
(oW (slS 1 h90 x88 (some v94) none none) fun v95 =>
(callW Try.prog (fn F_homographref17_row) [v93, x82, x83, v95] h90 fun v96 h97 =>
(keptW [x88, x80] h90 h97 ∧
(oW (extractA v96 0) fun v98 =>
(oW (extractA v96 1) fun v99 =>
(∃ (I100 : Nat → List Value → Heap → Prop) (k101 : Nat), gcL h (I100 k101) [x80, x81, x82, x83, x84, x85, x86, x87, x88, x89, v98, v99, (.int .i64 0)] h97 ∧
∀ k103 : Nat, ∀ x104 : Value, ∀ x105 : Value, ∀ x106 : Value, ∀ x107 : Value, ∀ x108 : Value, ∀ x109 : Value, ∀ x110 : Value, ∀ x111 : Value, ∀ x112 : Value, ∀ x113 : Value, ∀ x114 : Value, ∀ x115 : Value, ∀ x116 : Value, ∀ h117, I100 k103 [x104, x105, x106, x107, x108, x109, x110, x111, x112, x113, x114, x115, x116] h117 →
(oW (binN .leq x116 x105) fun v118 =>
(bW v118
(oW (iaS 1 x114 x116) fun v119 =>
(oW (ldW false 1 h117 v119) fun v120 =>
(bW v120
(oW (iaS 1 x112 x113) fun v121 =>
(oW (ldW false 1 h117 v121) fun v122 =>
(oW (iaS 1 x108 v122) fun v123 =>
(oW (ldW false 1 h117 v123) fun v124 =>
(oW (iaS 1 v124 x116) fun v125 =>
(oW (ldW false 1 h117 v125) fun v126 =>
(oW (unA .not v126) fun v127 =>
(bW v127
(oW (iaS 1 x112 x113) fun v128 =>
(oW (ldW false 1 h117 v128) fun v129 =>
(oW (iaS 1 x108 v129) fun v130 =>
(oW (ldW false 1 h117 v130) fun v131 =>
(oW (iaS 1 v131 x116) fun v132 =>
(sW (stW 1 h117 v132 (.bool true)) fun h133 =>
(oW (binN .add x116 (.int .i64 1)) fun v134 =>
(∃ m102, m102 < k103 ∧ gcL h (I100 m102) [x104, x105, x106, x107, x108, x109, (.bool true), x111, x112, x113, x114, x115, v134] h133))))))))
(oW (binN .add x116 (.int .i64 1)) fun v135 =>
(∃ m102, m102 < k103 ∧ gcL h (I100 m102) [x104, x105, x106, x107, x108, x109, x110, x111, x112, x113, x114, x115, v135] h117))))))))))
(bW x115
(oW (iaS 1 x112 (.int .i64 0)) fun v136 =>
(oW (ldW false 1 h117 v136) fun v137 =>
(oW (iaS 1 x108 v137) fun v138 =>
(oW (ldW false 1 h117 v138) fun v139 =>
(oW (iaS 1 v139 x116) fun v140 =>
(oW (ldW false 1 h117 v140) fun v141 =>
(bW v141
(oW (iaS 1 x112 x113) fun v142 =>
(oW (ldW false 1 h117 v142) fun v143 =>
(oW (iaS 1 x108 v143) fun v144 =>
(oW (ldW false 1 h117 v144) fun v145 =>
(oW (iaS 1 v145 x116) fun v146 =>
(oW (ldW false 1 h117 v146) fun v147 =>
(oW (unA .not v147) fun v148 =>
(bW v148
(oW (iaS 1 x112 x113) fun v149 =>
(oW (ldW false 1 h117 v149) fun v150 =>
(oW (iaS 1 x108 v150) fun v151 =>
(oW (ldW false 1 h117 v151) fun v152 =>
(oW (iaS 1 v152 x116) fun v153 =>
(sW (stW 1 h117 v153 (.bool true)) fun h154 =>
(oW (binN .add x116 (.int .i64 1)) fun v155 =>
(∃ m102, m102 < k103 ∧ gcL h (I100 m102) [x104, x105, x106, x107, x108, x109, (.bool true), x111, x112, x113, x114, x115, v155] h154))))))))
(oW (binN .add x116 (.int .i64 1)) fun v156 =>
(∃ m102, m102 < k103 ∧ gcL h (I100 m102) [x104, x105, x106, x107, x108, x109, x110, x111, x112, x113, x114, x115, v156] h117))))))))))
(bW (.bool false)
(oW (iaS 1 x112 x113) fun v157 =>
(oW (ldW false 1 h117 v157) fun v158 =>
(oW (iaS 1 x108 v158) fun v159 =>
(oW (ldW false 1 h117 v159) fun v160 =>
(oW (iaS 1 v160 x116) fun v161 =>
(sW (stW 1 h117 v161 (.bool true)) fun h162 =>
(oW (binN .add x116 (.int .i64 1)) fun v163 =>
(∃ m102, m102 < k103 ∧ gcL h (I100 m102) [x104, x105, x106, x107, x108, x109, (.bool true), x111, x112, x113, x114, x115, v163] h162))))))))
(oW (binN .add x116 (.int .i64 1)) fun v164 =>
(∃ m102, m102 < k103 ∧ gcL h (I100 m102) [x104, x105, x106, x107, x108, x109, x110, x111, x112, x113, x114, x115, v164] h117))))))))))
(bW (.bool false)
(oW (iaS 1 x112 x113) fun v165 =>
(oW (ldW false 1 h117 v165) fun v166 =>
(oW (iaS 1 x108 v166) fun v167 =>
(oW (ldW false 1 h117 v167) fun v168 =>
(oW (iaS 1 v168 x116) fun v169 =>
(oW (ldW false 1 h117 v169) fun v170 =>
(oW (unA .not v170) fun v171 =>
(bW v171
(oW (iaS 1 x112 x113) fun v172 =>
(oW (ldW false 1 h117 v172) fun v173 =>
(oW (iaS 1 x108 v173) fun v174 =>
(oW (ldW false 1 h117 v174) fun v175 =>
(oW (iaS 1 v175 x116) fun v176 =>
(sW (stW 1 h117 v176 (.bool true)) fun h177 =>
(oW (binN .add x116 (.int .i64 1)) fun v178 =>
(∃ m102, m102 < k103 ∧ gcL h (I100 m102) [x104, x105, x106, x107, x108, x109, (.bool true), x111, x112, x113, x114, x115, v178] h177))))))))
(oW (binN .add x116 (.int .i64 1)) fun v179 =>
(∃ m102, m102 < k103 ∧ gcL h (I100 m102) [x104, x105, x106, x107, x108, x109, x110, x111, x112, x113, x114, x115, v179] h117))))))))))
(bW (.bool false)
(oW (iaS 1 x112 x113) fun v180 =>
(oW (ldW false 1 h117 v180) fun v181 =>
(oW (iaS 1 x108 v181) fun v182 =>
(oW (ldW false 1 h117 v182) fun v183 =>
(oW (iaS 1 v183 x116) fun v184 =>
(sW (stW 1 h117 v184 (.bool true)) fun h185 =>
(oW (binN .add x116 (.int .i64 1)) fun v186 =>
(∃ m102, m102 < k103 ∧ gcL h (I100 m102) [x104, x105, x106, x107, x108, x109, (.bool true), x111, x112, x113, x114, x115, v186] h185))))))))
(oW (binN .add x116 (.int .i64 1)) fun v187 =>
(∃ m102, m102 < k103 ∧ gcL h (I100 m102) [x104, x105, x106, x107, x108, x109, x110, x111, x112, x113, x114, x115, v187] h117))))))))
(oW (binN .add x113 (.int .i64 1)) fun v188 =>
(∃ m78, m78 < k79 ∧ gcL h (I76 m78) [x104, x105, x106, x107, x108, x109, x110, x111, x112, v188] h117))))))))))))
(oW (binN .add x87 (.int .i64 1)) fun v189 =>
(∃ m57, m57 < k58 ∧ gcL h (I55 m57) [x80, x81, x82, x83, x84, x85, x86, v189] h90))))))))))
(oW (unA .not x65) fun v190 =>
(bW v190
(∃ (I191 : Nat → List Value → Heap → Prop) (k192 : Nat), gcL h (I191 k192) [x60, x63, (.slice none 0 0), (.int .i64 0)] h67 ∧
∀ k194 : Nat, ∀ x195 : Value, ∀ x196 : Value, ∀ x197 : Value, ∀ x198 : Value, ∀ h199, I191 k194 [x195, x196, x197, x198] h199 →
(oW (binN .lss x198 x195) fun v200 =>
(bW v200
(oW (iaS 1 x196 x198) fun v201 =>
(oW (ldW false 1 h199 v201) fun v202 =>
(callW Try.prog (fn F_homographref17_rising) [v202] h199 fun v203 h204 =>
(hW (bslW h204 1 [(.slice none 0 0)] [(0, 1, v203)]) fun v205 h206 =>
(hW (apW 1 24 h206 x197 v205) fun v207 h208 =>
(oW (binN .add x198 (.int .i64 1)) fun v209 =>
(∃ m193, m193 < k194 ∧ gcL h (I191 m193) [x195, x196, v207, v209] h208)))))))
(gcV h Q x197 h199))))
(oW (binN .add x64 (.int .i64 1)) fun v210 =>
(∃ m44, m44 < k45 ∧ gcL h (I42 m44) [x59, x60, x61, x62, x63, v210] h67))))))))))
(∃ (I211 : Nat → List Value → Heap → Prop) (k212 : Nat), gcL h (I211 k212) [x47, x50, (.slice none 0 0), (.int .i64 0)] h52 ∧
∀ k214 : Nat, ∀ x215 : Value, ∀ x216 : Value, ∀ x217 : Value, ∀ x218 : Value, ∀ h219, I211 k214 [x215, x216, x217, x218] h219 →
(oW (binN .lss x218 x215) fun v220 =>
(bW v220
(oW (iaS 1 x216 x218) fun v221 =>
(oW (ldW false 1 h219 v221) fun v222 =>
(callW Try.prog (fn F_homographref17_rising) [v222] h219 fun v223 h224 =>
(hW (bslW h224 1 [(.slice none 0 0)] [(0, 1, v223)]) fun v225 h226 =>
(hW (apW 1 24 h226 x217 v225) fun v227 h228 =>
(oW (binN .add x218 (.int .i64 1)) fun v229 =>
(∃ m213, m213 < k214 ∧ gcL h (I211 m213) [x215, x216, v227, v229] h228)))))))
(gcV h Q x217 h219)))))))))))))))))))))))))))))
theorem W_homographref17_Follow_eq (a0 : Value) (h : Heap) (Q : Value → Heap → Prop) : fW Try.prog ⟨[(33, [3, 6, 16, 17]), (25, [1, 3, 4, 5, 6, 8, 9, 10, 11, 12, 13, 14, 15]), (21, [1, 3, 4, 5, 6, 8, 9, 10, 11, 12]), (17, [1, 3, 4, 5, 6, 8, 9, 10]), (13, [1, 3, 4, 5, 6, 8]), (8, [1, 3, 4, 5, 6, 7])], []⟩ Try.f41 [a0] h Q = W_homographref17_Follow a0 h Q := by kernel_rfl
theorem W_homographref17_Follow_ok {a0 : Value} {h : Heap} {Q : Value → Heap → Prop} (e : W_homographref17_Follow a0 h Q) : acall Try.prog F_homographref17_Follow [a0] h Q :=
  by refine acall_of_fW mixed ⟨[(33, [3, 6, 16, 17]), (25, [1, 3, 4, 5, 6, 8, 9, 10, 11, 12, 13, 14, 15]), (21, [1, 3, 4, 5, 6, 8, 9, 10, 11, 12]), (17, [1, 3, 4, 5, 6, 8, 9, 10]), (13, [1, 3, 4, 5, 6, 8]), (8, [1, 3, 4, 5, 6, 7])], []⟩ Try.func41 (by kernel_rfl) ?_; rw [W_homographref17_Follow_eq]; exact e

/-- homograph/homographlaw17.within: loops {9: [0, 1, 5, 6, 7, 8], 5: [0, 1, 5, 6], 2: [0, 1, 5]}; joins {} -/
def W_homographlaw17_within (a0 a1 : Value) (h : Heap) (Q : Value → Heap → Prop) : Prop :=
(∃ (I1 : Nat → List Value → Heap → Prop) (k2 : Nat), gcL h (I1 k2) [a0, a1, (.int .i64 0)] h ∧
∀ k4 : Nat, ∀ x5 : Value, ∀ x6 : Value, ∀ x7 : Value, ∀ h8, I1 k4 [x5, x6, x7] h8 →
(oW (lenS x5) fun v9 =>
(oW (binN .lss x7 v9) fun v10 =>
(bW v10
(∃ (I11 : Nat → List Value → Heap → Prop) (k12 : Nat), gcL h (I11 k12) [x5, x6, x7, (.int .i64 0)] h8 ∧
∀ k14 : Nat, ∀ x15 : Value, ∀ x16 : Value, ∀ x17 : Value, ∀ x18 : Value, ∀ h19, I11 k14 [x15, x16, x17, x18] h19 →
(oW (iaS 1 x15 x17) fun v20 =>
(oW (ldW false 1 h19 v20) fun v21 =>
(oW (lenS v21) fun v22 =>
(oW (binN .lss x18 v22) fun v23 =>
(bW v23
(∃ (I24 : Nat → List Value → Heap → Prop) (k25 : Nat), gcL h (I24 k25) [x15, x16, x17, x18, (.bool false), (.int .i64 0)] h19 ∧
∀ k27 : Nat, ∀ x28 : Value, ∀ x29 : Value, ∀ x30 : Value, ∀ x31 : Value, ∀ x32 : Value, ∀ x33 : Value, ∀ h34, I24 k27 [x28, x29, x30, x31, x32, x33] h34 →
(oW (iaS 1 x29 x30) fun v35 =>
(oW (ldW false 1 h34 v35) fun v36 =>
(oW (lenS v36) fun v37 =>
(oW (binN .lss x33 v37) fun v38 =>
(bW v38
(bW x32
(oW (binN .add x33 (.int .i64 1)) fun v39 =>
(∃ m26, m26 < k27 ∧ gcL h (I24 m26) [x28, x29, x30, x31, (.bool true), v39] h34))
(oW (iaS 1 x29 x30) fun v40 =>
(oW (ldW false 1 h34 v40) fun v41 =>
(oW (iaS 1 v41 x33) fun v42 =>
(oW (ldW false 1 h34 v42) fun v43 =>
(oW (iaS 1 x28 x30) fun v44 =>
(oW (ldW false 1 h34 v44) fun v45 =>
(oW (iaS 1 v45 x31) fun v46 =>
(oW (ldW false 1 h34 v46) fun v47 =>
(oW (binN .eql v43 v47) fun v48 =>
(oW (binN .add x33 (.int .i64 1)) fun v49 =>
(∃ m26, m26 < k27 ∧ gcL h (I24 m26) [x28, x29, x30, x31, v48, v49] h34))))))))))))
(oW (unA .not x32) fun v50 =>
(bW v50
(gcV h Q (.bool false) h34)
(oW (binN .add x31 (.int .i64 1)) fun v51 =>
(∃ m13, m13 < k14 ∧ gcL h (I11 m13) [x28, x29, x30, v51] h34))))))))))
(oW (binN .add x17 (.int .i64 1)) fun v52 =>
(∃ m3, m3 < k4 ∧ gcL h (I1 m3) [x15, x16, v52] h19))))))))
(oW (lenS x5) fun v53 =>
(oW (lenS x6) fun v54 =>
(oW (binN .eql v53 v54) fun v55 =>
(gcV h Q v55 h8))))))))
theorem W_homographlaw17_within_eq (a0 a1 : Value) (h : Heap) (Q : Value → Heap → Prop) : fW Try.prog ⟨[(9, [0, 1, 5, 6, 7, 8]), (5, [0, 1, 5, 6]), (2, [0, 1, 5])], []⟩ Try.f42 [a0, a1] h Q = W_homographlaw17_within a0 a1 h Q := by kernel_rfl
theorem W_homographlaw17_within_ok {a0 a1 : Value} {h : Heap} {Q : Value → Heap → Prop} (e : W_homographlaw17_within a0 a1 h Q) : acall Try.prog F_homographlaw17_within [a0, a1] h Q :=
  by refine acall_of_fW mixed ⟨[(9, [0, 1, 5, 6, 7, 8]), (5, [0, 1, 5, 6]), (2, [0, 1, 5])], []⟩ Try.func42 (by kernel_rfl) ?_; rw [W_homographlaw17_within_eq]; exact e

/-- homograph/sets.marked: loops {5: [1, 2, 5, 15, 16]}; joins {} -/
def W_sets_marked (a0 a1 : Value) (h : Heap) (Q : Value → Heap → Prop) : Prop :=
(hW (boxA h a0) fun v1 h2 =>
(oW (ldW true 5 h2 v1) fun v3 =>
(callW Try.prog (fn F_sets_right) [v3] h2 fun v4 h5 =>
(oW (unA .not v4) fun v6 =>
(bW v6
(gcV h Q (.slice none 0 0) h5)
(oW (faW 0 1 v1) fun v7 =>
(oW (ldW false 1 h5 v7) fun v8 =>
(oW (lenS v8) fun v9 =>
(hW (mksW [(.bool false)] 1 h5 v9 v9) fun v10 h11 =>
(letH (h11 ++ [.row [(.slice none 0 0)] .exact]) fun h12 =>
(sW (stW 1 h12 (.pointer (some ⟨h11.length, 0, none⟩)) v10) fun h13 =>
(oW (faW 1 1 v1) fun v14 =>
(oW (ldW false 1 h13 v14) fun v15 =>
(∃ (I16 : Nat → List Value → Heap → Prop) (k17 : Nat), gcL h (I16 k17) [a1, v1, (.pointer (some ⟨h11.length, 0, none⟩)), v15, (.int .i64 0)] h13 ∧
∀ k19 : Nat, ∀ x20 : Value, ∀ x21 : Value, ∀ x22 : Value, ∀ x23 : Value, ∀ x24 : Value, ∀ h25, I16 k19 [x20, x21, x22, x23, x24] h25 →
(oW (binN .lss x24 x23) fun v26 =>
(bW v26
(oW (ldW false 1 h25 x22) fun v27 =>
(oW (iaS 1 v27 x24) fun v28 =>
(sW (stW 1 h25 v28 x20) fun h29 =>
(oW (binN .add x24 (.int .i64 1)) fun v30 =>
(∃ m18, m18 < k19 ∧ gcL h (I16 m18) [x20, x21, x22, x23, v30] h29)))))
(oW (faW 3 1 x21) fun v31 =>
(oW (ldW false 1 h25 v31) fun v32 =>
(callW Try.prog (fn F_sets_until_int) [v32, (.func (.func F_sets_marked_D1) #[] #[x22])] h25 fun v33 h34 =>
(oW (ldW false 1 h34 x22) fun v35 =>
(gcV h Q v35 h34)))))))))))))))))))))
theorem W_sets_marked_eq (a0 a1 : Value) (h : Heap) (Q : Value → Heap → Prop) : fW Try.prog ⟨[(5, [1, 2, 5, 15, 16])], []⟩ Try.f72 [a0, a1] h Q = W_sets_marked a0 a1 h Q := by kernel_rfl
theorem W_sets_marked_ok {a0 a1 : Value} {h : Heap} {Q : Value → Heap → Prop} (e : W_sets_marked a0 a1 h Q) : acall Try.prog F_sets_marked [a0, a1] h Q :=
  by refine acall_of_fW mixed ⟨[(5, [1, 2, 5, 15, 16])], []⟩ Try.func72 (by kernel_rfl) ?_; rw [W_sets_marked_eq]; exact e

/-- homograph/homographref17.right: loops {}; joins {} -/
def W_homographref17_right (a0 : Value) (h : Heap) (Q : Value → Heap → Prop) : Prop :=
(hW (boxA h a0) fun v1 h2 =>
(oW (ldW true 5 h2 v1) fun v3 =>
(callW Try.prog (fn F_homographref16_Check) [v3] h2 fun v4 h5 =>
(oW (binN .eql v4 (.int .i64 0)) fun v6 =>
(gcV h Q v6 h5)))))
theorem W_homographref17_right_eq (a0 : Value) (h : Heap) (Q : Value → Heap → Prop) : fW Try.prog ⟨[], []⟩ Try.f73 [a0] h Q = W_homographref17_right a0 h Q := by kernel_rfl
theorem W_homographref17_right_ok {a0 : Value} {h : Heap} {Q : Value → Heap → Prop} (e : W_homographref17_right a0 h Q) : acall Try.prog F_homographref17_right [a0] h Q :=
  by refine acall_of_fW mixed ⟨[], []⟩ Try.func73 (by kernel_rfl) ?_; rw [W_homographref17_right_eq]; exact e

/-- homograph/sets.right: loops {}; joins {} -/
def W_sets_right (a0 : Value) (h : Heap) (Q : Value → Heap → Prop) : Prop :=
(hW (boxA h a0) fun v1 h2 =>
(oW (ldW true 5 h2 v1) fun v3 =>
(callW Try.prog (fn F_symbols_Check) [v3] h2 fun v4 h5 =>
(oW (binN .eql v4 (.int .i64 0)) fun v6 =>
(gcV h Q v6 h5)))))
theorem W_sets_right_eq (a0 : Value) (h : Heap) (Q : Value → Heap → Prop) : fW Try.prog ⟨[], []⟩ Try.f74 [a0] h Q = W_sets_right a0 h Q := by kernel_rfl
theorem W_sets_right_ok {a0 : Value} {h : Heap} {Q : Value → Heap → Prop} (e : W_sets_right a0 h Q) : acall Try.prog F_sets_right [a0] h Q :=
  by refine acall_of_fW mixed ⟨[], []⟩ Try.func74 (by kernel_rfl) ?_; rw [W_sets_right_eq]; exact e

/-- homograph/symbols.By: loops {3: [1, 5, 9, 10, 11]}; joins {} -/
def W_symbols_By (a0 a1 : Value) (h : Heap) (Q : Value → Heap → Prop) : Prop :=
(hW (boxA h a0) fun v1 h2 =>
(oW (faW 3 1 v1) fun v3 =>
(oW (ldW false 1 h2 v3) fun v4 =>
(oW (lenS v4) fun v5 =>
(∃ (I6 : Nat → List Value → Heap → Prop) (k7 : Nat), gcL h (I6 k7) [a1, (.slice none 0 0), v4, v5, (.int .i64 0)] h2 ∧
∀ k9 : Nat, ∀ x10 : Value, ∀ x11 : Value, ∀ x12 : Value, ∀ x13 : Value, ∀ x14 : Value, ∀ h15, I6 k9 [x10, x11, x12, x13, x14] h15 →
(oW (binN .lss x14 x13) fun v16 =>
(bW v16
(oW (iaS 1 x12 x14) fun v17 =>
(oW (ldW false 1 h15 v17) fun v18 =>
(oW (lenS v18) fun v19 =>
(oW (binN .gtr v19 (.int .i64 0)) fun v20 =>
(bW v20
(oW (iaS 1 v18 (.int .i64 0)) fun v21 =>
(oW (ldW false 1 h15 v21) fun v22 =>
(oW (binN .eql v22 x10) fun v23 =>
(bW v23
(hW (bslW h15 1 [(.int .i64 0)] [(0, 1, x14)]) fun v24 h25 =>
(hW (apW 1 8 h25 x11 v24) fun v26 h27 =>
(oW (binN .add x14 (.int .i64 1)) fun v28 =>
(∃ m8, m8 < k9 ∧ gcL h (I6 m8) [x10, v26, x12, x13, v28] h27))))
(oW (binN .add x14 (.int .i64 1)) fun v29 =>
(∃ m8, m8 < k9 ∧ gcL h (I6 m8) [x10, x11, x12, x13, v29] h15))))))
(bW (.bool false)
(hW (bslW h15 1 [(.int .i64 0)] [(0, 1, x14)]) fun v30 h31 =>
(hW (apW 1 8 h31 x11 v30) fun v32 h33 =>
(oW (binN .add x14 (.int .i64 1)) fun v34 =>
(∃ m8, m8 < k9 ∧ gcL h (I6 m8) [x10, v32, x12, x13, v34] h33))))
(oW (binN .add x14 (.int .i64 1)) fun v35 =>
(∃ m8, m8 < k9 ∧ gcL h (I6 m8) [x10, x11, x12, x13, v35] h15))))))))
(gcV h Q x11 h15))))))))
theorem W_symbols_By_eq (a0 a1 : Value) (h : Heap) (Q : Value → Heap → Prop) : fW Try.prog ⟨[(3, [1, 5, 9, 10, 11])], []⟩ Try.f75 [a0, a1] h Q = W_symbols_By a0 a1 h Q := by kernel_rfl
theorem W_symbols_By_ok {a0 a1 : Value} {h : Heap} {Q : Value → Heap → Prop} (e : W_symbols_By a0 a1 h Q) : acall Try.prog F_symbols_By [a0, a1] h Q :=
  by refine acall_of_fW mixed ⟨[(3, [1, 5, 9, 10, 11])], []⟩ Try.func75 (by kernel_rfl) ?_; rw [W_symbols_By_eq]; exact e

/-- homograph/sets.viewed: loops {3: [1, 2, 3, 12, 13]}; joins {} -/
def W_sets_viewed (a0 : Value) (h : Heap) (Q : Value → Heap → Prop) : Prop :=
(hW (boxA h a0) fun v1 h2 =>
(letH (h2 ++ [.row [(.slice none 0 0), (.int .i64 0), (.slice none 0 0), (.slice none 0 0), (.int .i64 0), (.slice none 0 0), (.slice none 0 0)] .exact]) fun h3 =>
(oW (ldW true 5 h3 v1) fun v4 =>
(oW (ldW true 5 h3 v1) fun v5 =>
((True) ∧
(callW Try.prog (fn F_sets_Nullable) [v5] h3 fun v6 h7 =>
(keptW [v1, v1] h3 h7 ∧
(oW (bldW [(.slice none 0 0), (.int .i64 0), (.slice none 0 0), (.slice none 0 0), (.int .i64 0), (.slice none 0 0), (.slice none 0 0)] [(0, 5, v4), (5, 1, v6)]) fun v8 =>
(letH (h7 ++ [.row [(.slice none 0 0), (.int .i64 0), (.slice none 0 0), (.slice none 0 0), (.int .i64 0), (.slice none 0 0), (.slice none 0 0)] .exact]) fun h9 =>
(keptW [v1, v1] h7 h9 ∧
(sW (stW 7 h9 (.pointer (some ⟨h7.length, 0, none⟩)) v8) fun h10 =>
(oW (faW 0 1 v1) fun v11 =>
(oW (ldW false 1 h10 v11) fun v12 =>
(oW (lenS v12) fun v13 =>
(∃ (I14 : Nat → List Value → Heap → Prop) (k15 : Nat), gcL h (I14 k15) [v1, (.pointer (some ⟨h2.length, 0, none⟩)), (.pointer (some ⟨h7.length, 0, none⟩)), v13, (.int .i64 0)] h10 ∧
∀ k17 : Nat, ∀ x18 : Value, ∀ x19 : Value, ∀ x20 : Value, ∀ x21 : Value, ∀ x22 : Value, ∀ h23, I14 k17 [x18, x19, x20, x21, x22] h23 →
(oW (binN .lss x22 x21) fun v24 =>
(bW v24
(letH (h23 ++ [.map []]) fun h25 =>
(oW (faW 1 1 x18) fun v26 =>
(oW (ldW false 1 h25 v26) fun v27 =>
(oW (binN .lss x22 v27) fun v28 =>
(bW v28
(sW (upS (.int .i64) h25 (.map (some h23.length)) x22 (.bool true)) fun h29 =>
(oW (faW 6 1 x20) fun v30 =>
(oW (ldW false 1 h29 v30) fun v31 =>
(hW (bslW h29 1 [(.map none)] [(0, 1, (.map (some h23.length)))]) fun v32 h33 =>
(hW (apW 1 8 h33 v31 v32) fun v34 h35 =>
(oW (faW 6 1 x20) fun v36 =>
(sW (stW 1 h35 v36 v34) fun h37 =>
(oW (binN .add x22 (.int .i64 1)) fun v38 =>
(∃ m16, m16 < k17 ∧ gcL h (I14 m16) [x18, x19, x20, x21, v38] h37)))))))))
(oW (faW 6 1 x20) fun v39 =>
(oW (ldW false 1 h25 v39) fun v40 =>
(hW (bslW h25 1 [(.map none)] [(0, 1, (.map (some h23.length)))]) fun v41 h42 =>
(hW (apW 1 8 h42 v40 v41) fun v43 h44 =>
(oW (faW 6 1 x20) fun v45 =>
(sW (stW 1 h44 v45 v43) fun h46 =>
(oW (binN .add x22 (.int .i64 1)) fun v47 =>
(∃ m16, m16 < k17 ∧ gcL h (I14 m16) [x18, x19, x20, x21, v47] h46)))))))))))))
(oW (faW 3 1 x18) fun v48 =>
(oW (ldW false 1 h23 v48) fun v49 =>
(callW Try.prog (fn F_sets_until_int) [v49, (.func (.func F_sets_viewed_D1) #[] #[x20])] h23 fun v50 h51 =>
(oW (ldW true 7 h51 x20) fun v52 =>
(sW (stW 7 h51 x19 v52) fun h53 =>
(oW (ldP true 7 h53 x19) fun v54 =>
(gcV h Q v54 h53))))))))))))))))))))))))
theorem W_sets_viewed_eq (a0 : Value) (h : Heap) (Q : Value → Heap → Prop) : fW Try.prog ⟨[(3, [1, 2, 3, 12, 13])], []⟩ Try.f76 [a0] h Q = W_sets_viewed a0 h Q := by kernel_rfl
theorem W_sets_viewed_ok {a0 : Value} {h : Heap} {Q : Value → Heap → Prop} (e : W_sets_viewed a0 h Q) : acall Try.prog F_sets_viewed [a0] h Q :=
  by refine acall_of_fW mixed ⟨[(3, [1, 2, 3, 12, 13])], []⟩ Try.func76 (by kernel_rfl) ?_; rw [W_sets_viewed_eq]; exact e

/-- (homograph/sets.view).row: loops {3: [2, 6, 10, 11, 12]}; joins {} -/
def W_sets_view_row (a0 a1 : Value) (h : Heap) (Q : Value → Heap → Prop) : Prop :=
(hW (boxA h a0) fun v1 h2 =>
(letH (h2 ++ [.map []]) fun h3 =>
(oW (lenS a1) fun v4 =>
(∃ (I5 : Nat → List Value → Heap → Prop) (k6 : Nat), gcL h (I5 k6) [v1, (.map (some h2.length)), a1, v4, (.int .i64 0)] h3 ∧
∀ k8 : Nat, ∀ x9 : Value, ∀ x10 : Value, ∀ x11 : Value, ∀ x12 : Value, ∀ x13 : Value, ∀ h14, I5 k8 [x9, x10, x11, x12, x13] h14 →
(oW (binN .lss x13 x12) fun v15 =>
(bW v15
(oW (iaS 1 x11 x13) fun v16 =>
(oW (ldW false 1 h14 v16) fun v17 =>
(oW (binN .lss v17 (.int .i64 0)) fun v18 =>
(bW v18
(bW (.bool true)
(gcV h Q (.tuple #[x10, (.bool false)]) h14)
(oW (faW 6 1 x9) fun v19 =>
(oW (ldW false 1 h14 v19) fun v20 =>
(oW (iaS 1 v20 v17) fun v21 =>
(oW (ldW false 1 h14 v21) fun v22 =>
(callW Try.prog (fn F_sets_set_add) [x10, v22] h14 fun v23 h24 =>
(oW (faW 5 1 x9) fun v25 =>
(oW (ldW false 1 h24 v25) fun v26 =>
(oW (iaS 1 v26 v17) fun v27 =>
(oW (ldW false 1 h24 v27) fun v28 =>
(oW (unA .not v28) fun v29 =>
(bW v29
(gcV h Q (.tuple #[x10, (.bool false)]) h24)
(oW (binN .add x13 (.int .i64 1)) fun v30 =>
(∃ m7, m7 < k8 ∧ gcL h (I5 m7) [x9, x10, x11, x12, v30] h24))))))))))))))
(oW (faW 0 5 x9) fun v31 =>
(oW (faW 0 1 v31) fun v32 =>
(oW (ldW false 1 h14 v32) fun v33 =>
(oW (lenS v33) fun v34 =>
(oW (binN .geq v17 v34) fun v35 =>
(bW v35
(gcV h Q (.tuple #[x10, (.bool false)]) h14)
(oW (faW 6 1 x9) fun v36 =>
(oW (ldW false 1 h14 v36) fun v37 =>
(oW (iaS 1 v37 v17) fun v38 =>
(oW (ldW false 1 h14 v38) fun v39 =>
(callW Try.prog (fn F_sets_set_add) [x10, v39] h14 fun v40 h41 =>
(oW (faW 5 1 x9) fun v42 =>
(oW (ldW false 1 h41 v42) fun v43 =>
(oW (iaS 1 v43 v17) fun v44 =>
(oW (ldW false 1 h41 v44) fun v45 =>
(oW (unA .not v45) fun v46 =>
(bW v46
(gcV h Q (.tuple #[x10, (.bool false)]) h41)
(oW (binN .add x13 (.int .i64 1)) fun v47 =>
(∃ m7, m7 < k8 ∧ gcL h (I5 m7) [x9, x10, x11, x12, v47] h41)))))))))))))))))))))))
(gcV h Q (.tuple #[x10, (.bool true)]) h14)))))))
theorem W_sets_view_row_eq (a0 a1 : Value) (h : Heap) (Q : Value → Heap → Prop) : fW Try.prog ⟨[(3, [2, 6, 10, 11, 12])], []⟩ Try.f77 [a0, a1] h Q = W_sets_view_row a0 a1 h Q := by kernel_rfl
theorem W_sets_view_row_ok {a0 a1 : Value} {h : Heap} {Q : Value → Heap → Prop} (e : W_sets_view_row a0 a1 h Q) : acall Try.prog F_sets_view_row [a0, a1] h Q :=
  by refine acall_of_fW mixed ⟨[(3, [2, 6, 10, 11, 12])], []⟩ Try.func77 (by kernel_rfl) ?_; rw [W_sets_view_row_eq]; exact e

/-- maps.Keys[homograph/sets.set,int,bool]: loops {}; joins {} -/
def W_maps_Keys_sets_set_int_bool (a0 : Value) (h : Heap) (Q : Value → Heap → Prop) : Prop :=
(hW (boxA h a0) fun v1 h2 =>
(gcV h Q (.func (.func F_maps_Keys_sets_set_int_bool_D1) #[] #[v1]) h2))
theorem W_maps_Keys_sets_set_int_bool_eq (a0 : Value) (h : Heap) (Q : Value → Heap → Prop) : fW Try.prog ⟨[], []⟩ Try.f78 [a0] h Q = W_maps_Keys_sets_set_int_bool a0 h Q := by kernel_rfl
theorem W_maps_Keys_sets_set_int_bool_ok {a0 : Value} {h : Heap} {Q : Value → Heap → Prop} (e : W_maps_Keys_sets_set_int_bool a0 h Q) : acall Try.prog F_maps_Keys_sets_set_int_bool [a0] h Q :=
  by refine acall_of_fW mixed ⟨[], []⟩ Try.func78 (by kernel_rfl) ?_; rw [W_maps_Keys_sets_set_int_bool_eq]; exact e

/-- homograph/homographref17.row: loops {8: [1, 2, 3, 4, 10, 11, 12], 3: [1, 2, 3, 4, 10, 11]}; joins {} -/
def W_homographref17_row (a0 a1 a2 a3 : Value) (h : Heap) (Q : Value → Heap → Prop) : Prop :=
(hW (boxA h a0) fun v1 h2 =>
(oW (faW 0 1 v1) fun v3 =>
(oW (ldW false 1 h2 v3) fun v4 =>
(oW (lenS v4) fun v5 =>
(oW (binN .add v5 (.int .i64 1)) fun v6 =>
(hW (mksW [(.bool false)] 1 h2 v6 v6) fun v7 h8 =>
(∃ (I9 : Nat → List Value → Heap → Prop) (k10 : Nat), gcL h (I9 k10) [a1, a2, a3, v1, v7, (.int .i64 0)] h8 ∧
∀ k12 : Nat, ∀ x13 : Value, ∀ x14 : Value, ∀ x15 : Value, ∀ x16 : Value, ∀ x17 : Value, ∀ x18 : Value, ∀ h19, I9 k12 [x13, x14, x15, x16, x17, x18] h19 →
(oW (lenS x15) fun v20 =>
(oW (binN .lss x18 v20) fun v21 =>
(bW v21
(oW (iaS 1 x15 x18) fun v22 =>
(oW (ldW false 1 h19 v22) fun v23 =>
(oW (binN .lss v23 (.int .i64 0)) fun v24 =>
(bW v24
(bW (.bool true)
(gcV h Q (.tuple #[x17, (.bool false)]) h19)
(∃ (I25 : Nat → List Value → Heap → Prop) (k26 : Nat), gcL h (I25 k26) [x13, x14, x15, x16, x17, x18, (.int .i64 0)] h19 ∧
∀ k28 : Nat, ∀ x29 : Value, ∀ x30 : Value, ∀ x31 : Value, ∀ x32 : Value, ∀ x33 : Value, ∀ x34 : Value, ∀ x35 : Value, ∀ h36, I25 k28 [x29, x30, x31, x32, x33, x34, x35] h36 →
(oW (faW 1 1 x32) fun v37 =>
(oW (ldW false 1 h36 v37) fun v38 =>
(oW (binN .lss x35 v38) fun v39 =>
(bW v39
(oW (iaS 1 x33 x35) fun v40 =>
(oW (ldW false 1 h36 v40) fun v41 =>
(bW v41
(oW (iaS 1 x33 x35) fun v42 =>
(sW (stW 1 h36 v42 (.bool true)) fun h43 =>
(oW (binN .add x35 (.int .i64 1)) fun v44 =>
(∃ m27, m27 < k28 ∧ gcL h (I25 m27) [x29, x30, x31, x32, x33, x34, v44] h43))))
(oW (iaS 1 x31 x34) fun v45 =>
(oW (ldW false 1 h36 v45) fun v46 =>
(oW (iaS 1 x29 v46) fun v47 =>
(oW (ldW false 1 h36 v47) fun v48 =>
(oW (iaS 1 v48 x35) fun v49 =>
(oW (ldW false 1 h36 v49) fun v50 =>
(oW (iaS 1 x33 x35) fun v51 =>
(sW (stW 1 h36 v51 v50) fun h52 =>
(oW (binN .add x35 (.int .i64 1)) fun v53 =>
(∃ m27, m27 < k28 ∧ gcL h (I25 m27) [x29, x30, x31, x32, x33, x34, v53] h52)))))))))))))
(oW (iaS 1 x31 x34) fun v54 =>
(oW (ldW false 1 h36 v54) fun v55 =>
(oW (iaS 1 x30 v55) fun v56 =>
(oW (ldW false 1 h36 v56) fun v57 =>
(oW (unA .not v57) fun v58 =>
(bW v58
(gcV h Q (.tuple #[x33, (.bool false)]) h36)
(oW (binN .add x34 (.int .i64 1)) fun v59 =>
(∃ m11, m11 < k12 ∧ gcL h (I9 m11) [x29, x30, x31, x32, x33, v59] h36))))))))))))))
(oW (iaS 1 x15 x18) fun v60 =>
(oW (ldW false 1 h19 v60) fun v61 =>
(oW (faW 0 1 x16) fun v62 =>
(oW (ldW false 1 h19 v62) fun v63 =>
(oW (lenS v63) fun v64 =>
(oW (binN .geq v61 v64) fun v65 =>
(bW v65
(gcV h Q (.tuple #[x17, (.bool false)]) h19)
(∃ (I66 : Nat → List Value → Heap → Prop) (k67 : Nat), gcL h (I66 k67) [x13, x14, x15, x16, x17, x18, (.int .i64 0)] h19 ∧
∀ k69 : Nat, ∀ x70 : Value, ∀ x71 : Value, ∀ x72 : Value, ∀ x73 : Value, ∀ x74 : Value, ∀ x75 : Value, ∀ x76 : Value, ∀ h77, I66 k69 [x70, x71, x72, x73, x74, x75, x76] h77 →
(oW (faW 1 1 x73) fun v78 =>
(oW (ldW false 1 h77 v78) fun v79 =>
(oW (binN .lss x76 v79) fun v80 =>
(bW v80
(oW (iaS 1 x74 x76) fun v81 =>
(oW (ldW false 1 h77 v81) fun v82 =>
(bW v82
(oW (iaS 1 x74 x76) fun v83 =>
(sW (stW 1 h77 v83 (.bool true)) fun h84 =>
(oW (binN .add x76 (.int .i64 1)) fun v85 =>
(∃ m68, m68 < k69 ∧ gcL h (I66 m68) [x70, x71, x72, x73, x74, x75, v85] h84))))
(oW (iaS 1 x72 x75) fun v86 =>
(oW (ldW false 1 h77 v86) fun v87 =>
(oW (iaS 1 x70 v87) fun v88 =>
(oW (ldW false 1 h77 v88) fun v89 =>
(oW (iaS 1 v89 x76) fun v90 =>
(oW (ldW false 1 h77 v90) fun v91 =>
(oW (iaS 1 x74 x76) fun v92 =>
(sW (stW 1 h77 v92 v91) fun h93 =>
(oW (binN .add x76 (.int .i64 1)) fun v94 =>
(∃ m68, m68 < k69 ∧ gcL h (I66 m68) [x70, x71, x72, x73, x74, x75, v94] h93)))))))))))))
(oW (iaS 1 x72 x75) fun v95 =>
(oW (ldW false 1 h77 v95) fun v96 =>
(oW (iaS 1 x71 v96) fun v97 =>
(oW (ldW false 1 h77 v97) fun v98 =>
(oW (unA .not v98) fun v99 =>
(bW v99
(gcV h Q (.tuple #[x74, (.bool false)]) h77)
(oW (binN .add x75 (.int .i64 1)) fun v100 =>
(∃ m11, m11 < k12 ∧ gcL h (I9 m11) [x70, x71, x72, x73, x74, v100] h77))))))))))))))))))))))))
(gcV h Q (.tuple #[x17, (.bool true)]) h19)))))))))))
theorem W_homographref17_row_eq (a0 a1 a2 a3 : Value) (h : Heap) (Q : Value → Heap → Prop) : fW Try.prog ⟨[(8, [1, 2, 3, 4, 10, 11, 12]), (3, [1, 2, 3, 4, 10, 11])], []⟩ Try.f79 [a0, a1, a2, a3] h Q = W_homographref17_row a0 a1 a2 a3 h Q := by kernel_rfl
theorem W_homographref17_row_ok {a0 a1 a2 a3 : Value} {h : Heap} {Q : Value → Heap → Prop} (e : W_homographref17_row a0 a1 a2 a3 h Q) : acall Try.prog F_homographref17_row [a0, a1, a2, a3] h Q :=
  by refine acall_of_fW mixed ⟨[(8, [1, 2, 3, 4, 10, 11, 12]), (3, [1, 2, 3, 4, 10, 11])], []⟩ Try.func79 (by kernel_rfl) ?_; rw [W_homographref17_row_eq]; exact e

/-- homograph/homographref17.firsts: loops {22: [1, 3, 4, 7, 8, 9, 10, 11, 12], 19: [1, 3, 4, 7, 8, 9, 10, 11], 14: [1, 3, 4, 7, 8], 11: [1, 3, 4, 7], 4: [1, 3, 4, 5]}; joins {} -/
def W_homographref17_firsts (a0 : Value) (h : Heap) (Q : Value → Heap → Prop) : Prop :=
(hW (boxA h a0) fun v1 h2 =>
(oW (ldW true 5 h2 v1) fun v3 =>
(callW Try.prog (fn F_homographref17_Nullable) [v3] h2 fun v4 h5 =>
(∃ (I6 : Nat → List Value → Heap → Prop) (k7 : Nat), gcL h (I6 k7) [v1, v4, (.slice none 0 0), (.int .i64 0)] h5 ∧
∀ k9 : Nat, ∀ x10 : Value, ∀ x11 : Value, ∀ x12 : Value, ∀ x13 : Value, ∀ h14, I6 k9 [x10, x11, x12, x13] h14 →
(oW (faW 0 1 x10) fun v15 =>
(oW (ldW false 1 h14 v15) fun v16 =>
(oW (lenS v16) fun v17 =>
(oW (binN .lss x13 v17) fun v18 =>
(bW v18
(oW (faW 0 1 x10) fun v19 =>
(oW (ldW false 1 h14 v19) fun v20 =>
(oW (lenS v20) fun v21 =>
(oW (binN .add v21 (.int .i64 1)) fun v22 =>
(hW (mksW [(.bool false)] 1 h14 v22 v22) fun v23 h24 =>
(oW (faW 1 1 x10) fun v25 =>
(oW (ldW false 1 h24 v25) fun v26 =>
(oW (binN .lss x13 v26) fun v27 =>
(bW v27
(oW (iaS 1 v23 x13) fun v28 =>
(sW (stW 1 h24 v28 (.bool true)) fun h29 =>
(hW (bslW h29 1 [(.slice none 0 0)] [(0, 1, v23)]) fun v30 h31 =>
(hW (apW 1 24 h31 x12 v30) fun v32 h33 =>
(oW (binN .add x13 (.int .i64 1)) fun v34 =>
(∃ m8, m8 < k9 ∧ gcL h (I6 m8) [x10, x11, v32, v34] h33))))))
(hW (bslW h24 1 [(.slice none 0 0)] [(0, 1, v23)]) fun v35 h36 =>
(hW (apW 1 24 h36 x12 v35) fun v37 h38 =>
(oW (binN .add x13 (.int .i64 1)) fun v39 =>
(∃ m8, m8 < k9 ∧ gcL h (I6 m8) [x10, x11, v37, v39] h38)))))))))))))
(∃ (I40 : Nat → List Value → Heap → Prop) (k41 : Nat), gcL h (I40 k41) [x10, x11, x12, (.int .i64 0)] h14 ∧
∀ k43 : Nat, ∀ x44 : Value, ∀ x45 : Value, ∀ x46 : Value, ∀ x47 : Value, ∀ h48, I40 k43 [x44, x45, x46, x47] h48 →
(oW (faW 0 1 x44) fun v49 =>
(oW (ldW false 1 h48 v49) fun v50 =>
(oW (lenS v50) fun v51 =>
(oW (binN .leq x47 v51) fun v52 =>
(bW v52
(∃ (I53 : Nat → List Value → Heap → Prop) (k54 : Nat), gcL h (I53 k54) [x44, x45, x46, x47, (.int .i64 0)] h48 ∧
∀ k56 : Nat, ∀ x57 : Value, ∀ x58 : Value, ∀ x59 : Value, ∀ x60 : Value, ∀ x61 : Value, ∀ h62, I53 k56 [x57, x58, x59, x60, x61] h62 →
(oW (faW 3 1 x57) fun v63 =>
(oW (ldW false 1 h62 v63) fun v64 =>
(oW (lenS v64) fun v65 =>
(oW (binN .lss x61 v65) fun v66 =>
(bW v66
(oW (faW 3 1 x57) fun v67 =>
(oW (ldW false 1 h62 v67) fun v68 =>
(oW (iaS 1 v68 x61) fun v69 =>
(oW (ldW false 1 h62 v69) fun v70 =>
(∃ (I71 : Nat → List Value → Heap → Prop) (k72 : Nat), gcL h (I71 k72) [x57, x58, x59, x60, x61, v70, (.bool true), (.int .i64 1)] h62 ∧
∀ k74 : Nat, ∀ x75 : Value, ∀ x76 : Value, ∀ x77 : Value, ∀ x78 : Value, ∀ x79 : Value, ∀ x80 : Value, ∀ x81 : Value, ∀ x82 : Value, ∀ h83, I71 k74 [x75, x76, x77, x78, x79, x80, x81, x82] h83 →
(oW (lenS x80) fun v84 =>
(oW (binN .lss x82 v84) fun v85 =>
(bW v85
(∃ (I86 : Nat → List Value → Heap → Prop) (k87 : Nat), gcL h (I86 k87) [x75, x76, x77, x78, x79, x80, x81, x82, (.int .i64 0)] h83 ∧
∀ k89 : Nat, ∀ x90 : Value, ∀ x91 : Value, ∀ x92 : Value, ∀ x93 : Value, ∀ x94 : Value, ∀ x95 : Value, ∀ x96 : Value, ∀ x97 : Value, ∀ x98 : Value, ∀ h99, I86 k89 [x90, x91, x92, x93, x94, x95, x96, x97, x98] h99 →
(oW (faW 1 1 x90) fun v100 =>
(oW (ldW false 1 h99 v100) fun v101 =>
(oW (binN .lss x98 v101) fun v102 =>
(bW v102
(bW x96
(oW (iaS 1 x95 (.int .i64 0)) fun v103 =>
(oW (ldW false 1 h99 v103) fun v104 =>
(oW (iaS 1 x92 v104) fun v105 =>
(oW (ldW false 1 h99 v105) fun v106 =>
(oW (iaS 1 x95 (.int .i64 0)) fun v107 =>
(oW (ldW false 1 h99 v107) fun v108 =>
(oW (iaS 1 x92 v108) fun v109 =>
(oW (ldW false 1 h99 v109) fun v110 =>
(oW (iaS 1 v110 x98) fun v111 =>
(oW (ldW false 1 h99 v111) fun v112 =>
(bW v112
(oW (iaS 1 v106 x98) fun v113 =>
(sW (stW 1 h99 v113 (.bool true)) fun h114 =>
(oW (binN .add x98 (.int .i64 1)) fun v115 =>
(∃ m88, m88 < k89 ∧ gcL h (I86 m88) [x90, x91, x92, x93, x94, x95, x96, x97, v115] h114))))
(oW (iaS 1 x95 x97) fun v116 =>
(oW (ldW false 1 h99 v116) fun v117 =>
(oW (iaS 1 x92 v117) fun v118 =>
(oW (ldW false 1 h99 v118) fun v119 =>
(oW (iaS 1 v119 x98) fun v120 =>
(oW (ldW false 1 h99 v120) fun v121 =>
(oW (iaS 1 v106 x98) fun v122 =>
(sW (stW 1 h99 v122 v121) fun h123 =>
(oW (binN .add x98 (.int .i64 1)) fun v124 =>
(∃ m88, m88 < k89 ∧ gcL h (I86 m88) [x90, x91, x92, x93, x94, x95, x96, x97, v124] h123)))))))))))))))))))))
(bW x96
(oW (iaS 1 x95 x97) fun v125 =>
(oW (ldW false 1 h99 v125) fun v126 =>
(oW (iaS 1 x91 v126) fun v127 =>
(oW (ldW false 1 h99 v127) fun v128 =>
(oW (binN .add x97 (.int .i64 1)) fun v129 =>
(∃ m73, m73 < k74 ∧ gcL h (I71 m73) [x90, x91, x92, x93, x94, x95, v128, v129] h99))))))
(oW (binN .add x97 (.int .i64 1)) fun v130 =>
(∃ m73, m73 < k74 ∧ gcL h (I71 m73) [x90, x91, x92, x93, x94, x95, (.bool false), v130] h99))))
(bW (.bool false)
(oW (iaS 1 x95 (.int .i64 0)) fun v131 =>
(oW (ldW false 1 h99 v131) fun v132 =>
(oW (iaS 1 x92 v132) fun v133 =>
(oW (ldW false 1 h99 v133) fun v134 =>
(oW (iaS 1 x95 (.int .i64 0)) fun v135 =>
(oW (ldW false 1 h99 v135) fun v136 =>
(oW (iaS 1 x92 v136) fun v137 =>
(oW (ldW false 1 h99 v137) fun v138 =>
(oW (iaS 1 v138 x98) fun v139 =>
(oW (ldW false 1 h99 v139) fun v140 =>
(bW v140
(oW (iaS 1 v134 x98) fun v141 =>
(sW (stW 1 h99 v141 (.bool true)) fun h142 =>
(oW (binN .add x98 (.int .i64 1)) fun v143 =>
(∃ m88, m88 < k89 ∧ gcL h (I86 m88) [x90, x91, x92, x93, x94, x95, x96, x97, v143] h142))))
(oW (iaS 1 x95 x97) fun v144 =>
(oW (ldW false 1 h99 v144) fun v145 =>
(oW (iaS 1 x92 v145) fun v146 =>
(oW (ldW false 1 h99 v146) fun v147 =>
(oW (iaS 1 v147 x98) fun v148 =>
(oW (ldW false 1 h99 v148) fun v149 =>
(oW (iaS 1 v134 x98) fun v150 =>
(sW (stW 1 h99 v150 v149) fun h151 =>
(oW (binN .add x98 (.int .i64 1)) fun v152 =>
(∃ m88, m88 < k89 ∧ gcL h (I86 m88) [x90, x91, x92, x93, x94, x95, x96, x97, v152] h151)))))))))))))))))))))
(bW x96
(oW (iaS 1 x95 x97) fun v153 =>
(oW (ldW false 1 h99 v153) fun v154 =>
(oW (iaS 1 x91 v154) fun v155 =>
(oW (ldW false 1 h99 v155) fun v156 =>
(oW (binN .add x97 (.int .i64 1)) fun v157 =>
(∃ m73, m73 < k74 ∧ gcL h (I71 m73) [x90, x91, x92, x93, x94, x95, v156, v157] h99))))))
(oW (binN .add x97 (.int .i64 1)) fun v158 =>
(∃ m73, m73 < k74 ∧ gcL h (I71 m73) [x90, x91, x92, x93, x94, x95, (.bool false), v158] h99)))))))))
(oW (binN .add x79 (.int .i64 1)) fun v159 =>
(∃ m55, m55 < k56 ∧ gcL h (I53 m55) [x75, x76, x77, x78, v159] h83))))))))))
(oW (binN .add x60 (.int .i64 1)) fun v160 =>
(∃ m42, m42 < k43 ∧ gcL h (I40 m42) [x57, x58, x59, v160] h62))))))))
(gcV h Q x46 h48))))))))))))))))
theorem W_homographref17_firsts_eq (a0 : Value) (h : Heap) (Q : Value → Heap → Prop) : fW Try.prog ⟨[(22, [1, 3, 4, 7, 8, 9, 10, 11, 12]), (19, [1, 3, 4, 7, 8, 9, 10, 11]), (14, [1, 3, 4, 7, 8]), (11, [1, 3, 4, 7]), (4, [1, 3, 4, 5])], []⟩ Try.f80 [a0] h Q = W_homographref17_firsts a0 h Q := by kernel_rfl
theorem W_homographref17_firsts_ok {a0 : Value} {h : Heap} {Q : Value → Heap → Prop} (e : W_homographref17_firsts a0 h Q) : acall Try.prog F_homographref17_firsts [a0] h Q :=
  by refine acall_of_fW mixed ⟨[(22, [1, 3, 4, 7, 8, 9, 10, 11, 12]), (19, [1, 3, 4, 7, 8, 9, 10, 11]), (14, [1, 3, 4, 7, 8]), (11, [1, 3, 4, 7]), (4, [1, 3, 4, 5])], []⟩ Try.func80 (by kernel_rfl) ?_; rw [W_homographref17_firsts_eq]; exact e

/-- homograph/homographref17.rising: loops {3: [0, 3, 4]}; joins {} -/
def W_homographref17_rising (a0 : Value) (h : Heap) (Q : Value → Heap → Prop) : Prop :=
(∃ (I1 : Nat → List Value → Heap → Prop) (k2 : Nat), gcL h (I1 k2) [a0, (.slice none 0 0), (.int .i64 0)] h ∧
∀ k4 : Nat, ∀ x5 : Value, ∀ x6 : Value, ∀ x7 : Value, ∀ h8, I1 k4 [x5, x6, x7] h8 →
(oW (lenS x5) fun v9 =>
(oW (binN .lss x7 v9) fun v10 =>
(bW v10
(oW (iaS 1 x5 x7) fun v11 =>
(oW (ldW false 1 h8 v11) fun v12 =>
(bW v12
(hW (bslW h8 1 [(.int .i64 0)] [(0, 1, x7)]) fun v13 h14 =>
(hW (apW 1 8 h14 x6 v13) fun v15 h16 =>
(oW (binN .add x7 (.int .i64 1)) fun v17 =>
(∃ m3, m3 < k4 ∧ gcL h (I1 m3) [x5, v15, v17] h16))))
(oW (binN .add x7 (.int .i64 1)) fun v18 =>
(∃ m3, m3 < k4 ∧ gcL h (I1 m3) [x5, x6, v18] h8)))))
(gcV h Q x6 h8)))))
theorem W_homographref17_rising_eq (a0 : Value) (h : Heap) (Q : Value → Heap → Prop) : fW Try.prog ⟨[(3, [0, 3, 4])], []⟩ Try.f81 [a0] h Q = W_homographref17_rising a0 h Q := by kernel_rfl
theorem W_homographref17_rising_ok {a0 : Value} {h : Heap} {Q : Value → Heap → Prop} (e : W_homographref17_rising a0 h Q) : acall Try.prog F_homographref17_rising [a0] h Q :=
  by refine acall_of_fW mixed ⟨[(3, [0, 3, 4])], []⟩ Try.func81 (by kernel_rfl) ?_; rw [W_homographref17_rising_eq]; exact e

/-- homograph/sets.rising: loops {3: [3, 6, 7, 8]}; joins {} -/
def W_sets_rising (a0 : Value) (h : Heap) (Q : Value → Heap → Prop) : Prop :=
(oW (lenS a0) fun v1 =>
(∃ (I2 : Nat → List Value → Heap → Prop) (k3 : Nat), gcL h (I2 k3) [(.slice none 0 0), a0, v1, (.int .i64 0)] h ∧
∀ k5 : Nat, ∀ x6 : Value, ∀ x7 : Value, ∀ x8 : Value, ∀ x9 : Value, ∀ h10, I2 k5 [x6, x7, x8, x9] h10 →
(oW (binN .lss x9 x8) fun v11 =>
(bW v11
(oW (iaS 1 x7 x9) fun v12 =>
(oW (ldW false 1 h10 v12) fun v13 =>
(callW Try.prog (fn F_maps_Keys_sets_set_int_bool) [v13] h10 fun v14 h15 =>
(callW Try.prog (fn F_slices_Sorted_int) [v14] h15 fun v16 h17 =>
(hW (bslW h17 1 [(.slice none 0 0)] [(0, 1, v16)]) fun v18 h19 =>
(hW (apW 1 24 h19 x6 v18) fun v20 h21 =>
(oW (binN .add x9 (.int .i64 1)) fun v22 =>
(∃ m4, m4 < k5 ∧ gcL h (I2 m4) [v20, x7, x8, v22] h21))))))))
(gcV h Q x6 h10)))))
theorem W_sets_rising_eq (a0 : Value) (h : Heap) (Q : Value → Heap → Prop) : fW Try.prog ⟨[(3, [3, 6, 7, 8])], []⟩ Try.f82 [a0] h Q = W_sets_rising a0 h Q := by kernel_rfl
theorem W_sets_rising_ok {a0 : Value} {h : Heap} {Q : Value → Heap → Prop} (e : W_sets_rising a0 h Q) : acall Try.prog F_sets_rising [a0] h Q :=
  by refine acall_of_fW mixed ⟨[(3, [3, 6, 7, 8])], []⟩ Try.func82 (by kernel_rfl) ?_; rw [W_sets_rising_eq]; exact e

/-- homograph/sets.until[[]int]: loops {4: [0, 1, 4, 8, 9, 10], 1: [0, 1, 4]}; joins {} -/
def W_sets_until_int (a0 a1 : Value) (h : Heap) (Q : Value → Heap → Prop) : Prop :=
(∃ (I1 : Nat → List Value → Heap → Prop) (k2 : Nat), gcL h (I1 k2) [a0, a1, (.bool true)] h ∧
∀ k4 : Nat, ∀ x5 : Value, ∀ x6 : Value, ∀ x7 : Value, ∀ h8, I1 k4 [x5, x6, x7] h8 →
(bW x7
(oW (lenS x5) fun v9 =>
(∃ (I10 : Nat → List Value → Heap → Prop) (k11 : Nat), gcL h (I10 k11) [x5, x6, (.bool false), x5, v9, (.int .i64 0)] h8 ∧
∀ k13 : Nat, ∀ x14 : Value, ∀ x15 : Value, ∀ x16 : Value, ∀ x17 : Value, ∀ x18 : Value, ∀ x19 : Value, ∀ h20, I10 k13 [x14, x15, x16, x17, x18, x19] h20 →
(oW (binN .lss x19 x18) fun v21 =>
(bW v21
(oW (iaS 1 x17 x19) fun v22 =>
(oW (ldW false 1 h20 v22) fun v23 =>
(callW Try.prog x15 [v23] h20 fun v24 h25 =>
(bW v24
(oW (binN .add x19 (.int .i64 1)) fun v26 =>
(∃ m12, m12 < k13 ∧ gcL h (I10 m12) [x14, x15, (.bool true), x17, x18, v26] h25))
(oW (binN .add x19 (.int .i64 1)) fun v27 =>
(∃ m12, m12 < k13 ∧ gcL h (I10 m12) [x14, x15, x16, x17, x18, v27] h25))))))
(∃ m3, m3 < k4 ∧ gcL h (I1 m3) [x14, x15, x16] h20)))))
(gcV h Q (.tuple #[]) h8)))
theorem W_sets_until_int_eq (a0 a1 : Value) (h : Heap) (Q : Value → Heap → Prop) : fW Try.prog ⟨[(4, [0, 1, 4, 8, 9, 10]), (1, [0, 1, 4])], []⟩ Try.f83 [a0, a1] h Q = W_sets_until_int a0 a1 h Q := by kernel_rfl
theorem W_sets_until_int_ok {a0 a1 : Value} {h : Heap} {Q : Value → Heap → Prop} (e : W_sets_until_int a0 a1 h Q) : acall Try.prog F_sets_until_int [a0, a1] h Q :=
  by refine acall_of_fW mixed ⟨[(4, [0, 1, 4, 8, 9, 10]), (1, [0, 1, 4])], []⟩ Try.func83 (by kernel_rfl) ?_; rw [W_sets_until_int_eq]; exact e

/-- homograph/sets.Follow$1: loops {3: [0, 1, 2, 5, 11, 12]}; joins {} -/
def W_sets_Follow_D1 (a0 a1 a2 : Value) (h : Heap) (Q : Value → Heap → Prop) : Prop :=
(oW (slS 1 h a0 (some (.int .i64 1)) none none) fun v1 =>
(oW (lenS v1) fun v2 =>
(∃ (I3 : Nat → List Value → Heap → Prop) (k4 : Nat), gcL h (I3 k4) [a0, a1, a2, (.bool false), v2, (.int .i64 0)] h ∧
∀ k6 : Nat, ∀ x7 : Value, ∀ x8 : Value, ∀ x9 : Value, ∀ x10 : Value, ∀ x11 : Value, ∀ x12 : Value, ∀ h13, I3 k6 [x7, x8, x9, x10, x11, x12] h13 →
(oW (binN .lss x12 x11) fun v14 =>
(bW v14
(oW (ldW true 7 h13 x8) fun v15 =>
(oW (binN .add x12 (.int .i64 2)) fun v16 =>
(oW (slS 1 h13 x7 (some v16) none none) fun v17 =>
(callW Try.prog (fn F_sets_view_row) [v15, v17] h13 fun v18 h19 =>
(keptW [x7, x8] h13 h19 ∧
(oW (extractA v18 0) fun v20 =>
(oW (extractA v18 1) fun v21 =>
(oW (ldW false 1 h19 x9) fun v22 =>
(oW (binN .add x12 (.int .i64 1)) fun v23 =>
(oW (iaS 1 x7 v23) fun v24 =>
(oW (ldW false 1 h19 v24) fun v25 =>
(oW (iaS 1 v22 v25) fun v26 =>
(oW (ldW false 1 h19 v26) fun v27 =>
(callW Try.prog (fn F_sets_set_add) [v27, v20] h19 fun v28 h29 =>
(keptW [v26, v24, x9] h19 h29 ∧
(bW v28
(bW v21
(oW (ldW false 1 h29 x9) fun v30 =>
(oW (binN .add x12 (.int .i64 1)) fun v31 =>
(oW (iaS 1 x7 v31) fun v32 =>
(oW (ldW false 1 h29 v32) fun v33 =>
(oW (iaS 1 v30 v33) fun v34 =>
(oW (ldW false 1 h29 v34) fun v35 =>
(oW (ldW false 1 h29 x9) fun v36 =>
(oW (iaS 1 x7 (.int .i64 0)) fun v37 =>
(oW (ldW false 1 h29 v37) fun v38 =>
(oW (iaS 1 v36 v38) fun v39 =>
(oW (ldW false 1 h29 v39) fun v40 =>
(callW Try.prog (fn F_sets_set_add) [v35, v40] h29 fun v41 h42 =>
(keptW [v39, v37, x9, v34, v32, x9] h29 h42 ∧
(bW v41
(oW (binN .add x12 (.int .i64 1)) fun v43 =>
(∃ m5, m5 < k6 ∧ gcL h (I3 m5) [x7, x8, x9, (.bool true), x11, v43] h42))
(oW (binN .add x12 (.int .i64 1)) fun v44 =>
(∃ m5, m5 < k6 ∧ gcL h (I3 m5) [x7, x8, x9, (.bool true), x11, v44] h42))))))))))))))))
(oW (binN .add x12 (.int .i64 1)) fun v45 =>
(∃ m5, m5 < k6 ∧ gcL h (I3 m5) [x7, x8, x9, (.bool true), x11, v45] h29)))
(bW v21
(oW (ldW false 1 h29 x9) fun v46 =>
(oW (binN .add x12 (.int .i64 1)) fun v47 =>
(oW (iaS 1 x7 v47) fun v48 =>
(oW (ldW false 1 h29 v48) fun v49 =>
(oW (iaS 1 v46 v49) fun v50 =>
(oW (ldW false 1 h29 v50) fun v51 =>
(oW (ldW false 1 h29 x9) fun v52 =>
(oW (iaS 1 x7 (.int .i64 0)) fun v53 =>
(oW (ldW false 1 h29 v53) fun v54 =>
(oW (iaS 1 v52 v54) fun v55 =>
(oW (ldW false 1 h29 v55) fun v56 =>
(callW Try.prog (fn F_sets_set_add) [v51, v56] h29 fun v57 h58 =>
(keptW [v55, v53, x9, v50, v48, x9] h29 h58 ∧
(bW v57
(oW (binN .add x12 (.int .i64 1)) fun v59 =>
(∃ m5, m5 < k6 ∧ gcL h (I3 m5) [x7, x8, x9, (.bool true), x11, v59] h58))
(oW (binN .add x12 (.int .i64 1)) fun v60 =>
(∃ m5, m5 < k6 ∧ gcL h (I3 m5) [x7, x8, x9, x10, x11, v60] h58))))))))))))))))
(oW (binN .add x12 (.int .i64 1)) fun v61 =>
(∃ m5, m5 < k6 ∧ gcL h (I3 m5) [x7, x8, x9, x10, x11, v61] h29)))))))))))))))))))
(gcV h Q x10 h13))))))
theorem W_sets_Follow_D1_eq (a0 a1 a2 : Value) (h : Heap) (Q : Value → Heap → Prop) : fW Try.prog ⟨[(3, [0, 1, 2, 5, 11, 12])], []⟩ Try.f84 [a0, a1, a2] h Q = W_sets_Follow_D1 a0 a1 a2 h Q := by kernel_rfl
theorem W_sets_Follow_D1_ok {a0 a1 a2 : Value} {h : Heap} {Q : Value → Heap → Prop} (e : W_sets_Follow_D1 a0 a1 a2 h Q) : acall Try.prog F_sets_Follow_D1 [a0, a1, a2] h Q :=
  by refine acall_of_fW mixed ⟨[(3, [0, 1, 2, 5, 11, 12])], []⟩ Try.func84 (by kernel_rfl) ?_; rw [W_sets_Follow_D1_eq]; exact e

/-- (homograph/sets.set).add: loops {}; joins {} -/
def W_sets_set_add (a0 a1 : Value) (h : Heap) (Q : Value → Heap → Prop) : Prop :=
(oW (lenM h a0) fun v1 =>
(callW Try.prog (fn F_maps_Copy_sets_set_sets_set_int_bool) [a0, a1] h fun v2 h3 =>
(oW (lenM h3 a0) fun v4 =>
(oW (binN .gtr v4 v1) fun v5 =>
(gcV h Q v5 h3)))))
theorem W_sets_set_add_eq (a0 a1 : Value) (h : Heap) (Q : Value → Heap → Prop) : fW Try.prog ⟨[], []⟩ Try.f85 [a0, a1] h Q = W_sets_set_add a0 a1 h Q := by kernel_rfl
theorem W_sets_set_add_ok {a0 a1 : Value} {h : Heap} {Q : Value → Heap → Prop} (e : W_sets_set_add a0 a1 h Q) : acall Try.prog F_sets_set_add [a0, a1] h Q :=
  by refine acall_of_fW mixed ⟨[], []⟩ Try.func85 (by kernel_rfl) ?_; rw [W_sets_set_add_eq]; exact e

/-- homograph/homographref16.Check: loops {15: [1, 6], 10: [1, 3, 4, 5], 4: [1, 3]}; joins {3: [1]} -/
def W_homographref16_Check (a0 : Value) (h : Heap) (Q : Value → Heap → Prop) : Prop :=
(hW (boxA h a0) fun v1 h2 =>
(∃ M3 : List Value → Heap → Prop,
(oW (faW 1 1 v1) fun v4 =>
(oW (ldW false 1 h2 v4) fun v5 =>
(oW (binN .lss v5 (.int .i64 0)) fun v6 =>
(bW v6
(bW (.bool true)
(gcV h Q (.int .i64 1) h2)
(gcL h M3 [v1] h2))
(oW (faW 1 1 v1) fun v7 =>
(oW (ldW false 1 h2 v7) fun v8 =>
(oW (faW 0 1 v1) fun v9 =>
(oW (ldW false 1 h2 v9) fun v10 =>
(oW (lenS v10) fun v11 =>
(oW (binN .gtr v8 v11) fun v12 =>
(bW v12
(bW (.bool true)
(gcV h Q (.int .i64 1) h2)
(gcL h M3 [v1] h2))
(oW (faW 2 1 v1) fun v13 =>
(oW (ldW false 1 h2 v13) fun v14 =>
(oW (lenS v14) fun v15 =>
(oW (faW 1 1 v1) fun v16 =>
(oW (ldW false 1 h2 v16) fun v17 =>
(oW (binN .neq v15 v17) fun v18 =>
(bW v18
(bW (.bool true)
(gcV h Q (.int .i64 1) h2)
(gcL h M3 [v1] h2))
(oW (faW 0 1 v1) fun v19 =>
(oW (ldW false 1 h2 v19) fun v20 =>
(oW (lenS v20) fun v21 =>
(oW (binN .gtr v21 (.int .i64 128)) fun v22 =>
(bW v22
(bW (.bool true)
(gcV h Q (.int .i64 1) h2)
(gcL h M3 [v1] h2))
(oW (faW 3 1 v1) fun v23 =>
(oW (ldW false 1 h2 v23) fun v24 =>
(oW (lenS v24) fun v25 =>
(oW (binN .lss v25 (.int .i64 1)) fun v26 =>
(bW v26
(bW (.bool true)
(gcV h Q (.int .i64 1) h2)
(gcL h M3 [v1] h2))
(oW (faW 3 1 v1) fun v27 =>
(oW (ldW false 1 h2 v27) fun v28 =>
(oW (lenS v28) fun v29 =>
(oW (binN .gtr v29 (.int .i64 256)) fun v30 =>
(bW v30
(bW (.bool true)
(gcV h Q (.int .i64 1) h2)
(gcL h M3 [v1] h2))
(oW (ldW true 5 h2 v1) fun v31 =>
(oW (faW 4 1 v1) fun v32 =>
(oW (ldW false 1 h2 v32) fun v33 =>
(callW Try.prog (fn F_homographref16_made) [v31, v33] h2 fun v34 h35 =>
(oW (unA .not v34) fun v36 =>
(bW v36
(gcV h Q (.int .i64 1) h35)
(gcL h M3 [v1] h35)))))))))))))))))))))))))))))))))))))))) ∧
∀ x37 : Value, ∀ h38, M3 [x37] h38 →
(∃ (I39 : Nat → List Value → Heap → Prop) (k40 : Nat), gcL h (I39 k40) [x37, (.int .i64 0)] h38 ∧
∀ k42 : Nat, ∀ x43 : Value, ∀ x44 : Value, ∀ h45, I39 k42 [x43, x44] h45 →
(oW (faW 3 1 x43) fun v46 =>
(oW (ldW false 1 h45 v46) fun v47 =>
(oW (lenS v47) fun v48 =>
(oW (binN .lss x44 v48) fun v49 =>
(bW v49
(oW (faW 3 1 x43) fun v50 =>
(oW (ldW false 1 h45 v50) fun v51 =>
(oW (iaS 1 v51 x44) fun v52 =>
(oW (ldW false 1 h45 v52) fun v53 =>
(oW (lenS v53) fun v54 =>
(oW (binN .lss v54 (.int .i64 1)) fun v55 =>
(bW v55
(bW (.bool true)
(gcV h Q (.int .i64 1) h45)
(∃ (I56 : Nat → List Value → Heap → Prop) (k57 : Nat), gcL h (I56 k57) [x43, x44, v53, (.int .i64 1)] h45 ∧
∀ k59 : Nat, ∀ x60 : Value, ∀ x61 : Value, ∀ x62 : Value, ∀ x63 : Value, ∀ h64, I56 k59 [x60, x61, x62, x63] h64 →
(oW (lenS x62) fun v65 =>
(oW (binN .lss x63 v65) fun v66 =>
(bW v66
(oW (iaS 1 x62 x63) fun v67 =>
(oW (ldW false 1 h64 v67) fun v68 =>
(oW (binN .lss v68 (.int .i64 0)) fun v69 =>
(bW v69
(bW (.bool true)
(gcV h Q (.int .i64 1) h64)
(oW (binN .add x63 (.int .i64 1)) fun v70 =>
(∃ m58, m58 < k59 ∧ gcL h (I56 m58) [x60, x61, x62, v70] h64)))
(oW (iaS 1 x62 x63) fun v71 =>
(oW (ldW false 1 h64 v71) fun v72 =>
(oW (faW 0 1 x60) fun v73 =>
(oW (ldW false 1 h64 v73) fun v74 =>
(oW (lenS v74) fun v75 =>
(oW (binN .geq v72 v75) fun v76 =>
(bW v76
(gcV h Q (.int .i64 1) h64)
(oW (binN .add x63 (.int .i64 1)) fun v77 =>
(∃ m58, m58 < k59 ∧ gcL h (I56 m58) [x60, x61, x62, v77] h64)))))))))))))
(oW (binN .add x61 (.int .i64 1)) fun v78 =>
(∃ m41, m41 < k42 ∧ gcL h (I39 m41) [x60, v78] h64)))))))
(oW (lenS v53) fun v79 =>
(oW (binN .gtr v79 (.int .i64 9)) fun v80 =>
(bW v80
(bW (.bool true)
(gcV h Q (.int .i64 1) h45)
(∃ (I81 : Nat → List Value → Heap → Prop) (k82 : Nat), gcL h (I81 k82) [x43, x44, v53, (.int .i64 1)] h45 ∧
∀ k84 : Nat, ∀ x85 : Value, ∀ x86 : Value, ∀ x87 : Value, ∀ x88 : Value, ∀ h89, I81 k84 [x85, x86, x87, x88] h89 →
(oW (lenS x87) fun v90 =>
(oW (binN .lss x88 v90) fun v91 =>
(bW v91
(oW (iaS 1 x87 x88) fun v92 =>
(oW (ldW false 1 h89 v92) fun v93 =>
(oW (binN .lss v93 (.int .i64 0)) fun v94 =>
(bW v94
(bW (.bool true)
(gcV h Q (.int .i64 1) h89)
(oW (binN .add x88 (.int .i64 1)) fun v95 =>
(∃ m83, m83 < k84 ∧ gcL h (I81 m83) [x85, x86, x87, v95] h89)))
(oW (iaS 1 x87 x88) fun v96 =>
(oW (ldW false 1 h89 v96) fun v97 =>
(oW (faW 0 1 x85) fun v98 =>
(oW (ldW false 1 h89 v98) fun v99 =>
(oW (lenS v99) fun v100 =>
(oW (binN .geq v97 v100) fun v101 =>
(bW v101
(gcV h Q (.int .i64 1) h89)
(oW (binN .add x88 (.int .i64 1)) fun v102 =>
(∃ m83, m83 < k84 ∧ gcL h (I81 m83) [x85, x86, x87, v102] h89)))))))))))))
(oW (binN .add x86 (.int .i64 1)) fun v103 =>
(∃ m41, m41 < k42 ∧ gcL h (I39 m41) [x85, v103] h89)))))))
(oW (ldW true 5 h45 x43) fun v104 =>
(oW (iaS 1 v53 (.int .i64 0)) fun v105 =>
(oW (ldW false 1 h45 v105) fun v106 =>
(callW Try.prog (fn F_homographref16_made) [v104, v106] h45 fun v107 h108 =>
(keptW [v105, x43, v53, v53] h45 h108 ∧
(oW (unA .not v107) fun v109 =>
(bW v109
(gcV h Q (.int .i64 1) h108)
(∃ (I110 : Nat → List Value → Heap → Prop) (k111 : Nat), gcL h (I110 k111) [x43, x44, v53, (.int .i64 1)] h108 ∧
∀ k113 : Nat, ∀ x114 : Value, ∀ x115 : Value, ∀ x116 : Value, ∀ x117 : Value, ∀ h118, I110 k113 [x114, x115, x116, x117] h118 →
(oW (lenS x116) fun v119 =>
(oW (binN .lss x117 v119) fun v120 =>
(bW v120
(oW (iaS 1 x116 x117) fun v121 =>
(oW (ldW false 1 h118 v121) fun v122 =>
(oW (binN .lss v122 (.int .i64 0)) fun v123 =>
(bW v123
(bW (.bool true)
(gcV h Q (.int .i64 1) h118)
(oW (binN .add x117 (.int .i64 1)) fun v124 =>
(∃ m112, m112 < k113 ∧ gcL h (I110 m112) [x114, x115, x116, v124] h118)))
(oW (iaS 1 x116 x117) fun v125 =>
(oW (ldW false 1 h118 v125) fun v126 =>
(oW (faW 0 1 x114) fun v127 =>
(oW (ldW false 1 h118 v127) fun v128 =>
(oW (lenS v128) fun v129 =>
(oW (binN .geq v126 v129) fun v130 =>
(bW v130
(gcV h Q (.int .i64 1) h118)
(oW (binN .add x117 (.int .i64 1)) fun v131 =>
(∃ m112, m112 < k113 ∧ gcL h (I110 m112) [x114, x115, x116, v131] h118)))))))))))))
(oW (binN .add x115 (.int .i64 1)) fun v132 =>
(∃ m41, m41 < k42 ∧ gcL h (I39 m41) [x114, v132] h118)))))))))))))))))))))))
(oW (faW 1 1 x43) fun v133 =>
(oW (ldW false 1 h45 v133) fun v134 =>
(∃ (I135 : Nat → List Value → Heap → Prop) (k136 : Nat), gcL h (I135 k136) [x43, v134] h45 ∧
∀ k138 : Nat, ∀ x139 : Value, ∀ x140 : Value, ∀ h141, I135 k138 [x139, x140] h141 →
(oW (faW 0 1 x139) fun v142 =>
(oW (ldW false 1 h141 v142) fun v143 =>
(oW (lenS v143) fun v144 =>
(oW (binN .lss x140 v144) fun v145 =>
(bW v145
(oW (ldW true 5 h141 x139) fun v146 =>
(callW Try.prog (fn F_homographref16_By) [v146, x140] h141 fun v147 h148 =>
(oW (lenS v147) fun v149 =>
(oW (binN .eql v149 (.int .i64 0)) fun v150 =>
(bW v150
(gcV h Q (.int .i64 1) h148)
(oW (binN .add x140 (.int .i64 1)) fun v151 =>
(∃ m137, m137 < k138 ∧ gcL h (I135 m137) [x139, v151] h148)))))))
(gcV h Q (.int .i64 0) h141)))))))))))))))))
theorem W_homographref16_Check_eq (a0 : Value) (h : Heap) (Q : Value → Heap → Prop) : fW Try.prog ⟨[(15, [1, 6]), (10, [1, 3, 4, 5]), (4, [1, 3])], [(3, [1])]⟩ Try.f90 [a0] h Q = W_homographref16_Check a0 h Q := by kernel_rfl
theorem W_homographref16_Check_ok {a0 : Value} {h : Heap} {Q : Value → Heap → Prop} (e : W_homographref16_Check a0 h Q) : acall Try.prog F_homographref16_Check [a0] h Q :=
  by refine acall_of_fW mixed ⟨[(15, [1, 6]), (10, [1, 3, 4, 5]), (4, [1, 3])], [(3, [1])]⟩ Try.func90 (by kernel_rfl) ?_; rw [W_homographref16_Check_eq]; exact e

/-- homograph/sets.marked$1: loops {}; joins {} -/
def W_sets_marked_D1 (a0 a1 : Value) (h : Heap) (Q : Value → Heap → Prop) : Prop :=
(oW (ldW false 1 h a1) fun v1 =>
(oW (iaS 1 a0 (.int .i64 0)) fun v2 =>
(oW (ldW false 1 h v2) fun v3 =>
(oW (iaS 1 v1 v3) fun v4 =>
(oW (ldW false 1 h v4) fun v5 =>
(bW v5
(bW (.bool true)
(gcV h Q (.bool false) h)
(oW (ldW false 1 h a1) fun v6 =>
(oW (iaS 1 a0 (.int .i64 0)) fun v7 =>
(oW (ldW false 1 h v7) fun v8 =>
(oW (iaS 1 v6 v8) fun v9 =>
(sW (stW 1 h v9 (.bool true)) fun h10 =>
(gcV h Q (.bool true) h10)))))))
(oW (slS 1 h a0 (some (.int .i64 1)) none none) fun v11 =>
(callW Try.prog (fn F_slices_ContainsFunc_int_int) [v11, (.func (.func F_sets_marked_D1_D1) #[] #[a1])] h fun v12 h13 =>
(keptW [a0, v4, v2, a1] h h13 ∧
(bW v12
(gcV h Q (.bool false) h13)
(oW (ldW false 1 h13 a1) fun v14 =>
(oW (iaS 1 a0 (.int .i64 0)) fun v15 =>
(oW (ldW false 1 h13 v15) fun v16 =>
(oW (iaS 1 v14 v16) fun v17 =>
(sW (stW 1 h13 v17 (.bool true)) fun h18 =>
(gcV h Q (.bool true) h18))))))))))))))))
theorem W_sets_marked_D1_eq (a0 a1 : Value) (h : Heap) (Q : Value → Heap → Prop) : fW Try.prog ⟨[], []⟩ Try.f111 [a0, a1] h Q = W_sets_marked_D1 a0 a1 h Q := by kernel_rfl
theorem W_sets_marked_D1_ok {a0 a1 : Value} {h : Heap} {Q : Value → Heap → Prop} (e : W_sets_marked_D1 a0 a1 h Q) : acall Try.prog F_sets_marked_D1 [a0, a1] h Q :=
  by refine acall_of_fW mixed ⟨[], []⟩ Try.func111 (by kernel_rfl) ?_; rw [W_sets_marked_D1_eq]; exact e

/-- slices.ContainsFunc[[]int,int]: loops {}; joins {} -/
def W_slices_ContainsFunc_int_int (a0 a1 : Value) (h : Heap) (Q : Value → Heap → Prop) : Prop :=
(callW Try.prog (fn F_slices_IndexFunc_int_int) [a0, a1] h fun v1 h2 =>
(oW (binN .geq v1 (.int .i64 0)) fun v3 =>
(gcV h Q v3 h2)))
theorem W_slices_ContainsFunc_int_int_eq (a0 a1 : Value) (h : Heap) (Q : Value → Heap → Prop) : fW Try.prog ⟨[], []⟩ Try.f112 [a0, a1] h Q = W_slices_ContainsFunc_int_int a0 a1 h Q := by kernel_rfl
theorem W_slices_ContainsFunc_int_int_ok {a0 a1 : Value} {h : Heap} {Q : Value → Heap → Prop} (e : W_slices_ContainsFunc_int_int a0 a1 h Q) : acall Try.prog F_slices_ContainsFunc_int_int [a0, a1] h Q :=
  by refine acall_of_fW mixed ⟨[], []⟩ Try.func112 (by kernel_rfl) ?_; rw [W_slices_ContainsFunc_int_int_eq]; exact e

/-- homograph/sets.marked$1$1: loops {}; joins {} -/
def W_sets_marked_D1_D1 (a0 a1 : Value) (h : Heap) (Q : Value → Heap → Prop) : Prop :=
(oW (ldW false 1 h a1) fun v1 =>
(oW (iaS 1 v1 a0) fun v2 =>
(oW (ldW false 1 h v2) fun v3 =>
(oW (unA .not v3) fun v4 =>
(gcV h Q v4 h)))))
theorem W_sets_marked_D1_D1_eq (a0 a1 : Value) (h : Heap) (Q : Value → Heap → Prop) : fW Try.prog ⟨[], []⟩ Try.f113 [a0, a1] h Q = W_sets_marked_D1_D1 a0 a1 h Q := by kernel_rfl
theorem W_sets_marked_D1_D1_ok {a0 a1 : Value} {h : Heap} {Q : Value → Heap → Prop} (e : W_sets_marked_D1_D1 a0 a1 h Q) : acall Try.prog F_sets_marked_D1_D1 [a0, a1] h Q :=
  by refine acall_of_fW mixed ⟨[], []⟩ Try.func113 (by kernel_rfl) ?_; rw [W_sets_marked_D1_D1_eq]; exact e

/-- homograph/symbols.Check: loops {7: [1, 3, 52, 53, 54]}; joins {5: [1]} -/
def W_symbols_Check (a0 : Value) (h : Heap) (Q : Value → Heap → Prop) : Prop :=
(hW (boxA h a0) fun v1 h2 =>
(∃ M3 : List Value → Heap → Prop,
(oW (faW 1 1 v1) fun v4 =>
(oW (ldW false 1 h2 v4) fun v5 =>
(oW (binN .lss v5 (.int .i64 0)) fun v6 =>
(bW v6
(bW (.bool true)
(gcV h Q (.int .i64 1) h2)
(oW (faW 3 1 v1) fun v7 =>
(oW (ldW false 1 h2 v7) fun v8 =>
(oW (lenS v8) fun v9 =>
(oW (binN .lss v9 (.int .i64 1)) fun v10 =>
(bW v10
(bW (.bool true)
(gcV h Q (.int .i64 1) h2)
(gcL h M3 [v1] h2))
(oW (faW 3 1 v1) fun v11 =>
(oW (ldW false 1 h2 v11) fun v12 =>
(oW (lenS v12) fun v13 =>
(oW (binN .gtr v13 (.int .i64 256)) fun v14 =>
(bW v14
(bW (.bool true)
(gcV h Q (.int .i64 1) h2)
(gcL h M3 [v1] h2))
(oW (ldW true 5 h2 v1) fun v15 =>
(oW (faW 4 1 v1) fun v16 =>
(oW (ldW false 1 h2 v16) fun v17 =>
(callW Try.prog (fn F_symbols_Grammar_made) [v15, v17] h2 fun v18 h19 =>
(oW (unA .not v18) fun v20 =>
(bW v20
(gcV h Q (.int .i64 1) h19)
(gcL h M3 [v1] h19))))))))))))))))))
(oW (faW 1 1 v1) fun v21 =>
(oW (ldW false 1 h2 v21) fun v22 =>
(oW (faW 0 1 v1) fun v23 =>
(oW (ldW false 1 h2 v23) fun v24 =>
(oW (lenS v24) fun v25 =>
(oW (binN .gtr v22 v25) fun v26 =>
(bW v26
(bW (.bool true)
(gcV h Q (.int .i64 1) h2)
(oW (faW 3 1 v1) fun v27 =>
(oW (ldW false 1 h2 v27) fun v28 =>
(oW (lenS v28) fun v29 =>
(oW (binN .lss v29 (.int .i64 1)) fun v30 =>
(bW v30
(bW (.bool true)
(gcV h Q (.int .i64 1) h2)
(gcL h M3 [v1] h2))
(oW (faW 3 1 v1) fun v31 =>
(oW (ldW false 1 h2 v31) fun v32 =>
(oW (lenS v32) fun v33 =>
(oW (binN .gtr v33 (.int .i64 256)) fun v34 =>
(bW v34
(bW (.bool true)
(gcV h Q (.int .i64 1) h2)
(gcL h M3 [v1] h2))
(oW (ldW true 5 h2 v1) fun v35 =>
(oW (faW 4 1 v1) fun v36 =>
(oW (ldW false 1 h2 v36) fun v37 =>
(callW Try.prog (fn F_symbols_Grammar_made) [v35, v37] h2 fun v38 h39 =>
(oW (unA .not v38) fun v40 =>
(bW v40
(gcV h Q (.int .i64 1) h39)
(gcL h M3 [v1] h39))))))))))))))))))
(oW (faW 2 1 v1) fun v41 =>
(oW (ldW false 1 h2 v41) fun v42 =>
(oW (lenS v42) fun v43 =>
(oW (faW 1 1 v1) fun v44 =>
(oW (ldW false 1 h2 v44) fun v45 =>
(oW (binN .neq v43 v45) fun v46 =>
(bW v46
(bW (.bool true)
(gcV h Q (.int .i64 1) h2)
(oW (faW 3 1 v1) fun v47 =>
(oW (ldW false 1 h2 v47) fun v48 =>
(oW (lenS v48) fun v49 =>
(oW (binN .lss v49 (.int .i64 1)) fun v50 =>
(bW v50
(bW (.bool true)
(gcV h Q (.int .i64 1) h2)
(gcL h M3 [v1] h2))
(oW (faW 3 1 v1) fun v51 =>
(oW (ldW false 1 h2 v51) fun v52 =>
(oW (lenS v52) fun v53 =>
(oW (binN .gtr v53 (.int .i64 256)) fun v54 =>
(bW v54
(bW (.bool true)
(gcV h Q (.int .i64 1) h2)
(gcL h M3 [v1] h2))
(oW (ldW true 5 h2 v1) fun v55 =>
(oW (faW 4 1 v1) fun v56 =>
(oW (ldW false 1 h2 v56) fun v57 =>
(callW Try.prog (fn F_symbols_Grammar_made) [v55, v57] h2 fun v58 h59 =>
(oW (unA .not v58) fun v60 =>
(bW v60
(gcV h Q (.int .i64 1) h59)
(gcL h M3 [v1] h59))))))))))))))))))
(oW (faW 0 1 v1) fun v61 =>
(oW (ldW false 1 h2 v61) fun v62 =>
(oW (lenS v62) fun v63 =>
(oW (binN .gtr v63 (.int .i64 128)) fun v64 =>
(bW v64
(gcV h Q (.int .i64 1) h2)
(oW (faW 3 1 v1) fun v65 =>
(oW (ldW false 1 h2 v65) fun v66 =>
(oW (lenS v66) fun v67 =>
(oW (binN .lss v67 (.int .i64 1)) fun v68 =>
(bW v68
(bW (.bool true)
(gcV h Q (.int .i64 1) h2)
(gcL h M3 [v1] h2))
(oW (faW 3 1 v1) fun v69 =>
(oW (ldW false 1 h2 v69) fun v70 =>
(oW (lenS v70) fun v71 =>
(oW (binN .gtr v71 (.int .i64 256)) fun v72 =>
(bW v72
(bW (.bool true)
(gcV h Q (.int .i64 1) h2)
(gcL h M3 [v1] h2))
(oW (ldW true 5 h2 v1) fun v73 =>
(oW (faW 4 1 v1) fun v74 =>
(oW (ldW false 1 h2 v74) fun v75 =>
(callW Try.prog (fn F_symbols_Grammar_made) [v73, v75] h2 fun v76 h77 =>
(oW (unA .not v76) fun v78 =>
(bW v78
(gcV h Q (.int .i64 1) h77)
(gcL h M3 [v1] h77)))))))))))))))))))))))))))))))))))))))) ∧
∀ x79 : Value, ∀ h80, M3 [x79] h80 →
(letH (h80 ++ [.map []]) fun h81 =>
(oW (faW 3 1 x79) fun v82 =>
(oW (ldW false 1 h81 v82) fun v83 =>
(oW (lenS v83) fun v84 =>
(∃ (I85 : Nat → List Value → Heap → Prop) (k86 : Nat), gcL h (I85 k86) [x79, (.map (some h80.length)), v83, v84, (.int .i64 0)] h81 ∧
∀ k88 : Nat, ∀ x89 : Value, ∀ x90 : Value, ∀ x91 : Value, ∀ x92 : Value, ∀ x93 : Value, ∀ h94, I85 k88 [x89, x90, x91, x92, x93] h94 →
(oW (binN .lss x93 x92) fun v95 =>
(bW v95
(oW (iaS 1 x91 x93) fun v96 =>
(oW (ldW false 1 h94 v96) fun v97 =>
(oW (ldW true 5 h94 x89) fun v98 =>
(callW Try.prog (fn F_symbols_Grammar_fits) [v98, v97] h94 fun v99 h100 =>
(oW (unA .not v99) fun v101 =>
(bW v101
(gcV h Q (.int .i64 1) h100)
(oW (iaS 1 v97 (.int .i64 0)) fun v102 =>
(oW (ldW false 1 h100 v102) fun v103 =>
(sW (upS (.int .i64) h100 x90 v103 (.bool true)) fun h104 =>
(oW (binN .add x93 (.int .i64 1)) fun v105 =>
(∃ m87, m87 < k88 ∧ gcL h (I85 m87) [x89, x90, x91, x92, v105] h104)))))))))))
(oW (lenM h94 x90) fun v106 =>
(oW (faW 0 1 x89) fun v107 =>
(oW (ldW false 1 h94 v107) fun v108 =>
(oW (lenS v108) fun v109 =>
(oW (faW 1 1 x89) fun v110 =>
(oW (ldW false 1 h94 v110) fun v111 =>
(oW (binN .sub v109 v111) fun v112 =>
(oW (binN .neq v106 v112) fun v113 =>
(bW v113
(gcV h Q (.int .i64 1) h94)
(gcV h Q (.int .i64 0) h94)))))))))))))))))))
theorem W_symbols_Check_eq (a0 : Value) (h : Heap) (Q : Value → Heap → Prop) : fW Try.prog ⟨[(7, [1, 3, 52, 53, 54])], [(5, [1])]⟩ Try.f114 [a0] h Q = W_symbols_Check a0 h Q := by kernel_rfl
theorem W_symbols_Check_ok {a0 : Value} {h : Heap} {Q : Value → Heap → Prop} (e : W_symbols_Check a0 h Q) : acall Try.prog F_symbols_Check [a0] h Q :=
  by refine acall_of_fW mixed ⟨[(7, [1, 3, 52, 53, 54])], [(5, [1])]⟩ Try.func114 (by kernel_rfl) ?_; rw [W_symbols_Check_eq]; exact e

/-- homograph/sets.viewed$1: loops {}; joins {} -/
def W_sets_viewed_D1 (a0 a1 : Value) (h : Heap) (Q : Value → Heap → Prop) : Prop :=
(oW (ldW true 7 h a1) fun v1 =>
(oW (slS 1 h a0 (some (.int .i64 1)) none none) fun v2 =>
(callW Try.prog (fn F_sets_view_row) [v1, v2] h fun v3 h4 =>
(keptW [a0, a1] h h4 ∧
(oW (extractA v3 0) fun v5 =>
(oW (extractA v3 1) fun v6 =>
(oW (faW 6 1 a1) fun v7 =>
(oW (ldW false 1 h4 v7) fun v8 =>
(oW (iaS 1 a0 (.int .i64 0)) fun v9 =>
(oW (ldW false 1 h4 v9) fun v10 =>
(oW (iaS 1 v8 v10) fun v11 =>
(oW (ldW false 1 h4 v11) fun v12 =>
(callW Try.prog (fn F_sets_set_add) [v12, v5] h4 fun v13 h14 =>
(keptW [v9, v7] h4 h14 ∧
(gcV h Q v13 h14)))))))))))))))
theorem W_sets_viewed_D1_eq (a0 a1 : Value) (h : Heap) (Q : Value → Heap → Prop) : fW Try.prog ⟨[], []⟩ Try.f115 [a0, a1] h Q = W_sets_viewed_D1 a0 a1 h Q := by kernel_rfl
theorem W_sets_viewed_D1_ok {a0 a1 : Value} {h : Heap} {Q : Value → Heap → Prop} (e : W_sets_viewed_D1 a0 a1 h Q) : acall Try.prog F_sets_viewed_D1 [a0, a1] h Q :=
  by refine acall_of_fW mixed ⟨[], []⟩ Try.func115 (by kernel_rfl) ?_; rw [W_sets_viewed_D1_eq]; exact e

/-- homograph/homographref16.made: loops {}; joins {} -/
def W_homographref16_made (a0 a1 : Value) (h : Heap) (Q : Value → Heap → Prop) : Prop :=
(hW (boxA h a0) fun v1 h2 =>
(oW (faW 1 1 v1) fun v3 =>
(oW (ldW false 1 h2 v3) fun v4 =>
(oW (binN .geq a1 v4) fun v5 =>
(bW v5
(oW (faW 0 1 v1) fun v6 =>
(oW (ldW false 1 h2 v6) fun v7 =>
(oW (lenS v7) fun v8 =>
(oW (binN .lss a1 v8) fun v9 =>
(gcV h Q v9 h2)))))
(gcV h Q (.bool false) h2))))))
theorem W_homographref16_made_eq (a0 a1 : Value) (h : Heap) (Q : Value → Heap → Prop) : fW Try.prog ⟨[], []⟩ Try.f124 [a0, a1] h Q = W_homographref16_made a0 a1 h Q := by kernel_rfl
theorem W_homographref16_made_ok {a0 a1 : Value} {h : Heap} {Q : Value → Heap → Prop} (e : W_homographref16_made a0 a1 h Q) : acall Try.prog F_homographref16_made [a0, a1] h Q :=
  by refine acall_of_fW mixed ⟨[], []⟩ Try.func124 (by kernel_rfl) ?_; rw [W_homographref16_made_eq]; exact e

/-- homograph/homographref16.By: loops {3: [1, 2, 5, 6]}; joins {} -/
def W_homographref16_By (a0 a1 : Value) (h : Heap) (Q : Value → Heap → Prop) : Prop :=
(hW (boxA h a0) fun v1 h2 =>
(∃ (I3 : Nat → List Value → Heap → Prop) (k4 : Nat), gcL h (I3 k4) [a1, v1, (.slice none 0 0), (.int .i64 0)] h2 ∧
∀ k6 : Nat, ∀ x7 : Value, ∀ x8 : Value, ∀ x9 : Value, ∀ x10 : Value, ∀ h11, I3 k6 [x7, x8, x9, x10] h11 →
(oW (faW 3 1 x8) fun v12 =>
(oW (ldW false 1 h11 v12) fun v13 =>
(oW (lenS v13) fun v14 =>
(oW (binN .lss x10 v14) fun v15 =>
(bW v15
(oW (faW 3 1 x8) fun v16 =>
(oW (ldW false 1 h11 v16) fun v17 =>
(oW (iaS 1 v17 x10) fun v18 =>
(oW (ldW false 1 h11 v18) fun v19 =>
(oW (lenS v19) fun v20 =>
(oW (binN .gtr v20 (.int .i64 0)) fun v21 =>
(bW v21
(oW (faW 3 1 x8) fun v22 =>
(oW (ldW false 1 h11 v22) fun v23 =>
(oW (iaS 1 v23 x10) fun v24 =>
(oW (ldW false 1 h11 v24) fun v25 =>
(oW (iaS 1 v25 (.int .i64 0)) fun v26 =>
(oW (ldW false 1 h11 v26) fun v27 =>
(oW (binN .eql v27 x7) fun v28 =>
(bW v28
(hW (bslW h11 1 [(.int .i64 0)] [(0, 1, x10)]) fun v29 h30 =>
(hW (apW 1 8 h30 x9 v29) fun v31 h32 =>
(oW (binN .add x10 (.int .i64 1)) fun v33 =>
(∃ m5, m5 < k6 ∧ gcL h (I3 m5) [x7, x8, v31, v33] h32))))
(oW (binN .add x10 (.int .i64 1)) fun v34 =>
(∃ m5, m5 < k6 ∧ gcL h (I3 m5) [x7, x8, x9, v34] h11))))))))))
(bW (.bool false)
(hW (bslW h11 1 [(.int .i64 0)] [(0, 1, x10)]) fun v35 h36 =>
(hW (apW 1 8 h36 x9 v35) fun v37 h38 =>
(oW (binN .add x10 (.int .i64 1)) fun v39 =>
(∃ m5, m5 < k6 ∧ gcL h (I3 m5) [x7, x8, v37, v39] h38))))
(oW (binN .add x10 (.int .i64 1)) fun v40 =>
(∃ m5, m5 < k6 ∧ gcL h (I3 m5) [x7, x8, x9, v40] h11))))))))))
(gcV h Q x9 h11))))))))
theorem W_homographref16_By_eq (a0 a1 : Value) (h : Heap) (Q : Value → Heap → Prop) : fW Try.prog ⟨[(3, [1, 2, 5, 6])], []⟩ Try.f125 [a0, a1] h Q = W_homographref16_By a0 a1 h Q := by kernel_rfl
theorem W_homographref16_By_ok {a0 a1 : Value} {h : Heap} {Q : Value → Heap → Prop} (e : W_homographref16_By a0 a1 h Q) : acall Try.prog F_homographref16_By [a0, a1] h Q :=
  by refine acall_of_fW mixed ⟨[(3, [1, 2, 5, 6])], []⟩ Try.func125 (by kernel_rfl) ?_; rw [W_homographref16_By_eq]; exact e

/-- (homograph/symbols.Grammar).made: loops {}; joins {} -/
def W_symbols_Grammar_made (a0 a1 : Value) (h : Heap) (Q : Value → Heap → Prop) : Prop :=
(hW (boxA h a0) fun v1 h2 =>
(oW (faW 1 1 v1) fun v3 =>
(oW (ldW false 1 h2 v3) fun v4 =>
(oW (binN .geq a1 v4) fun v5 =>
(bW v5
(oW (ldW true 5 h2 v1) fun v6 =>
(callW Try.prog (fn F_symbols_Grammar_symbol) [v6, a1] h2 fun v7 h8 =>
(gcV h Q v7 h8)))
(gcV h Q (.bool false) h2))))))
theorem W_symbols_Grammar_made_eq (a0 a1 : Value) (h : Heap) (Q : Value → Heap → Prop) : fW Try.prog ⟨[], []⟩ Try.f137 [a0, a1] h Q = W_symbols_Grammar_made a0 a1 h Q := by kernel_rfl
theorem W_symbols_Grammar_made_ok {a0 a1 : Value} {h : Heap} {Q : Value → Heap → Prop} (e : W_symbols_Grammar_made a0 a1 h Q) : acall Try.prog F_symbols_Grammar_made [a0, a1] h Q :=
  by refine acall_of_fW mixed ⟨[], []⟩ Try.func137 (by kernel_rfl) ?_; rw [W_symbols_Grammar_made_eq]; exact e

/-- (homograph/symbols.Grammar).fits: loops {}; joins {} -/
def W_symbols_Grammar_fits (a0 a1 : Value) (h : Heap) (Q : Value → Heap → Prop) : Prop :=
(hW (boxA h a0) fun v1 h2 =>
(oW (lenS a1) fun v3 =>
(oW (binN .gtr v3 (.int .i64 0)) fun v4 =>
(bW v4
(oW (lenS a1) fun v5 =>
(oW (binN .leq v5 (.int .i64 9)) fun v6 =>
(bW v6
(oW (ldW true 5 h2 v1) fun v7 =>
(oW (iaS 1 a1 (.int .i64 0)) fun v8 =>
(oW (ldW false 1 h2 v8) fun v9 =>
(callW Try.prog (fn F_symbols_Grammar_made) [v7, v9] h2 fun v10 h11 =>
(keptW [v8, v1, a1, a1] h2 h11 ∧
(bW v10
(oW (slS 1 h11 a1 (some (.int .i64 1)) none none) fun v12 =>
(callW Try.prog (fn F_slices_ContainsFunc_int_int) [v12, (.func (.func F_symbols_Grammar_fits_D1) #[] #[v1])] h11 fun v13 h14 =>
(keptW [a1, v8, v1, a1, a1] h11 h14 ∧
(oW (unA .not v13) fun v15 =>
(gcV h Q v15 h14)))))
(gcV h Q (.bool false) h11)))))))
(gcV h Q (.bool false) h2))))
(gcV h Q (.bool false) h2)))))
theorem W_symbols_Grammar_fits_eq (a0 a1 : Value) (h : Heap) (Q : Value → Heap → Prop) : fW Try.prog ⟨[], []⟩ Try.f138 [a0, a1] h Q = W_symbols_Grammar_fits a0 a1 h Q := by kernel_rfl
theorem W_symbols_Grammar_fits_ok {a0 a1 : Value} {h : Heap} {Q : Value → Heap → Prop} (e : W_symbols_Grammar_fits a0 a1 h Q) : acall Try.prog F_symbols_Grammar_fits [a0, a1] h Q :=
  by refine acall_of_fW mixed ⟨[], []⟩ Try.func138 (by kernel_rfl) ?_; rw [W_symbols_Grammar_fits_eq]; exact e

/-- (homograph/symbols.Grammar).symbol: loops {}; joins {} -/
def W_symbols_Grammar_symbol (a0 a1 : Value) (h : Heap) (Q : Value → Heap → Prop) : Prop :=
(hW (boxA h a0) fun v1 h2 =>
(oW (binN .geq a1 (.int .i64 0)) fun v3 =>
(bW v3
(oW (faW 0 1 v1) fun v4 =>
(oW (ldW false 1 h2 v4) fun v5 =>
(oW (lenS v5) fun v6 =>
(oW (binN .lss a1 v6) fun v7 =>
(gcV h Q v7 h2)))))
(gcV h Q (.bool false) h2))))
theorem W_symbols_Grammar_symbol_eq (a0 a1 : Value) (h : Heap) (Q : Value → Heap → Prop) : fW Try.prog ⟨[], []⟩ Try.f154 [a0, a1] h Q = W_symbols_Grammar_symbol a0 a1 h Q := by kernel_rfl
theorem W_symbols_Grammar_symbol_ok {a0 a1 : Value} {h : Heap} {Q : Value → Heap → Prop} (e : W_symbols_Grammar_symbol a0 a1 h Q) : acall Try.prog F_symbols_Grammar_symbol [a0, a1] h Q :=
  by refine acall_of_fW mixed ⟨[], []⟩ Try.func154 (by kernel_rfl) ?_; rw [W_symbols_Grammar_symbol_eq]; exact e

/-- (homograph/symbols.Grammar).fits$1: loops {}; joins {} -/
def W_symbols_Grammar_fits_D1 (a0 a1 : Value) (h : Heap) (Q : Value → Heap → Prop) : Prop :=
(oW (ldW true 5 h a1) fun v1 =>
(callW Try.prog (fn F_symbols_Grammar_symbol) [v1, a0] h fun v2 h3 =>
(oW (unA .not v2) fun v4 =>
(gcV h Q v4 h3))))
theorem W_symbols_Grammar_fits_D1_eq (a0 a1 : Value) (h : Heap) (Q : Value → Heap → Prop) : fW Try.prog ⟨[], []⟩ Try.f155 [a0, a1] h Q = W_symbols_Grammar_fits_D1 a0 a1 h Q := by kernel_rfl
theorem W_symbols_Grammar_fits_D1_ok {a0 a1 : Value} {h : Heap} {Q : Value → Heap → Prop} (e : W_symbols_Grammar_fits_D1 a0 a1 h Q) : acall Try.prog F_symbols_Grammar_fits_D1 [a0, a1] h Q :=
  by refine acall_of_fW mixed ⟨[], []⟩ Try.func155 (by kernel_rfl) ?_; rw [W_symbols_Grammar_fits_D1_eq]; exact e

end Go.Ax
