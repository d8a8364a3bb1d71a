/- The small words of functions that the laws reach. -/
import Derived.Test.YthhknneomcleoabC1
import Derived.Test.YthhknneomcleoabChecked
import Derived.KernelRfl
namespace Go.Ax
open Go Go.Proofs
theorem mixed : Try.prog.follows .mixedOrders = true := by kernel_rfl

abbrev F_homographlaw18_CyclesAgree : FuncId := 3
abbrev F_homographlaw18_CyclesMore : FuncId := 4
abbrev F_homographlaw18_awake : FuncId := 5
abbrev F_homographlaw18_made : FuncId := 6
abbrev F_cycles_Cyclic : FuncId := 7
abbrev F_cycles_Left : FuncId := 8
abbrev F_cycles_Hidden : FuncId := 9
abbrev F_cycles_Chain : FuncId := 10
abbrev F_cycles_Alone : FuncId := 11
abbrev F_homographref17_Bools : FuncId := 12
abbrev F_homographref04_Same : FuncId := 13
abbrev F_homographref16_Make : FuncId := 14
abbrev F_cycles_table_bool_own : FuncId := 15
abbrev F_cycles_right : FuncId := 16
abbrev F_cycles_first : FuncId := 17
abbrev F_cycles_table_bool_close : FuncId := 18
abbrev F_cycles_blank_bool : FuncId := 19
abbrev F_cycles_void : FuncId := 20
abbrev F_symbols_By : FuncId := 21
abbrev F_slices_Clone_int_int : FuncId := 22
abbrev F_slices_Compare_int_int : FuncId := 23
abbrev F_maps_Copy_map_int_int_map_int_int_int_int : FuncId := 24
abbrev F_slices_Sorted_int : FuncId := 25
abbrev F_maps_Keys_map_int_int_int_int : FuncId := 26
abbrev F_cycles_alone : FuncId := 27
abbrev F_symbols_Check : FuncId := 28
abbrev F_cycles_steps : FuncId := 29
abbrev F_cycles_first_D1 : FuncId := 30
abbrev F_sets_Nullable : FuncId := 31
abbrev F_cycles_void_D1 : FuncId := 32
abbrev F_slices_ContainsFunc_int_int : FuncId := 33
abbrev F_cycles_void_D1_D1 : FuncId := 34
abbrev F_cmp_Compare_int : FuncId := 35
abbrev F_maps_Keys_map_int_int_int_int_D1 : FuncId := 38
abbrev F_cycles_alone_D1 : FuncId := 39
abbrev F_symbols_Grammar_made : FuncId := 40
abbrev F_symbols_Grammar_fits : FuncId := 41
abbrev F_sets_marked : FuncId := 42
abbrev F_slices_IndexFunc_int_int : FuncId := 43
abbrev F_cmp_isNaN_int : FuncId := 44
abbrev F_symbols_Grammar_symbol : FuncId := 48
abbrev F_symbols_Grammar_fits_D1 : FuncId := 49
abbrev F_sets_right : FuncId := 50
abbrev F_sets_until_int : FuncId := 51
abbrev F_sets_marked_D1 : FuncId := 52
abbrev F_sets_marked_D1_D1 : FuncId := 53

/-- homograph/homographlaw18.CyclesAgree: loops {11: [4, 5, 6, 7, 8]}; joins {} -/
def W_homographlaw18_CyclesAgree (a0 : Value) (h : Heap) (Q : Value → Heap → Prop) : Prop :=
(callW Try.prog (fn F_homographlaw18_awake) [] h fun v1 h2 =>
(oW (unA .not v1) fun v3 =>
(bW v3
(gcV h Q (.bool false) h2)
(oW (lenStr a0) fun v4 =>
(oW (binN .gtr v4 (.int .i64 80)) fun v5 =>
(bW v5
(gcV h Q (.bool true) h2)
(callW Try.prog (fn F_homographlaw18_made) [a0] h2 fun v6 h7 =>
(letH (h7 ++ [.row [(.slice none 0 0), (.int .i64 0), (.slice none 0 0), (.slice none 0 0), (.int .i64 0)] .exact]) fun h8 =>
(sW (stW 5 h8 (.pointer (some ⟨h7.length, 0, none⟩)) v6) fun h9 =>
(oW (ldW true 5 h9 (.pointer (some ⟨h7.length, 0, none⟩))) fun v10 =>
(callW Try.prog (fn F_cycles_Cyclic) [v10] h9 fun v11 h12 =>
(oW (ldW true 5 h12 (.pointer (some ⟨h7.length, 0, none⟩))) fun v13 =>
(callW Try.prog (fn F_cycles_Left) [v13] h12 fun v14 h15 =>
(oW (ldW true 5 h15 (.pointer (some ⟨h7.length, 0, none⟩))) fun v16 =>
(callW Try.prog (fn F_cycles_Hidden) [v16] h15 fun v17 h18 =>
(∃ (I19 : Nat → List Value → Heap → Prop) (k20 : Nat), gcL h (I19 k20) [(.pointer (some ⟨h7.length, 0, none⟩)), v11, v14, v17, (.int .i64 0)] h18 ∧
∀ k22 : Nat, ∀ x23 : Value, ∀ x24 : Value, ∀ x25 : Value, ∀ x26 : Value, ∀ x27 : Value, ∀ h28, I19 k22 [x23, x24, x25, x26, x27] h28 →
(oW (faW 0 1 x23) fun v29 =>
(oW (ldW false 1 h28 v29) fun v30 =>
(oW (lenS v30) fun v31 =>
(oW (binN .lss x27 v31) fun v32 =>
(bW v32
(oW (iaS 1 x24 x27) fun v33 =>
(oW (ldW false 1 h28 v33) fun v34 =>
(bW v34
(oW (iaS 1 x25 x27) fun v35 =>
(oW (ldW false 1 h28 v35) fun v36 =>
(oW (unA .not v36) fun v37 =>
(bW v37
(bW (.bool true)
(gcV h Q (.bool false) h28)
(oW (binN .add x27 (.int .i64 1)) fun v38 =>
(∃ m21, m21 < k22 ∧ gcL h (I19 m21) [x23, x24, x25, x26, v38] h28)))
(oW (iaS 1 x26 x27) fun v39 =>
(oW (ldW false 1 h28 v39) fun v40 =>
(bW v40
(oW (iaS 1 x25 x27) fun v41 =>
(oW (ldW false 1 h28 v41) fun v42 =>
(oW (unA .not v42) fun v43 =>
(bW v43
(bW (.bool true)
(gcV h Q (.bool false) h28)
(oW (binN .add x27 (.int .i64 1)) fun v44 =>
(∃ m21, m21 < k22 ∧ gcL h (I19 m21) [x23, x24, x25, x26, v44] h28)))
(oW (faW 1 1 x23) fun v45 =>
(oW (ldW false 1 h28 v45) fun v46 =>
(oW (binN .lss x27 v46) fun v47 =>
(bW v47
(oW (iaS 1 x25 x27) fun v48 =>
(oW (ldW false 1 h28 v48) fun v49 =>
(bW v49
(gcV h Q (.bool false) h28)
(oW (binN .add x27 (.int .i64 1)) fun v50 =>
(∃ m21, m21 < k22 ∧ gcL h (I19 m21) [x23, x24, x25, x26, v50] h28)))))
(bW (.bool false)
(gcV h Q (.bool false) h28)
(oW (binN .add x27 (.int .i64 1)) fun v51 =>
(∃ m21, m21 < k22 ∧ gcL h (I19 m21) [x23, x24, x25, x26, v51] h28)))))))))))
(bW (.bool false)
(bW (.bool true)
(gcV h Q (.bool false) h28)
(oW (binN .add x27 (.int .i64 1)) fun v52 =>
(∃ m21, m21 < k22 ∧ gcL h (I19 m21) [x23, x24, x25, x26, v52] h28)))
(oW (faW 1 1 x23) fun v53 =>
(oW (ldW false 1 h28 v53) fun v54 =>
(oW (binN .lss x27 v54) fun v55 =>
(bW v55
(oW (iaS 1 x25 x27) fun v56 =>
(oW (ldW false 1 h28 v56) fun v57 =>
(bW v57
(gcV h Q (.bool false) h28)
(oW (binN .add x27 (.int .i64 1)) fun v58 =>
(∃ m21, m21 < k22 ∧ gcL h (I19 m21) [x23, x24, x25, x26, v58] h28)))))
(bW (.bool false)
(gcV h Q (.bool false) h28)
(oW (binN .add x27 (.int .i64 1)) fun v59 =>
(∃ m21, m21 < k22 ∧ gcL h (I19 m21) [x23, x24, x25, x26, v59] h28)))))))))))))))
(oW (iaS 1 x26 x27) fun v60 =>
(oW (ldW false 1 h28 v60) fun v61 =>
(bW v61
(oW (iaS 1 x25 x27) fun v62 =>
(oW (ldW false 1 h28 v62) fun v63 =>
(oW (unA .not v63) fun v64 =>
(bW v64
(bW (.bool true)
(gcV h Q (.bool false) h28)
(oW (binN .add x27 (.int .i64 1)) fun v65 =>
(∃ m21, m21 < k22 ∧ gcL h (I19 m21) [x23, x24, x25, x26, v65] h28)))
(oW (faW 1 1 x23) fun v66 =>
(oW (ldW false 1 h28 v66) fun v67 =>
(oW (binN .lss x27 v67) fun v68 =>
(bW v68
(oW (iaS 1 x25 x27) fun v69 =>
(oW (ldW false 1 h28 v69) fun v70 =>
(bW v70
(gcV h Q (.bool false) h28)
(oW (binN .add x27 (.int .i64 1)) fun v71 =>
(∃ m21, m21 < k22 ∧ gcL h (I19 m21) [x23, x24, x25, x26, v71] h28)))))
(bW (.bool false)
(gcV h Q (.bool false) h28)
(oW (binN .add x27 (.int .i64 1)) fun v72 =>
(∃ m21, m21 < k22 ∧ gcL h (I19 m21) [x23, x24, x25, x26, v72] h28)))))))))))
(bW (.bool false)
(bW (.bool true)
(gcV h Q (.bool false) h28)
(oW (binN .add x27 (.int .i64 1)) fun v73 =>
(∃ m21, m21 < k22 ∧ gcL h (I19 m21) [x23, x24, x25, x26, v73] h28)))
(oW (faW 1 1 x23) fun v74 =>
(oW (ldW false 1 h28 v74) fun v75 =>
(oW (binN .lss x27 v75) fun v76 =>
(bW v76
(oW (iaS 1 x25 x27) fun v77 =>
(oW (ldW false 1 h28 v77) fun v78 =>
(bW v78
(gcV h Q (.bool false) h28)
(oW (binN .add x27 (.int .i64 1)) fun v79 =>
(∃ m21, m21 < k22 ∧ gcL h (I19 m21) [x23, x24, x25, x26, v79] h28)))))
(bW (.bool false)
(gcV h Q (.bool false) h28)
(oW (binN .add x27 (.int .i64 1)) fun v80 =>
(∃ m21, m21 < k22 ∧ gcL h (I19 m21) [x23, x24, x25, x26, v80] h28))))))))))))))
(oW (lenS x24) fun v81 =>
(oW (faW 0 1 x23) fun v82 =>
(oW (ldW false 1 h28 v82) fun v83 =>
(oW (lenS v83) fun v84 =>
(oW (binN .eql v81 v84) fun v85 =>
(gcV h Q v85 h28)))))))))))))))))))))))))))
theorem W_homographlaw18_CyclesAgree_eq (a0 : Value) (h : Heap) (Q : Value → Heap → Prop) : fW Try.prog ⟨[(11, [4, 5, 6, 7, 8])], []⟩ Try.f3 [a0] h Q = W_homographlaw18_CyclesAgree a0 h Q := by kernel_rfl
theorem W_homographlaw18_CyclesAgree_ok {a0 : Value} {h : Heap} {Q : Value → Heap → Prop} (e : W_homographlaw18_CyclesAgree a0 h Q) : acall Try.prog F_homographlaw18_CyclesAgree [a0] h Q :=
  by refine acall_of_fW mixed ⟨[(11, [4, 5, 6, 7, 8])], []⟩ Try.func3 (by kernel_rfl) ?_; rw [W_homographlaw18_CyclesAgree_eq]; exact e

/-- homograph/homographlaw18.CyclesMore: loops {15: [6, 7, 8, 9, 10, 11, 12, 13]}; joins {} -/
def W_homographlaw18_CyclesMore (a0 a1 : Value) (h : Heap) (Q : Value → Heap → Prop) : Prop :=
(callW Try.prog (fn F_homographlaw18_awake) [] h fun v1 h2 =>
(oW (unA .not v1) fun v3 =>
(bW v3
(gcV h Q (.bool false) h2)
(oW (lenStr a0) fun v4 =>
(oW (binN .gtr v4 (.int .i64 60)) fun v5 =>
(bW v5
(gcV h Q (.bool true) h2)
(callW Try.prog (fn F_homographlaw18_made) [a0] h2 fun v6 h7 =>
(letH (h7 ++ [.row [(.slice none 0 0), (.int .i64 0), (.slice none 0 0), (.slice none 0 0), (.int .i64 0)] .exact]) fun h8 =>
(sW (stW 5 h8 (.pointer (some ⟨h7.length, 0, none⟩)) v6) fun h9 =>
(callW Try.prog (fn F_homographlaw18_made) [a0] h9 fun v10 h11 =>
(letH (h11 ++ [.row [(.slice none 0 0), (.int .i64 0), (.slice none 0 0), (.slice none 0 0), (.int .i64 0)] .exact]) fun h12 =>
(sW (stW 5 h12 (.pointer (some ⟨h11.length, 0, none⟩)) v10) fun h13 =>
(oW (faW 1 1 (.pointer (some ⟨h7.length, 0, none⟩))) fun v14 =>
(oW (ldW false 1 h13 v14) fun v15 =>
(oW (faW 0 1 (.pointer (some ⟨h7.length, 0, none⟩))) fun v16 =>
(oW (ldW false 1 h13 v16) fun v17 =>
(oW (lenS v17) fun v18 =>
(oW (faW 1 1 (.pointer (some ⟨h7.length, 0, none⟩))) fun v19 =>
(oW (ldW false 1 h13 v19) fun v20 =>
(oW (binN .sub v18 v20) fun v21 =>
(oW (cvI .i64 a1) fun v22 =>
(keptW [v19, v17, v16, v14] h13 h13 ∧
(oW (binN .rem v22 v21) fun v23 =>
(oW (binN .add v15 v23) fun v24 =>
(oW (faW 3 1 (.pointer (some ⟨h11.length, 0, none⟩))) fun v25 =>
(oW (ldW false 1 h13 v25) fun v26 =>
(hW (bslW h13 2 [(.int .i64 0), (.int .i64 0)] [(0, 1, v24), (1, 1, v24)]) fun v27 h28 =>
(hW (bslW h28 1 [(.slice none 0 0)] [(0, 1, v27)]) fun v29 h30 =>
(hW (apW 1 24 h30 v26 v29) fun v31 h32 =>
(oW (faW 3 1 (.pointer (some ⟨h11.length, 0, none⟩))) fun v33 =>
(sW (stW 1 h32 v33 v31) fun h34 =>
(oW (ldW true 5 h34 (.pointer (some ⟨h7.length, 0, none⟩))) fun v35 =>
(callW Try.prog (fn F_cycles_Cyclic) [v35] h34 fun v36 h37 =>
(oW (ldW true 5 h37 (.pointer (some ⟨h11.length, 0, none⟩))) fun v38 =>
(callW Try.prog (fn F_cycles_Cyclic) [v38] h37 fun v39 h40 =>
(oW (ldW true 5 h40 (.pointer (some ⟨h7.length, 0, none⟩))) fun v41 =>
(callW Try.prog (fn F_cycles_Left) [v41] h40 fun v42 h43 =>
(oW (ldW true 5 h43 (.pointer (some ⟨h11.length, 0, none⟩))) fun v44 =>
(callW Try.prog (fn F_cycles_Left) [v44] h43 fun v45 h46 =>
(∃ (I47 : Nat → List Value → Heap → Prop) (k48 : Nat), gcL h (I47 k48) [(.pointer (some ⟨h7.length, 0, none⟩)), (.pointer (some ⟨h11.length, 0, none⟩)), v24, v36, v39, v42, v45, (.int .i64 0)] h46 ∧
∀ k50 : Nat, ∀ x51 : Value, ∀ x52 : Value, ∀ x53 : Value, ∀ x54 : Value, ∀ x55 : Value, ∀ x56 : Value, ∀ x57 : Value, ∀ x58 : Value, ∀ h59, I47 k50 [x51, x52, x53, x54, x55, x56, x57, x58] h59 →
(oW (faW 0 1 x51) fun v60 =>
(oW (ldW false 1 h59 v60) fun v61 =>
(oW (lenS v61) fun v62 =>
(oW (binN .lss x58 v62) fun v63 =>
(bW v63
(oW (iaS 1 x54 x58) fun v64 =>
(oW (ldW false 1 h59 v64) fun v65 =>
(bW v65
(oW (iaS 1 x55 x58) fun v66 =>
(oW (ldW false 1 h59 v66) fun v67 =>
(oW (unA .not v67) fun v68 =>
(bW v68
(bW (.bool true)
(gcV h Q (.bool false) h59)
(oW (binN .add x58 (.int .i64 1)) fun v69 =>
(∃ m49, m49 < k50 ∧ gcL h (I47 m49) [x51, x52, x53, x54, x55, x56, x57, v69] h59)))
(oW (iaS 1 x56 x58) fun v70 =>
(oW (ldW false 1 h59 v70) fun v71 =>
(bW v71
(oW (iaS 1 x57 x58) fun v72 =>
(oW (ldW false 1 h59 v72) fun v73 =>
(oW (unA .not v73) fun v74 =>
(bW v74
(gcV h Q (.bool false) h59)
(oW (binN .add x58 (.int .i64 1)) fun v75 =>
(∃ m49, m49 < k50 ∧ gcL h (I47 m49) [x51, x52, x53, x54, x55, x56, x57, v75] h59))))))
(bW (.bool false)
(gcV h Q (.bool false) h59)
(oW (binN .add x58 (.int .i64 1)) fun v76 =>
(∃ m49, m49 < k50 ∧ gcL h (I47 m49) [x51, x52, x53, x54, x55, x56, x57, v76] h59))))))))))
(oW (iaS 1 x56 x58) fun v77 =>
(oW (ldW false 1 h59 v77) fun v78 =>
(bW v78
(oW (iaS 1 x57 x58) fun v79 =>
(oW (ldW false 1 h59 v79) fun v80 =>
(oW (unA .not v80) fun v81 =>
(bW v81
(gcV h Q (.bool false) h59)
(oW (binN .add x58 (.int .i64 1)) fun v82 =>
(∃ m49, m49 < k50 ∧ gcL h (I47 m49) [x51, x52, x53, x54, x55, x56, x57, v82] h59))))))
(bW (.bool false)
(gcV h Q (.bool false) h59)
(oW (binN .add x58 (.int .i64 1)) fun v83 =>
(∃ m49, m49 < k50 ∧ gcL h (I47 m49) [x51, x52, x53, x54, x55, x56, x57, v83] h59)))))))))
(oW (iaS 1 x55 x53) fun v84 =>
(oW (ldW false 1 h59 v84) fun v85 =>
(bW v85
(oW (iaS 1 x57 x53) fun v86 =>
(oW (ldW false 1 h59 v86) fun v87 =>
(bW v87
(oW (ldW true 5 h59 x52) fun v88 =>
(callW Try.prog (fn F_cycles_Chain) [v88, x53] h59 fun v89 h90 =>
(oW (lenS v89) fun v91 =>
(oW (binN .eql v91 (.int .i64 1)) fun v92 =>
(bW v92
(oW (ldW true 5 h90 x52) fun v93 =>
(callW Try.prog (fn F_cycles_Alone) [v93] h90 fun v94 h95 =>
(oW (iaS 1 v94 x53) fun v96 =>
(oW (ldW false 1 h95 v96) fun v97 =>
(oW (iaS 1 v97 x53) fun v98 =>
(oW (ldW false 1 h95 v98) fun v99 =>
(gcV h Q v99 h95)))))))
(gcV h Q (.bool false) h90))))))
(gcV h Q (.bool false) h59))))
(gcV h Q (.bool false) h59)))))))))))))))))))))))))))))))))))))))))))))))))
theorem W_homographlaw18_CyclesMore_eq (a0 a1 : Value) (h : Heap) (Q : Value → Heap → Prop) : fW Try.prog ⟨[(15, [6, 7, 8, 9, 10, 11, 12, 13])], []⟩ Try.f4 [a0, a1] h Q = W_homographlaw18_CyclesMore a0 a1 h Q := by kernel_rfl
theorem W_homographlaw18_CyclesMore_ok {a0 a1 : Value} {h : Heap} {Q : Value → Heap → Prop} (e : W_homographlaw18_CyclesMore a0 a1 h Q) : acall Try.prog F_homographlaw18_CyclesMore [a0, a1] h Q :=
  by refine acall_of_fW mixed ⟨[(15, [6, 7, 8, 9, 10, 11, 12, 13])], []⟩ Try.func4 (by kernel_rfl) ?_; rw [W_homographlaw18_CyclesMore_eq]; exact e

/-- homograph/homographlaw18.awake: loops {}; joins {} -/
def W_homographlaw18_awake (h : Heap) (Q : Value → Heap → Prop) : Prop :=
(hW (bslW h 3 [(.string ⟨#[]⟩), (.string ⟨#[]⟩), (.string ⟨#[]⟩)] [(0, 1, (.string ⟨#[97]⟩)), (1, 1, (.string ⟨#[83]⟩)), (2, 1, (.string ⟨#[84]⟩))]) fun v1 h2 =>
(hW (bslW h2 1 [(.int .i64 0)] [(0, 1, (.int .i64 0))]) fun v3 h4 =>
(hW (bslW h4 2 [(.int .i64 0), (.int .i64 0)] [(0, 1, (.int .i64 1)), (1, 1, (.int .i64 1))]) fun v5 h6 =>
(hW (bslW h6 3 [(.int .i64 0), (.int .i64 0), (.int .i64 0)] [(0, 1, (.int .i64 1)), (1, 1, (.int .i64 2)), (2, 1, (.int .i64 0))]) fun v7 h8 =>
(hW (bslW h8 1 [(.int .i64 0)] [(0, 1, (.int .i64 2))]) fun v9 h10 =>
(hW (bslW h10 3 [(.slice none 0 0), (.slice none 0 0), (.slice none 0 0)] [(0, 1, v5), (1, 1, v7), (2, 1, v9)]) fun v11 h12 =>
(oW (bldW [(.slice none 0 0), (.int .i64 0), (.slice none 0 0), (.slice none 0 0), (.int .i64 0)] [(0, 1, v1), (1, 1, (.int .i64 1)), (2, 1, v3), (3, 1, v11), (4, 1, (.int .i64 1))]) fun v13 =>
(letH (h12 ++ [.row [(.slice none 0 0), (.int .i64 0), (.slice none 0 0), (.slice none 0 0), (.int .i64 0)] .exact]) fun h14 =>
(sW (stW 5 h14 (.pointer (some ⟨h12.length, 0, none⟩)) v13) fun h15 =>
(oW (ldW true 5 h15 (.pointer (some ⟨h12.length, 0, none⟩))) fun v16 =>
(callW Try.prog (fn F_cycles_Cyclic) [v16] h15 fun v17 h18 =>
(hW (bslW h18 3 [(.bool false), (.bool false), (.bool false)] [(0, 1, (.bool false)), (1, 1, (.bool true)), (2, 1, (.bool false))]) fun v19 h20 =>
(callW Try.prog (fn F_homographref17_Bools) [v17, v19] h20 fun v21 h22 =>
(bW v21
(oW (ldW true 5 h22 (.pointer (some ⟨h12.length, 0, none⟩))) fun v23 =>
(callW Try.prog (fn F_cycles_Left) [v23] h22 fun v24 h25 =>
(hW (bslW h25 3 [(.bool false), (.bool false), (.bool false)] [(0, 1, (.bool false)), (1, 1, (.bool true)), (2, 1, (.bool false))]) fun v26 h27 =>
(callW Try.prog (fn F_homographref17_Bools) [v24, v26] h27 fun v28 h29 =>
(bW v28
(oW (ldW true 5 h29 (.pointer (some ⟨h12.length, 0, none⟩))) fun v30 =>
(callW Try.prog (fn F_cycles_Hidden) [v30] h29 fun v31 h32 =>
(hW (bslW h32 3 [(.bool false), (.bool false), (.bool false)] [(0, 1, (.bool false)), (1, 1, (.bool false)), (2, 1, (.bool false))]) fun v33 h34 =>
(callW Try.prog (fn F_homographref17_Bools) [v31, v33] h34 fun v35 h36 =>
(bW v35
(oW (ldW true 5 h36 (.pointer (some ⟨h12.length, 0, none⟩))) fun v37 =>
(callW Try.prog (fn F_cycles_Chain) [v37, (.int .i64 1)] h36 fun v38 h39 =>
(hW (bslW h39 1 [(.int .i64 0)] [(0, 1, (.int .i64 0))]) fun v40 h41 =>
(callW Try.prog (fn F_homographref04_Same) [v38, v40] h41 fun v42 h43 =>
(bW v42
(oW (ldW true 5 h43 (.pointer (some ⟨h12.length, 0, none⟩))) fun v44 =>
(callW Try.prog (fn F_cycles_Chain) [v44, (.int .i64 2)] h43 fun v45 h46 =>
(oW (lenS v45) fun v47 =>
(oW (binN .eql v47 (.int .i64 0)) fun v48 =>
(bW v48
(oW (ldW true 5 h46 (.pointer (some ⟨h12.length, 0, none⟩))) fun v49 =>
(callW Try.prog (fn F_cycles_Alone) [v49] h46 fun v50 h51 =>
(oW (iaS 1 v50 (.int .i64 1)) fun v52 =>
(oW (ldW false 1 h51 v52) fun v53 =>
(oW (iaS 1 v53 (.int .i64 1)) fun v54 =>
(oW (ldW false 1 h51 v54) fun v55 =>
(bW v55
(oW (ldW true 5 h51 (.pointer (some ⟨h12.length, 0, none⟩))) fun v56 =>
(callW Try.prog (fn F_cycles_Alone) [v56] h51 fun v57 h58 =>
(oW (iaS 1 v57 (.int .i64 1)) fun v59 =>
(oW (ldW false 1 h58 v59) fun v60 =>
(oW (iaS 1 v60 (.int .i64 2)) fun v61 =>
(oW (ldW false 1 h58 v61) fun v62 =>
(oW (unA .not v62) fun v63 =>
(gcV h Q v63 h58))))))))
(gcV h Q (.bool false) h51))))))))
(gcV h Q (.bool false) h46))))))
(gcV h Q (.bool false) h43))))))
(gcV h Q (.bool false) h36))))))
(gcV h Q (.bool false) h29))))))
(gcV h Q (.bool false) h22)))))))))))))))
theorem W_homographlaw18_awake_eq (h : Heap) (Q : Value → Heap → Prop) : fW Try.prog ⟨[], []⟩ Try.f5 [] h Q = W_homographlaw18_awake  h Q := by kernel_rfl
theorem W_homographlaw18_awake_ok {h : Heap} {Q : Value → Heap → Prop} (e : W_homographlaw18_awake  h Q) : acall Try.prog F_homographlaw18_awake [] h Q :=
  by refine acall_of_fW mixed ⟨[], []⟩ Try.func5 (by kernel_rfl) ?_; rw [W_homographlaw18_awake_eq]; exact e

/-- homograph/homographlaw18.made: loops {}; joins {} -/
def W_homographlaw18_made (a0 : Value) (h : Heap) (Q : Value → Heap → Prop) : Prop :=
(letH (h ++ [.row [(.slice none 0 0), (.int .i64 0), (.slice none 0 0), (.slice none 0 0), (.int .i64 0)] .exact]) fun h1 =>
(callW Try.prog (fn F_homographref16_Make) [a0] h1 fun v2 h3 =>
(letH (h3 ++ [.row [(.slice none 0 0), (.int .i64 0), (.slice none 0 0), (.slice none 0 0), (.int .i64 0)] .exact]) fun h4 =>
(sW (stW 5 h4 (.pointer (some ⟨h3.length, 0, none⟩)) v2) fun h5 =>
(oW (faW 0 1 (.pointer (some ⟨h3.length, 0, none⟩))) fun v6 =>
(oW (ldW false 1 h5 v6) fun v7 =>
(oW (faW 1 1 (.pointer (some ⟨h3.length, 0, none⟩))) fun v8 =>
(oW (ldW false 1 h5 v8) fun v9 =>
(oW (faW 2 1 (.pointer (some ⟨h3.length, 0, none⟩))) fun v10 =>
(oW (ldW false 1 h5 v10) fun v11 =>
(oW (faW 3 1 (.pointer (some ⟨h3.length, 0, none⟩))) fun v12 =>
(oW (ldW false 1 h5 v12) fun v13 =>
(oW (faW 4 1 (.pointer (some ⟨h3.length, 0, none⟩))) fun v14 =>
(oW (ldW false 1 h5 v14) fun v15 =>
(oW (bldW [(.slice none 0 0), (.int .i64 0), (.slice none 0 0), (.slice none 0 0), (.int .i64 0)] [(0, 1, v7), (1, 1, v9), (2, 1, v11), (3, 1, v13), (4, 1, v15)]) fun v16 =>
(sW (stW 5 h5 (.pointer (some ⟨h.length, 0, none⟩)) v16) fun h17 =>
(oW (ldP true 5 h17 (.pointer (some ⟨h.length, 0, none⟩))) fun v18 =>
(gcV h Q v18 h17))))))))))))))))))
theorem W_homographlaw18_made_eq (a0 : Value) (h : Heap) (Q : Value → Heap → Prop) : fW Try.prog ⟨[], []⟩ Try.f6 [a0] h Q = W_homographlaw18_made a0 h Q := by kernel_rfl
theorem W_homographlaw18_made_ok {a0 : Value} {h : Heap} {Q : Value → Heap → Prop} (e : W_homographlaw18_made a0 h Q) : acall Try.prog F_homographlaw18_made [a0] h Q :=
  by refine acall_of_fW mixed ⟨[], []⟩ Try.func6 (by kernel_rfl) ?_; rw [W_homographlaw18_made_eq]; exact e

/-- homograph/cycles.Cyclic: loops {}; joins {} -/
def W_cycles_Cyclic (a0 : Value) (h : Heap) (Q : Value → Heap → Prop) : Prop :=
(hW (boxA h a0) fun v1 h2 =>
(oW (ldW true 5 h2 v1) fun v3 =>
(callW Try.prog (fn F_cycles_Alone) [v3] h2 fun v4 h5 =>
(callW Try.prog (fn F_cycles_table_bool_own) [v4] h5 fun v6 h7 =>
(gcV h Q v6 h7)))))
theorem W_cycles_Cyclic_eq (a0 : Value) (h : Heap) (Q : Value → Heap → Prop) : fW Try.prog ⟨[], []⟩ Try.f7 [a0] h Q = W_cycles_Cyclic a0 h Q := by kernel_rfl
theorem W_cycles_Cyclic_ok {a0 : Value} {h : Heap} {Q : Value → Heap → Prop} (e : W_cycles_Cyclic a0 h Q) : acall Try.prog F_cycles_Cyclic [a0] h Q :=
  by refine acall_of_fW mixed ⟨[], []⟩ Try.func7 (by kernel_rfl) ?_; rw [W_cycles_Cyclic_eq]; exact e

/-- homograph/cycles.Left: loops {}; joins {} -/
def W_cycles_Left (a0 : Value) (h : Heap) (Q : Value → Heap → Prop) : Prop :=
(hW (boxA h a0) fun v1 h2 =>
(oW (ldW true 5 h2 v1) fun v3 =>
(callW Try.prog (fn F_cycles_right) [v3] h2 fun v4 h5 =>
(oW (unA .not v4) fun v6 =>
(bW v6
(gcV h Q (.slice none 0 0) h5)
(oW (ldW true 5 h5 v1) fun v7 =>
(callW Try.prog (fn F_cycles_first) [v7, (.int .i64 0)] h5 fun v8 h9 =>
(callW Try.prog (fn F_cycles_table_bool_close) [v8] h9 fun v10 h11 =>
(callW Try.prog (fn F_cycles_table_bool_own) [v10] h11 fun v12 h13 =>
(gcV h Q v12 h13))))))))))
theorem W_cycles_Left_eq (a0 : Value) (h : Heap) (Q : Value → Heap → Prop) : fW Try.prog ⟨[], []⟩ Try.f8 [a0] h Q = W_cycles_Left a0 h Q := by kernel_rfl
theorem W_cycles_Left_ok {a0 : Value} {h : Heap} {Q : Value → Heap → Prop} (e : W_cycles_Left a0 h Q) : acall Try.prog F_cycles_Left [a0] h Q :=
  by refine acall_of_fW mixed ⟨[], []⟩ Try.func8 (by kernel_rfl) ?_; rw [W_cycles_Left_eq]; exact e

/-- homograph/cycles.Hidden: loops {20: [3, 6, 9, 84, 85], 10: [3, 4, 5, 6, 7, 24, 25, 28, 29], 7: [3, 4, 5, 6, 24, 25]}; joins {} -/
def W_cycles_Hidden (a0 : Value) (h : Heap) (Q : Value → Heap → Prop) : Prop :=
(hW (boxA h a0) fun v1 h2 =>
(oW (ldW true 5 h2 v1) fun v3 =>
(callW Try.prog (fn F_cycles_right) [v3] h2 fun v4 h5 =>
(oW (unA .not v4) fun v6 =>
(bW v6
(gcV h Q (.slice none 0 0) h5)
(oW (faW 0 1 v1) fun v7 =>
(oW (ldW false 1 h5 v7) fun v8 =>
(oW (lenS v8) fun v9 =>
(oW (ldW true 5 h5 v1) fun v10 =>
(oW (ldW true 5 h5 v1) fun v11 =>
(callW Try.prog (fn F_cycles_first) [v10, (.int .i64 0)] h5 fun v12 h13 =>
(keptW [v1, v1] h5 h13 ∧
(callW Try.prog (fn F_cycles_first) [v11, (.int .i64 1)] h13 fun v14 h15 =>
(keptW [v1, v1] h13 h15 ∧
(oW (binN .mul (.int .i64 2) v9) fun v16 =>
(callW Try.prog (fn F_cycles_blank_bool) [v16] h15 fun v17 h18 =>
(∃ (I19 : Nat → List Value → Heap → Prop) (k20 : Nat), gcL h (I19 k20) [v9, v12, v14, v17, v9, (.int .i64 0)] h18 ∧
∀ k22 : Nat, ∀ x23 : Value, ∀ x24 : Value, ∀ x25 : Value, ∀ x26 : Value, ∀ x27 : Value, ∀ x28 : Value, ∀ h29, I19 k22 [x23, x24, x25, x26, x27, x28] h29 →
(oW (binN .lss x28 x27) fun v30 =>
(bW v30
(∃ (I31 : Nat → List Value → Heap → Prop) (k32 : Nat), gcL h (I31 k32) [x23, x24, x25, x26, x28, x27, x28, x23, (.int .i64 0)] h29 ∧
∀ k34 : Nat, ∀ x35 : Value, ∀ x36 : Value, ∀ x37 : Value, ∀ x38 : Value, ∀ x39 : Value, ∀ x40 : Value, ∀ x41 : Value, ∀ x42 : Value, ∀ x43 : Value, ∀ h44, I31 k34 [x35, x36, x37, x38, x39, x40, x41, x42, x43] h44 →
(oW (binN .lss x43 x42) fun v45 =>
(bW v45
(oW (iaS 1 x38 x39) fun v46 =>
(oW (ldW false 1 h44 v46) fun v47 =>
(oW (iaS 1 x36 x39) fun v48 =>
(oW (ldW false 1 h44 v48) fun v49 =>
(oW (iaS 1 v49 x43) fun v50 =>
(oW (ldW false 1 h44 v50) fun v51 =>
(oW (iaS 1 v47 x43) fun v52 =>
(sW (stW 1 h44 v52 v51) fun h53 =>
(oW (binN .add x35 x39) fun v54 =>
(oW (iaS 1 x38 v54) fun v55 =>
(oW (ldW false 1 h53 v55) fun v56 =>
(oW (binN .add x35 x43) fun v57 =>
(oW (iaS 1 x36 x39) fun v58 =>
(oW (ldW false 1 h53 v58) fun v59 =>
(oW (iaS 1 v59 x43) fun v60 =>
(oW (ldW false 1 h53 v60) fun v61 =>
(oW (iaS 1 v56 v57) fun v62 =>
(sW (stW 1 h53 v62 v61) fun h63 =>
(oW (iaS 1 x38 x39) fun v64 =>
(oW (ldW false 1 h63 v64) fun v65 =>
(oW (binN .add x35 x43) fun v66 =>
(oW (iaS 1 x37 x39) fun v67 =>
(oW (ldW false 1 h63 v67) fun v68 =>
(oW (iaS 1 v68 x43) fun v69 =>
(oW (ldW false 1 h63 v69) fun v70 =>
(oW (iaS 1 v65 v66) fun v71 =>
(sW (stW 1 h63 v71 v70) fun h72 =>
(oW (binN .add x43 (.int .i64 1)) fun v73 =>
(∃ m33, m33 < k34 ∧ gcL h (I31 m33) [x35, x36, x37, x38, x39, x40, x41, x42, v73] h72)))))))))))))))))))))))))))))
(oW (binN .add x41 (.int .i64 1)) fun v74 =>
(∃ m21, m21 < k22 ∧ gcL h (I19 m21) [x35, x36, x37, x38, x40, v74] h44)))))
(callW Try.prog (fn F_cycles_table_bool_close) [x26] h29 fun v75 h76 =>
(hW (mksW [(.bool false)] 1 h76 x23 x23) fun v77 h78 =>
(oW (lenS v77) fun v79 =>
(∃ (I80 : Nat → List Value → Heap → Prop) (k81 : Nat), gcL h (I80 k81) [x23, x26, v77, v79, (.int .i64 0)] h78 ∧
∀ k83 : Nat, ∀ x84 : Value, ∀ x85 : Value, ∀ x86 : Value, ∀ x87 : Value, ∀ x88 : Value, ∀ h89, I80 k83 [x84, x85, x86, x87, x88] h89 →
(oW (binN .lss x88 x87) fun v90 =>
(bW v90
(oW (iaS 1 x85 x88) fun v91 =>
(oW (ldW false 1 h89 v91) fun v92 =>
(oW (binN .add x84 x88) fun v93 =>
(oW (iaS 1 v92 v93) fun v94 =>
(oW (ldW false 1 h89 v94) fun v95 =>
(oW (iaS 1 x86 x88) fun v96 =>
(sW (stW 1 h89 v96 v95) fun h97 =>
(oW (binN .add x88 (.int .i64 1)) fun v98 =>
(∃ m82, m82 < k83 ∧ gcL h (I80 m82) [x84, x85, x86, x87, v98] h97)))))))))
(gcV h Q x86 h89))))))))))))))))))))))))))
theorem W_cycles_Hidden_eq (a0 : Value) (h : Heap) (Q : Value → Heap → Prop) : fW Try.prog ⟨[(20, [3, 6, 9, 84, 85]), (10, [3, 4, 5, 6, 7, 24, 25, 28, 29]), (7, [3, 4, 5, 6, 24, 25])], []⟩ Try.f9 [a0] h Q = W_cycles_Hidden a0 h Q := by kernel_rfl
theorem W_cycles_Hidden_ok {a0 : Value} {h : Heap} {Q : Value → Heap → Prop} (e : W_cycles_Hidden a0 h Q) : acall Try.prog F_cycles_Hidden [a0] h Q :=
  by refine acall_of_fW mixed ⟨[(20, [3, 6, 9, 84, 85]), (10, [3, 4, 5, 6, 7, 24, 25, 28, 29]), (7, [3, 4, 5, 6, 24, 25])], []⟩ Try.func9 (by kernel_rfl) ?_; rw [W_cycles_Hidden_eq]; exact e

/-- homograph/cycles.Chain: loops {16: [1, 2, 5, 6, 8, 10, 12, 13, 37, 38, 39, 45, 46, 47, 57, 58, 59], 12: [1, 2, 5, 6, 8, 10, 37, 38, 39, 45, 46, 47], 9: [1, 2, 5, 6, 8, 37, 38, 39], 6: [1, 2, 5, 6, 7]}; joins {20: [1, 2, 5, 6, 8, 10, 12, 13, 15, 37, 38, 39, 45, 46, 47, 57, 58, 59]} -/
def W_cycles_Chain (a0 a1 : Value) (h : Heap) (Q : Value → Heap → Prop) : Prop :=
(hW (boxA h a0) fun v1 h2 =>
(oW (ldW true 5 h2 v1) fun v3 =>
(callW Try.prog (fn F_cycles_right) [v3] h2 fun v4 h5 =>
(oW (unA .not v4) fun v6 =>
(bW v6
(gcV h Q (.slice none 0 0) h5)
(oW (ldW true 5 h5 v1) fun v7 =>
(callW Try.prog (fn F_cycles_void) [v7] h5 fun v8 h9 =>
(letH (h9 ++ [.map []]) fun h10 =>
(sW (upS (.int .i64) h10 (.map (some h9.length)) a1 (.slice none 0 0)) fun h11 =>
(hW (bslW h11 1 [(.int .i64 0)] [(0, 1, a1)]) fun v12 h13 =>
(∃ (I14 : Nat → List Value → Heap → Prop) (k15 : Nat), gcL h (I14 k15) [a1, v1, v8, (.map (some h9.length)), v12] h13 ∧
∀ k17 : Nat, ∀ x18 : Value, ∀ x19 : Value, ∀ x20 : Value, ∀ x21 : Value, ∀ x22 : Value, ∀ h23, I14 k17 [x18, x19, x20, x21, x22] h23 →
(oW (lenS x22) fun v24 =>
(oW (binN .gtr v24 (.int .i64 0)) fun v25 =>
(bW v25
(letH (h23 ++ [.map []]) fun h26 =>
(oW (lenS x22) fun v27 =>
(∃ (I28 : Nat → List Value → Heap → Prop) (k29 : Nat), gcL h (I28 k29) [x18, x19, x20, x21, (.map (some h23.length)), x22, v27, (.int .i64 0)] h26 ∧
∀ k31 : Nat, ∀ x32 : Value, ∀ x33 : Value, ∀ x34 : Value, ∀ x35 : Value, ∀ x36 : Value, ∀ x37 : Value, ∀ x38 : Value, ∀ x39 : Value, ∀ h40, I28 k31 [x32, x33, x34, x35, x36, x37, x38, x39] h40 →
(oW (binN .lss x39 x38) fun v41 =>
(bW v41
(oW (iaS 1 x37 x39) fun v42 =>
(oW (ldW false 1 h40 v42) fun v43 =>
(oW (ldW true 5 h40 x33) fun v44 =>
(callW Try.prog (fn F_symbols_By) [v44, v43] h40 fun v45 h46 =>
(oW (lenS v45) fun v47 =>
(∃ (I48 : Nat → List Value → Heap → Prop) (k49 : Nat), gcL h (I48 k49) [x32, x33, x34, x35, x36, v43, x37, x38, x39, v45, v47, (.int .i64 0)] h46 ∧
∀ k51 : Nat, ∀ x52 : Value, ∀ x53 : Value, ∀ x54 : Value, ∀ x55 : Value, ∀ x56 : Value, ∀ x57 : Value, ∀ x58 : Value, ∀ x59 : Value, ∀ x60 : Value, ∀ x61 : Value, ∀ x62 : Value, ∀ x63 : Value, ∀ h64, I48 k51 [x52, x53, x54, x55, x56, x57, x58, x59, x60, x61, x62, x63] h64 →
(oW (binN .lss x63 x62) fun v65 =>
(bW v65
(oW (iaS 1 x61 x63) fun v66 =>
(oW (ldW false 1 h64 v66) fun v67 =>
(oW (faW 3 1 x53) fun v68 =>
(oW (ldW false 1 h64 v68) fun v69 =>
(oW (iaS 1 v69 v67) fun v70 =>
(oW (ldW false 1 h64 v70) fun v71 =>
(oW (slS 1 h64 v71 (some (.int .i64 1)) none none) fun v72 =>
(oW (lenS v72) fun v73 =>
(∃ (I74 : Nat → List Value → Heap → Prop) (k75 : Nat), gcL h (I74 k75) [x52, x53, x54, x55, x56, x57, v67, v71, x58, x59, x60, x61, x62, x63, v72, v73, (.int .i64 0)] h64 ∧
∀ k77 : Nat, ∀ x78 : Value, ∀ x79 : Value, ∀ x80 : Value, ∀ x81 : Value, ∀ x82 : Value, ∀ x83 : Value, ∀ x84 : Value, ∀ x85 : Value, ∀ x86 : Value, ∀ x87 : Value, ∀ x88 : Value, ∀ x89 : Value, ∀ x90 : Value, ∀ x91 : Value, ∀ x92 : Value, ∀ x93 : Value, ∀ x94 : Value, ∀ h95, I74 k77 [x78, x79, x80, x81, x82, x83, x84, x85, x86, x87, x88, x89, x90, x91, x92, x93, x94] h95 →
(oW (binN .lss x94 x93) fun v96 =>
(bW v96
(oW (iaS 1 x92 x94) fun v97 =>
(oW (ldW false 1 h95 v97) fun v98 =>
(oW (lkS (.int .i64) (.slice none 0 0) true h95 x81 v98) fun v99 =>
(oW (extractA v99 0) fun v100 =>
(oW (extractA v99 1) fun v101 =>
(∃ M102 : List Value → Heap → Prop,
(bW v101
(oW (binN .neq v98 x78) fun v103 =>
(bW v103
(bW (.bool true)
(oW (binN .add x94 (.int .i64 1)) fun v104 =>
(∃ m76, m76 < k77 ∧ gcL h (I74 m76) [x78, x79, x80, x81, x82, x83, x84, x85, x86, x87, x88, x89, x90, x91, x92, x93, v104] h95))
(gcL h M102 [x78, x79, x80, x81, x82, x83, x84, x85, v98, x86, x87, x88, x89, x90, x91, x92, x93, x94] h95))
(oW (binN .add x94 (.int .i64 1)) fun v105 =>
(oW (slS 1 h95 x85 (some (.int .i64 1)) (some v105) none) fun v106 =>
(callW Try.prog x80 [v106] h95 fun v107 h108 =>
(oW (unA .not v107) fun v109 =>
(bW v109
(bW (.bool true)
(oW (binN .add x94 (.int .i64 1)) fun v110 =>
(∃ m76, m76 < k77 ∧ gcL h (I74 m76) [x78, x79, x80, x81, x82, x83, x84, x85, x86, x87, x88, x89, x90, x91, x92, x93, v110] h108))
(gcL h M102 [x78, x79, x80, x81, x82, x83, x84, x85, v98, x86, x87, x88, x89, x90, x91, x92, x93, x94] h108))
(oW (binN .add x94 (.int .i64 2)) fun v111 =>
(oW (slS 1 h108 x85 (some v111) none none) fun v112 =>
(callW Try.prog x80 [v112] h108 fun v113 h114 =>
(oW (unA .not v113) fun v115 =>
(bW v115
(oW (binN .add x94 (.int .i64 1)) fun v116 =>
(∃ m76, m76 < k77 ∧ gcL h (I74 m76) [x78, x79, x80, x81, x82, x83, x84, x85, x86, x87, x88, x89, x90, x91, x92, x93, v116] h114))
(gcL h M102 [x78, x79, x80, x81, x82, x83, x84, x85, v98, x86, x87, x88, x89, x90, x91, x92, x93, x94] h114)))))))))))))
(oW (binN .add x94 (.int .i64 1)) fun v117 =>
(oW (slS 1 h95 x85 (some (.int .i64 1)) (some v117) none) fun v118 =>
(callW Try.prog x80 [v118] h95 fun v119 h120 =>
(oW (unA .not v119) fun v121 =>
(bW v121
(bW (.bool true)
(oW (binN .add x94 (.int .i64 1)) fun v122 =>
(∃ m76, m76 < k77 ∧ gcL h (I74 m76) [x78, x79, x80, x81, x82, x83, x84, x85, x86, x87, x88, x89, x90, x91, x92, x93, v122] h120))
(gcL h M102 [x78, x79, x80, x81, x82, x83, x84, x85, v98, x86, x87, x88, x89, x90, x91, x92, x93, x94] h120))
(oW (binN .add x94 (.int .i64 2)) fun v123 =>
(oW (slS 1 h120 x85 (some v123) none none) fun v124 =>
(callW Try.prog x80 [v124] h120 fun v125 h126 =>
(oW (unA .not v125) fun v127 =>
(bW v127
(oW (binN .add x94 (.int .i64 1)) fun v128 =>
(∃ m76, m76 < k77 ∧ gcL h (I74 m76) [x78, x79, x80, x81, x82, x83, x84, x85, x86, x87, x88, x89, x90, x91, x92, x93, v128] h126))
(gcL h M102 [x78, x79, x80, x81, x82, x83, x84, x85, v98, x86, x87, x88, x89, x90, x91, x92, x93, x94] h126)))))))))))) ∧
∀ x129 : Value, ∀ x130 : Value, ∀ x131 : Value, ∀ x132 : Value, ∀ x133 : Value, ∀ x134 : Value, ∀ x135 : Value, ∀ x136 : Value, ∀ x137 : Value, ∀ x138 : Value, ∀ x139 : Value, ∀ x140 : Value, ∀ x141 : Value, ∀ x142 : Value, ∀ x143 : Value, ∀ x144 : Value, ∀ x145 : Value, ∀ x146 : Value, ∀ h147, M102 [x129, x130, x131, x132, x133, x134, x135, x136, x137, x138, x139, x140, x141, x142, x143, x144, x145, x146] h147 →
(oW (lkS (.int .i64) (.slice none 0 0) false h147 x132 x134) fun v148 =>
(callW Try.prog (fn F_slices_Clone_int_int) [v148] h147 fun v149 h150 =>
(hW (bslW h150 1 [(.int .i64 0)] [(0, 1, x135)]) fun v151 h152 =>
(hW (apW 1 8 h152 v149 v151) fun v153 h154 =>
(oW (lkS (.int .i64) (.slice none 0 0) true h154 x133 x137) fun v155 =>
(oW (extractA v155 0) fun v156 =>
(oW (extractA v155 1) fun v157 =>
(oW (unA .not v157) fun v158 =>
(bW v158
(bW (.bool true)
(sW (upS (.int .i64) h154 x133 x137 v153) fun h159 =>
(oW (binN .add x146 (.int .i64 1)) fun v160 =>
(∃ m76, m76 < k77 ∧ gcL h (I74 m76) [x129, x130, x131, x132, x133, x134, x135, x136, x138, x139, x140, x141, x142, x143, x144, x145, v160] h159)))
(oW (binN .add x146 (.int .i64 1)) fun v161 =>
(∃ m76, m76 < k77 ∧ gcL h (I74 m76) [x129, x130, x131, x132, x133, x134, x135, x136, x138, x139, x140, x141, x142, x143, x144, x145, v161] h154)))
(callW Try.prog (fn F_slices_Compare_int_int) [v153, v156] h154 fun v162 h163 =>
(oW (binN .lss v162 (.int .i64 0)) fun v164 =>
(bW v164
(sW (upS (.int .i64) h163 x133 x137 v153) fun h165 =>
(oW (binN .add x146 (.int .i64 1)) fun v166 =>
(∃ m76, m76 < k77 ∧ gcL h (I74 m76) [x129, x130, x131, x132, x133, x134, x135, x136, x138, x139, x140, x141, x142, x143, x144, x145, v166] h165)))
(oW (binN .add x146 (.int .i64 1)) fun v167 =>
(∃ m76, m76 < k77 ∧ gcL h (I74 m76) [x129, x130, x131, x132, x133, x134, x135, x136, x138, x139, x140, x141, x142, x143, x144, x145, v167] h163))))))))))))))))))))
(oW (binN .add x91 (.int .i64 1)) fun v168 =>
(∃ m50, m50 < k51 ∧ gcL h (I48 m50) [x78, x79, x80, x81, x82, x83, x86, x87, x88, x89, x90, v168] h95)))))))))))))
(oW (binN .add x60 (.int .i64 1)) fun v169 =>
(∃ m30, m30 < k31 ∧ gcL h (I28 m30) [x52, x53, x54, x55, x56, x58, x59, v169] h64))))))))))
(oW (lkS (.int .i64) (.slice none 0 0) true h40 x36 x32) fun v170 =>
(oW (extractA v170 0) fun v171 =>
(oW (extractA v170 1) fun v172 =>
(bW v172
(gcV h Q v171 h40)
(callW Try.prog (fn F_maps_Copy_map_int_int_map_int_int_int_int) [x35, x36] h40 fun v173 h174 =>
(callW Try.prog (fn F_maps_Keys_map_int_int_int_int) [x36] h174 fun v175 h176 =>
(callW Try.prog (fn F_slices_Sorted_int) [v175] h176 fun v177 h178 =>
(∃ m16, m16 < k17 ∧ gcL h (I14 m16) [x32, x33, x34, x35, v177] h178)))))))))))))
(gcV h Q (.slice none 0 0) h23)))))))))))))))
theorem W_cycles_Chain_eq (a0 a1 : Value) (h : Heap) (Q : Value → Heap → Prop) : fW Try.prog ⟨[(16, [1, 2, 5, 6, 8, 10, 12, 13, 37, 38, 39, 45, 46, 47, 57, 58, 59]), (12, [1, 2, 5, 6, 8, 10, 37, 38, 39, 45, 46, 47]), (9, [1, 2, 5, 6, 8, 37, 38, 39]), (6, [1, 2, 5, 6, 7])], [(20, [1, 2, 5, 6, 8, 10, 12, 13, 15, 37, 38, 39, 45, 46, 47, 57, 58, 59])]⟩ Try.f10 [a0, a1] h Q = W_cycles_Chain a0 a1 h Q := by kernel_rfl
theorem W_cycles_Chain_ok {a0 a1 : Value} {h : Heap} {Q : Value → Heap → Prop} (e : W_cycles_Chain a0 a1 h Q) : acall Try.prog F_cycles_Chain [a0, a1] h Q :=
  by refine acall_of_fW mixed ⟨[(16, [1, 2, 5, 6, 8, 10, 12, 13, 37, 38, 39, 45, 46, 47, 57, 58, 59]), (12, [1, 2, 5, 6, 8, 10, 37, 38, 39, 45, 46, 47]), (9, [1, 2, 5, 6, 8, 37, 38, 39]), (6, [1, 2, 5, 6, 7])], [(20, [1, 2, 5, 6, 8, 10, 12, 13, 15, 37, 38, 39, 45, 46, 47, 57, 58, 59])]⟩ Try.func10 (by kernel_rfl) ?_; rw [W_cycles_Chain_eq]; exact e

/-- homograph/cycles.Alone: loops {}; joins {} -/
def W_cycles_Alone (a0 : Value) (h : Heap) (Q : Value → Heap → Prop) : Prop :=
(hW (boxA h a0) fun v1 h2 =>
(oW (ldW true 5 h2 v1) fun v3 =>
(callW Try.prog (fn F_cycles_right) [v3] h2 fun v4 h5 =>
(oW (unA .not v4) fun v6 =>
(bW v6
(gcV h Q (.slice none 0 0) h5)
(oW (ldW true 5 h5 v1) fun v7 =>
(callW Try.prog (fn F_cycles_alone) [v7] h5 fun v8 h9 =>
(callW Try.prog (fn F_cycles_table_bool_close) [v8] h9 fun v10 h11 =>
(gcV h Q v10 h11)))))))))
theorem W_cycles_Alone_eq (a0 : Value) (h : Heap) (Q : Value → Heap → Prop) : fW Try.prog ⟨[], []⟩ Try.f11 [a0] h Q = W_cycles_Alone a0 h Q := by kernel_rfl
theorem W_cycles_Alone_ok {a0 : Value} {h : Heap} {Q : Value → Heap → Prop} (e : W_cycles_Alone a0 h Q) : acall Try.prog F_cycles_Alone [a0] h Q :=
  by refine acall_of_fW mixed ⟨[], []⟩ Try.func11 (by kernel_rfl) ?_; rw [W_cycles_Alone_eq]; exact e

/-- homograph/homographref17.Bools: loops {4: [0, 1, 5]}; joins {} -/
def W_homographref17_Bools (a0 a1 : Value) (h : Heap) (Q : Value → Heap → Prop) : Prop :=
(oW (lenS a0) fun v1 =>
(oW (lenS a1) fun v2 =>
(oW (binN .neq v1 v2) fun v3 =>
(bW v3
(gcV h Q (.bool false) h)
(∃ (I4 : Nat → List Value → Heap → Prop) (k5 : Nat), gcL h (I4 k5) [a0, a1, (.int .i64 0)] h ∧
∀ k7 : Nat, ∀ x8 : Value, ∀ x9 : Value, ∀ x10 : Value, ∀ h11, I4 k7 [x8, x9, x10] h11 →
(oW (lenS x8) fun v12 =>
(oW (binN .lss x10 v12) fun v13 =>
(bW v13
(oW (iaS 1 x8 x10) fun v14 =>
(oW (ldW false 1 h11 v14) fun v15 =>
(oW (iaS 1 x9 x10) fun v16 =>
(oW (ldW false 1 h11 v16) fun v17 =>
(oW (neB v15 v17) fun v18 =>
(bW v18
(gcV h Q (.bool false) h11)
(oW (binN .add x10 (.int .i64 1)) fun v19 =>
(∃ m6, m6 < k7 ∧ gcL h (I4 m6) [x8, x9, v19] h11))))))))
(gcV h Q (.bool true) h11)))))))))
theorem W_homographref17_Bools_eq (a0 a1 : Value) (h : Heap) (Q : Value → Heap → Prop) : fW Try.prog ⟨[(4, [0, 1, 5])], []⟩ Try.f12 [a0, a1] h Q = W_homographref17_Bools a0 a1 h Q := by kernel_rfl
theorem W_homographref17_Bools_ok {a0 a1 : Value} {h : Heap} {Q : Value → Heap → Prop} (e : W_homographref17_Bools a0 a1 h Q) : acall Try.prog F_homographref17_Bools [a0, a1] h Q :=
  by refine acall_of_fW mixed ⟨[(4, [0, 1, 5])], []⟩ Try.func12 (by kernel_rfl) ?_; rw [W_homographref17_Bools_eq]; exact e

/-- homograph/homographref04.Same: loops {4: [0, 1, 5]}; joins {} -/
def W_homographref04_Same (a0 a1 : Value) (h : Heap) (Q : Value → Heap → Prop) : Prop :=
(oW (lenS a0) fun v1 =>
(oW (lenS a1) fun v2 =>
(oW (binN .neq v1 v2) fun v3 =>
(bW v3
(gcV h Q (.bool false) h)
(∃ (I4 : Nat → List Value → Heap → Prop) (k5 : Nat), gcL h (I4 k5) [a0, a1, (.int .i64 0)] h ∧
∀ k7 : Nat, ∀ x8 : Value, ∀ x9 : Value, ∀ x10 : Value, ∀ h11, I4 k7 [x8, x9, x10] h11 →
(oW (lenS x8) fun v12 =>
(oW (binN .lss x10 v12) fun v13 =>
(bW v13
(oW (iaS 1 x8 x10) fun v14 =>
(oW (ldW false 1 h11 v14) fun v15 =>
(oW (iaS 1 x9 x10) fun v16 =>
(oW (ldW false 1 h11 v16) fun v17 =>
(oW (binN .neq v15 v17) fun v18 =>
(bW v18
(gcV h Q (.bool false) h11)
(oW (binN .add x10 (.int .i64 1)) fun v19 =>
(∃ m6, m6 < k7 ∧ gcL h (I4 m6) [x8, x9, v19] h11))))))))
(gcV h Q (.bool true) h11)))))))))
theorem W_homographref04_Same_eq (a0 a1 : Value) (h : Heap) (Q : Value → Heap → Prop) : fW Try.prog ⟨[(4, [0, 1, 5])], []⟩ Try.f13 [a0, a1] h Q = W_homographref04_Same a0 a1 h Q := by kernel_rfl
theorem W_homographref04_Same_ok {a0 a1 : Value} {h : Heap} {Q : Value → Heap → Prop} (e : W_homographref04_Same a0 a1 h Q) : acall Try.prog F_homographref04_Same [a0, a1] h Q :=
  by refine acall_of_fW mixed ⟨[(4, [0, 1, 5])], []⟩ Try.func13 (by kernel_rfl) ?_; rw [W_homographref04_Same_eq]; exact e

/-- homograph/homographref16.Make: loops {25: [0, 2, 3, 4, 5, 6, 7, 8, 9, 10, 11], 17: [0, 2, 3, 4, 5, 6, 7, 8], 10: [0, 2, 3, 4, 5, 6]}; joins {7: [0, 2, 3, 4, 5]} -/
def W_homographref16_Make (a0 : Value) (h : Heap) (Q : Value → Heap → Prop) : Prop :=
(letH (h ++ [.row [(.slice none 0 0), (.int .i64 0), (.slice none 0 0), (.slice none 0 0), (.int .i64 0)] .exact]) fun h1 =>
(hW (bslW h1 2 [(.int .i64 0), (.int .i64 0)] [(0, 1, (.int .i64 0)), (1, 1, (.int .i64 1))]) fun v2 h3 =>
(hW (bslW h3 5 [(.string ⟨#[]⟩), (.string ⟨#[]⟩), (.string ⟨#[]⟩), (.string ⟨#[]⟩), (.string ⟨#[]⟩)] [(0, 1, (.string ⟨#[97]⟩)), (1, 1, (.string ⟨#[98]⟩)), (2, 1, (.string ⟨#[83]⟩)), (3, 1, (.string ⟨#[84]⟩)), (4, 1, (.string ⟨#[85]⟩))]) fun v4 h5 =>
(oW (bldW [(.slice none 0 0), (.int .i64 0), (.slice none 0 0), (.slice none 0 0), (.int .i64 0)] [(1, 1, (.int .i64 2)), (2, 1, v2), (0, 1, v4)]) fun v6 =>
(letH (h5 ++ [.row [(.slice none 0 0), (.int .i64 0), (.slice none 0 0), (.slice none 0 0), (.int .i64 0)] .exact]) fun h7 =>
(sW (stW 5 h7 (.pointer (some ⟨h5.length, 0, none⟩)) v6) fun h8 =>
(∃ M9 : List Value → Heap → Prop,
(oW (lenStr a0) fun v10 =>
(oW (binN .gtr v10 (.int .i64 0)) fun v11 =>
(bW v11
(oW (ixS a0 (.int .i64 0)) fun v12 =>
(oW (cvI .i64 v12) fun v13 =>
(oW (binN .rem v13 (.int .i64 3)) fun v14 =>
(oW (binN .add (.int .i64 1) v14) fun v15 =>
(gcL h M9 [a0, (.pointer (some ⟨h.length, 0, none⟩)), (.int .i64 1), (.pointer (some ⟨h5.length, 0, none⟩)), v15] h8)))))
(gcL h M9 [a0, (.pointer (some ⟨h.length, 0, none⟩)), (.int .i64 0), (.pointer (some ⟨h5.length, 0, none⟩)), (.int .i64 1)] h8)))) ∧
∀ x16 : Value, ∀ x17 : Value, ∀ x18 : Value, ∀ x19 : Value, ∀ x20 : Value, ∀ h21, M9 [x16, x17, x18, x19, x20] h21 →
(oW (faW 0 1 x19) fun v22 =>
(oW (ldW false 1 h21 v22) fun v23 =>
(oW (binN .add (.int .i64 2) x20) fun v24 =>
(oW (slS 1 h21 v23 none (some v24) none) fun v25 =>
(oW (faW 0 1 x19) fun v26 =>
(sW (stW 1 h21 v26 v25) fun h27 =>
(oW (faW 4 1 x19) fun v28 =>
(sW (stW 1 h27 v28 (.int .i64 2)) fun h29 =>
(∃ (I30 : Nat → List Value → Heap → Prop) (k31 : Nat), gcL h (I30 k31) [x16, x17, x18, x19, x20, (.int .i64 0)] h29 ∧
∀ k33 : Nat, ∀ x34 : Value, ∀ x35 : Value, ∀ x36 : Value, ∀ x37 : Value, ∀ x38 : Value, ∀ x39 : Value, ∀ h40, I30 k33 [x34, x35, x36, x37, x38, x39] h40 →
(oW (binN .lss x39 x38) fun v41 =>
(bW v41
(oW (lenStr x34) fun v42 =>
(oW (binN .lss x36 v42) fun v43 =>
(bW v43
(oW (ixS x34 x36) fun v44 =>
(oW (cvI .i64 v44) fun v45 =>
(oW (binN .rem v45 (.int .i64 3)) fun v46 =>
(oW (binN .add (.int .i64 1) v46) fun v47 =>
(oW (binN .add x36 (.int .i64 1)) fun v48 =>
(∃ (I49 : Nat → List Value → Heap → Prop) (k50 : Nat), gcL h (I49 k50) [x34, x35, v48, x37, x38, x39, v47, (.int .i64 0)] h40 ∧
∀ k52 : Nat, ∀ x53 : Value, ∀ x54 : Value, ∀ x55 : Value, ∀ x56 : Value, ∀ x57 : Value, ∀ x58 : Value, ∀ x59 : Value, ∀ x60 : Value, ∀ h61, I49 k52 [x53, x54, x55, x56, x57, x58, x59, x60] h61 →
(oW (binN .lss x60 x59) fun v62 =>
(bW v62
(oW (binN .add (.int .i64 2) x58) fun v63 =>
(hW (bslW h61 1 [(.int .i64 0)] [(0, 1, v63)]) fun v64 h65 =>
(oW (lenStr x53) fun v66 =>
(oW (binN .lss x55 v66) fun v67 =>
(bW v67
(oW (ixS x53 x55) fun v68 =>
(oW (cvI .i64 v68) fun v69 =>
(oW (binN .rem v69 (.int .i64 4)) fun v70 =>
(oW (binN .add x55 (.int .i64 1)) fun v71 =>
(∃ (I72 : Nat → List Value → Heap → Prop) (k73 : Nat), gcL h (I72 k73) [x53, x54, v71, x56, x57, x58, x59, x60, v64, v70, (.int .i64 0)] h65 ∧
∀ k75 : Nat, ∀ x76 : Value, ∀ x77 : Value, ∀ x78 : Value, ∀ x79 : Value, ∀ x80 : Value, ∀ x81 : Value, ∀ x82 : Value, ∀ x83 : Value, ∀ x84 : Value, ∀ x85 : Value, ∀ x86 : Value, ∀ h87, I72 k75 [x76, x77, x78, x79, x80, x81, x82, x83, x84, x85, x86] h87 →
(oW (binN .lss x86 x85) fun v88 =>
(bW v88
(oW (lenStr x76) fun v89 =>
(oW (binN .lss x78 v89) fun v90 =>
(bW v90
(oW (ixS x76 x78) fun v91 =>
(oW (cvI .i64 v91) fun v92 =>
(oW (binN .add (.int .i64 2) x80) fun v93 =>
(oW (binN .rem v92 v93) fun v94 =>
(oW (binN .add x78 (.int .i64 1)) fun v95 =>
(hW (bslW h87 1 [(.int .i64 0)] [(0, 1, v94)]) fun v96 h97 =>
(hW (apW 1 8 h97 x84 v96) fun v98 h99 =>
(oW (binN .add x86 (.int .i64 1)) fun v100 =>
(∃ m74, m74 < k75 ∧ gcL h (I72 m74) [x76, x77, v95, x79, x80, x81, x82, x83, v98, x85, v100] h99)))))))))
(hW (bslW h87 1 [(.int .i64 0)] [(0, 1, (.int .i64 0))]) fun v101 h102 =>
(hW (apW 1 8 h102 x84 v101) fun v103 h104 =>
(oW (binN .add x86 (.int .i64 1)) fun v105 =>
(∃ m74, m74 < k75 ∧ gcL h (I72 m74) [x76, x77, x78, x79, x80, x81, x82, x83, v103, x85, v105] h104)))))))
(oW (faW 3 1 x79) fun v106 =>
(oW (ldW false 1 h87 v106) fun v107 =>
(hW (bslW h87 1 [(.slice none 0 0)] [(0, 1, x84)]) fun v108 h109 =>
(hW (apW 1 24 h109 v107 v108) fun v110 h111 =>
(oW (faW 3 1 x79) fun v112 =>
(sW (stW 1 h111 v112 v110) fun h113 =>
(oW (binN .add x83 (.int .i64 1)) fun v114 =>
(∃ m51, m51 < k52 ∧ gcL h (I49 m51) [x76, x77, x78, x79, x80, x81, x82, v114] h113)))))))))))))))
(∃ (I115 : Nat → List Value → Heap → Prop) (k116 : Nat), gcL h (I115 k116) [x53, x54, x55, x56, x57, x58, x59, x60, v64, (.int .i64 1), (.int .i64 0)] h65 ∧
∀ k118 : Nat, ∀ x119 : Value, ∀ x120 : Value, ∀ x121 : Value, ∀ x122 : Value, ∀ x123 : Value, ∀ x124 : Value, ∀ x125 : Value, ∀ x126 : Value, ∀ x127 : Value, ∀ x128 : Value, ∀ x129 : Value, ∀ h130, I115 k118 [x119, x120, x121, x122, x123, x124, x125, x126, x127, x128, x129] h130 →
(oW (binN .lss x129 x128) fun v131 =>
(bW v131
(oW (lenStr x119) fun v132 =>
(oW (binN .lss x121 v132) fun v133 =>
(bW v133
(oW (ixS x119 x121) fun v134 =>
(oW (cvI .i64 v134) fun v135 =>
(oW (binN .add (.int .i64 2) x123) fun v136 =>
(oW (binN .rem v135 v136) fun v137 =>
(oW (binN .add x121 (.int .i64 1)) fun v138 =>
(hW (bslW h130 1 [(.int .i64 0)] [(0, 1, v137)]) fun v139 h140 =>
(hW (apW 1 8 h140 x127 v139) fun v141 h142 =>
(oW (binN .add x129 (.int .i64 1)) fun v143 =>
(∃ m117, m117 < k118 ∧ gcL h (I115 m117) [x119, x120, v138, x122, x123, x124, x125, x126, v141, x128, v143] h142)))))))))
(hW (bslW h130 1 [(.int .i64 0)] [(0, 1, (.int .i64 0))]) fun v144 h145 =>
(hW (apW 1 8 h145 x127 v144) fun v146 h147 =>
(oW (binN .add x129 (.int .i64 1)) fun v148 =>
(∃ m117, m117 < k118 ∧ gcL h (I115 m117) [x119, x120, x121, x122, x123, x124, x125, x126, v146, x128, v148] h147)))))))
(oW (faW 3 1 x122) fun v149 =>
(oW (ldW false 1 h130 v149) fun v150 =>
(hW (bslW h130 1 [(.slice none 0 0)] [(0, 1, x127)]) fun v151 h152 =>
(hW (apW 1 24 h152 v150 v151) fun v153 h154 =>
(oW (faW 3 1 x122) fun v155 =>
(sW (stW 1 h154 v155 v153) fun h156 =>
(oW (binN .add x126 (.int .i64 1)) fun v157 =>
(∃ m51, m51 < k52 ∧ gcL h (I49 m51) [x119, x120, x121, x122, x123, x124, x125, v157] h156))))))))))))))))
(oW (binN .add x58 (.int .i64 1)) fun v158 =>
(∃ m32, m32 < k33 ∧ gcL h (I30 m32) [x53, x54, x55, x56, x57, v158] h61))))))))))
(∃ (I159 : Nat → List Value → Heap → Prop) (k160 : Nat), gcL h (I159 k160) [x34, x35, x36, x37, x38, x39, (.int .i64 1), (.int .i64 0)] h40 ∧
∀ k162 : Nat, ∀ x163 : Value, ∀ x164 : Value, ∀ x165 : Value, ∀ x166 : Value, ∀ x167 : Value, ∀ x168 : Value, ∀ x169 : Value, ∀ x170 : Value, ∀ h171, I159 k162 [x163, x164, x165, x166, x167, x168, x169, x170] h171 →
(oW (binN .lss x170 x169) fun v172 =>
(bW v172
(oW (binN .add (.int .i64 2) x168) fun v173 =>
(hW (bslW h171 1 [(.int .i64 0)] [(0, 1, v173)]) fun v174 h175 =>
(oW (lenStr x163) fun v176 =>
(oW (binN .lss x165 v176) fun v177 =>
(bW v177
(oW (ixS x163 x165) fun v178 =>
(oW (cvI .i64 v178) fun v179 =>
(oW (binN .rem v179 (.int .i64 4)) fun v180 =>
(oW (binN .add x165 (.int .i64 1)) fun v181 =>
(∃ (I182 : Nat → List Value → Heap → Prop) (k183 : Nat), gcL h (I182 k183) [x163, x164, v181, x166, x167, x168, x169, x170, v174, v180, (.int .i64 0)] h175 ∧
∀ k185 : Nat, ∀ x186 : Value, ∀ x187 : Value, ∀ x188 : Value, ∀ x189 : Value, ∀ x190 : Value, ∀ x191 : Value, ∀ x192 : Value, ∀ x193 : Value, ∀ x194 : Value, ∀ x195 : Value, ∀ x196 : Value, ∀ h197, I182 k185 [x186, x187, x188, x189, x190, x191, x192, x193, x194, x195, x196] h197 →
(oW (binN .lss x196 x195) fun v198 =>
(bW v198
(oW (lenStr x186) fun v199 =>
(oW (binN .lss x188 v199) fun v200 =>
(bW v200
(oW (ixS x186 x188) fun v201 =>
(oW (cvI .i64 v201) fun v202 =>
(oW (binN .add (.int .i64 2) x190) fun v203 =>
(oW (binN .rem v202 v203) fun v204 =>
(oW (binN .add x188 (.int .i64 1)) fun v205 =>
(hW (bslW h197 1 [(.int .i64 0)] [(0, 1, v204)]) fun v206 h207 =>
(hW (apW 1 8 h207 x194 v206) fun v208 h209 =>
(oW (binN .add x196 (.int .i64 1)) fun v210 =>
(∃ m184, m184 < k185 ∧ gcL h (I182 m184) [x186, x187, v205, x189, x190, x191, x192, x193, v208, x195, v210] h209)))))))))
(hW (bslW h197 1 [(.int .i64 0)] [(0, 1, (.int .i64 0))]) fun v211 h212 =>
(hW (apW 1 8 h212 x194 v211) fun v213 h214 =>
(oW (binN .add x196 (.int .i64 1)) fun v215 =>
(∃ m184, m184 < k185 ∧ gcL h (I182 m184) [x186, x187, x188, x189, x190, x191, x192, x193, v213, x195, v215] h214)))))))
(oW (faW 3 1 x189) fun v216 =>
(oW (ldW false 1 h197 v216) fun v217 =>
(hW (bslW h197 1 [(.slice none 0 0)] [(0, 1, x194)]) fun v218 h219 =>
(hW (apW 1 24 h219 v217 v218) fun v220 h221 =>
(oW (faW 3 1 x189) fun v222 =>
(sW (stW 1 h221 v222 v220) fun h223 =>
(oW (binN .add x193 (.int .i64 1)) fun v224 =>
(∃ m161, m161 < k162 ∧ gcL h (I159 m161) [x186, x187, x188, x189, x190, x191, x192, v224] h223)))))))))))))))
(∃ (I225 : Nat → List Value → Heap → Prop) (k226 : Nat), gcL h (I225 k226) [x163, x164, x165, x166, x167, x168, x169, x170, v174, (.int .i64 1), (.int .i64 0)] h175 ∧
∀ k228 : Nat, ∀ x229 : Value, ∀ x230 : Value, ∀ x231 : Value, ∀ x232 : Value, ∀ x233 : Value, ∀ x234 : Value, ∀ x235 : Value, ∀ x236 : Value, ∀ x237 : Value, ∀ x238 : Value, ∀ x239 : Value, ∀ h240, I225 k228 [x229, x230, x231, x232, x233, x234, x235, x236, x237, x238, x239] h240 →
(oW (binN .lss x239 x238) fun v241 =>
(bW v241
(oW (lenStr x229) fun v242 =>
(oW (binN .lss x231 v242) fun v243 =>
(bW v243
(oW (ixS x229 x231) fun v244 =>
(oW (cvI .i64 v244) fun v245 =>
(oW (binN .add (.int .i64 2) x233) fun v246 =>
(oW (binN .rem v245 v246) fun v247 =>
(oW (binN .add x231 (.int .i64 1)) fun v248 =>
(hW (bslW h240 1 [(.int .i64 0)] [(0, 1, v247)]) fun v249 h250 =>
(hW (apW 1 8 h250 x237 v249) fun v251 h252 =>
(oW (binN .add x239 (.int .i64 1)) fun v253 =>
(∃ m227, m227 < k228 ∧ gcL h (I225 m227) [x229, x230, v248, x232, x233, x234, x235, x236, v251, x238, v253] h252)))))))))
(hW (bslW h240 1 [(.int .i64 0)] [(0, 1, (.int .i64 0))]) fun v254 h255 =>
(hW (apW 1 8 h255 x237 v254) fun v256 h257 =>
(oW (binN .add x239 (.int .i64 1)) fun v258 =>
(∃ m227, m227 < k228 ∧ gcL h (I225 m227) [x229, x230, x231, x232, x233, x234, x235, x236, v256, x238, v258] h257)))))))
(oW (faW 3 1 x232) fun v259 =>
(oW (ldW false 1 h240 v259) fun v260 =>
(hW (bslW h240 1 [(.slice none 0 0)] [(0, 1, x237)]) fun v261 h262 =>
(hW (apW 1 24 h262 v260 v261) fun v263 h264 =>
(oW (faW 3 1 x232) fun v265 =>
(sW (stW 1 h264 v265 v263) fun h266 =>
(oW (binN .add x236 (.int .i64 1)) fun v267 =>
(∃ m161, m161 < k162 ∧ gcL h (I159 m161) [x229, x230, x231, x232, x233, x234, x235, v267] h266))))))))))))))))
(oW (binN .add x168 (.int .i64 1)) fun v268 =>
(∃ m32, m32 < k33 ∧ gcL h (I30 m32) [x163, x164, x165, x166, x167, v268] h171))))))))
(oW (ldW true 5 h40 x37) fun v269 =>
(sW (stW 5 h40 x35 v269) fun h270 =>
(oW (ldP true 5 h270 x35) fun v271 =>
(gcV h Q v271 h270))))))))))))))))))))))
theorem W_homographref16_Make_eq (a0 : Value) (h : Heap) (Q : Value → Heap → Prop) : fW Try.prog ⟨[(25, [0, 2, 3, 4, 5, 6, 7, 8, 9, 10, 11]), (17, [0, 2, 3, 4, 5, 6, 7, 8]), (10, [0, 2, 3, 4, 5, 6])], [(7, [0, 2, 3, 4, 5])]⟩ Try.f14 [a0] h Q = W_homographref16_Make a0 h Q := by kernel_rfl
theorem W_homographref16_Make_ok {a0 : Value} {h : Heap} {Q : Value → Heap → Prop} (e : W_homographref16_Make a0 h Q) : acall Try.prog F_homographref16_Make [a0] h Q :=
  by refine acall_of_fW mixed ⟨[(25, [0, 2, 3, 4, 5, 6, 7, 8, 9, 10, 11]), (17, [0, 2, 3, 4, 5, 6, 7, 8]), (10, [0, 2, 3, 4, 5, 6])], [(7, [0, 2, 3, 4, 5])]⟩ Try.func14 (by kernel_rfl) ?_; rw [W_homographref16_Make_eq]; exact e

/-- (homograph/cycles.table[bool]).own: loops {3: [0, 3, 6, 7]}; joins {} -/
def W_cycles_table_bool_own (a0 : Value) (h : Heap) (Q : Value → Heap → Prop) : Prop :=
(oW (lenS a0) fun v1 =>
(∃ (I2 : Nat → List Value → Heap → Prop) (k3 : Nat), gcL h (I2 k3) [a0, (.slice none 0 0), v1, (.int .i64 0)] h ∧
∀ k5 : Nat, ∀ x6 : Value, ∀ x7 : Value, ∀ x8 : Value, ∀ x9 : Value, ∀ h10, I2 k5 [x6, x7, x8, x9] h10 →
(oW (binN .lss x9 x8) fun v11 =>
(bW v11
(oW (iaS 1 x6 x9) fun v12 =>
(oW (ldW false 1 h10 v12) fun v13 =>
(oW (iaS 1 v13 x9) fun v14 =>
(oW (ldW false 1 h10 v14) fun v15 =>
(hW (bslW h10 1 [(.bool false)] [(0, 1, v15)]) fun v16 h17 =>
(hW (apW 1 1 h17 x7 v16) fun v18 h19 =>
(oW (binN .add x9 (.int .i64 1)) fun v20 =>
(∃ m4, m4 < k5 ∧ gcL h (I2 m4) [x6, v18, x8, v20] h19))))))))
(gcV h Q x7 h10)))))
theorem W_cycles_table_bool_own_eq (a0 : Value) (h : Heap) (Q : Value → Heap → Prop) : fW Try.prog ⟨[(3, [0, 3, 6, 7])], []⟩ Try.f15 [a0] h Q = W_cycles_table_bool_own a0 h Q := by kernel_rfl
theorem W_cycles_table_bool_own_ok {a0 : Value} {h : Heap} {Q : Value → Heap → Prop} (e : W_cycles_table_bool_own a0 h Q) : acall Try.prog F_cycles_table_bool_own [a0] h Q :=
  by refine acall_of_fW mixed ⟨[(3, [0, 3, 6, 7])], []⟩ Try.func15 (by kernel_rfl) ?_; rw [W_cycles_table_bool_own_eq]; exact e

/-- homograph/cycles.right: loops {}; joins {} -/
def W_cycles_right (a0 : Value) (h : Heap) (Q : Value → Heap → Prop) : Prop :=
(hW (boxA h a0) fun v1 h2 =>
(oW (ldW true 5 h2 v1) fun v3 =>
(callW Try.prog (fn F_symbols_Check) [v3] h2 fun v4 h5 =>
(oW (binN .eql v4 (.int .i64 0)) fun v6 =>
(gcV h Q v6 h5)))))
theorem W_cycles_right_eq (a0 : Value) (h : Heap) (Q : Value → Heap → Prop) : fW Try.prog ⟨[], []⟩ Try.f16 [a0] h Q = W_cycles_right a0 h Q := by kernel_rfl
theorem W_cycles_right_ok {a0 : Value} {h : Heap} {Q : Value → Heap → Prop} (e : W_cycles_right a0 h Q) : acall Try.prog F_cycles_right [a0] h Q :=
  by refine acall_of_fW mixed ⟨[], []⟩ Try.func16 (by kernel_rfl) ?_; rw [W_cycles_right_eq]; exact e

/-- homograph/cycles.first: loops {}; joins {} -/
def W_cycles_first (a0 a1 : Value) (h : Heap) (Q : Value → Heap → Prop) : Prop :=
(hW (boxA h a0) fun v1 h2 =>
(hW (boxA h2 a1) fun v3 h4 =>
(oW (ldW true 5 h4 v1) fun v5 =>
(callW Try.prog (fn F_cycles_void) [v5] h4 fun v6 h7 =>
(letH (h7 ++ [.row [.nilFunc] .exact]) fun h8 =>
(sW (stW 1 h8 (.pointer (some ⟨h7.length, 0, none⟩)) v6) fun h9 =>
(oW (ldW true 5 h9 v1) fun v10 =>
(callW Try.prog (fn F_cycles_steps) [v10, (.func (.func F_cycles_first_D1) #[] #[v3, (.pointer (some ⟨h7.length, 0, none⟩))])] h9 fun v11 h12 =>
(gcV h Q v11 h12)))))))))
theorem W_cycles_first_eq (a0 a1 : Value) (h : Heap) (Q : Value → Heap → Prop) : fW Try.prog ⟨[], []⟩ Try.f17 [a0, a1] h Q = W_cycles_first a0 a1 h Q := by kernel_rfl
theorem W_cycles_first_ok {a0 a1 : Value} {h : Heap} {Q : Value → Heap → Prop} (e : W_cycles_first a0 a1 h Q) : acall Try.prog F_cycles_first [a0, a1] h Q :=
  by refine acall_of_fW mixed ⟨[], []⟩ Try.func17 (by kernel_rfl) ?_; rw [W_cycles_first_eq]; exact e

/-- (homograph/cycles.table[bool]).close: loops {11: [0, 3, 4, 5, 6, 10, 11, 17, 18, 19, 28, 29], 8: [0, 3, 4, 10, 11, 17, 18, 19], 5: [0, 3, 10, 11], 2: [0, 3]}; joins {} -/
def W_cycles_table_bool_close (a0 : Value) (h : Heap) (Q : Value → Heap → Prop) : Prop :=
(∃ (I1 : Nat → List Value → Heap → Prop) (k2 : Nat), gcL h (I1 k2) [a0, (.bool true)] h ∧
∀ k4 : Nat, ∀ x5 : Value, ∀ x6 : Value, ∀ h7, I1 k4 [x5, x6] h7 →
(bW x6
(oW (lenS x5) fun v8 =>
(∃ (I9 : Nat → List Value → Heap → Prop) (k10 : Nat), gcL h (I9 k10) [x5, (.bool false), v8, (.int .i64 0)] h7 ∧
∀ k12 : Nat, ∀ x13 : Value, ∀ x14 : Value, ∀ x15 : Value, ∀ x16 : Value, ∀ h17, I9 k12 [x13, x14, x15, x16] h17 →
(oW (binN .lss x16 x15) fun v18 =>
(bW v18
(oW (iaS 1 x13 x16) fun v19 =>
(oW (ldW false 1 h17 v19) fun v20 =>
(oW (lenS v20) fun v21 =>
(∃ (I22 : Nat → List Value → Heap → Prop) (k23 : Nat), gcL h (I22 k23) [x13, x14, x16, x15, x16, v20, v21, (.int .i64 0)] h17 ∧
∀ k25 : Nat, ∀ x26 : Value, ∀ x27 : Value, ∀ x28 : Value, ∀ x29 : Value, ∀ x30 : Value, ∀ x31 : Value, ∀ x32 : Value, ∀ x33 : Value, ∀ h34, I22 k25 [x26, x27, x28, x29, x30, x31, x32, x33] h34 →
(oW (binN .lss x33 x32) fun v35 =>
(bW v35
(oW (iaS 1 x31 x33) fun v36 =>
(oW (ldW false 1 h34 v36) fun v37 =>
(oW (iaS 1 x26 x33) fun v38 =>
(oW (ldW false 1 h34 v38) fun v39 =>
(oW (lenS v39) fun v40 =>
(∃ (I41 : Nat → List Value → Heap → Prop) (k42 : Nat), gcL h (I41 k42) [x26, x27, x28, x33, v37, x29, x30, x31, x32, x33, v40, (.int .i64 0)] h34 ∧
∀ k44 : Nat, ∀ x45 : Value, ∀ x46 : Value, ∀ x47 : Value, ∀ x48 : Value, ∀ x49 : Value, ∀ x50 : Value, ∀ x51 : Value, ∀ x52 : Value, ∀ x53 : Value, ∀ x54 : Value, ∀ x55 : Value, ∀ x56 : Value, ∀ h57, I41 k44 [x45, x46, x47, x48, x49, x50, x51, x52, x53, x54, x55, x56] h57 →
(oW (binN .lss x56 x55) fun v58 =>
(bW v58
(bW x49
(oW (iaS 1 x45 x48) fun v59 =>
(oW (ldW false 1 h57 v59) fun v60 =>
(oW (iaS 1 v60 x56) fun v61 =>
(oW (ldW false 1 h57 v61) fun v62 =>
(bW v62
(oW (iaS 1 x45 x47) fun v63 =>
(oW (ldW false 1 h57 v63) fun v64 =>
(oW (iaS 1 v64 x56) fun v65 =>
(oW (ldW false 1 h57 v65) fun v66 =>
(oW (unA .not v66) fun v67 =>
(bW v67
(oW (iaS 1 x45 x47) fun v68 =>
(oW (ldW false 1 h57 v68) fun v69 =>
(oW (iaS 1 v69 x56) fun v70 =>
(sW (stW 1 h57 v70 (.bool true)) fun h71 =>
(oW (binN .add x56 (.int .i64 1)) fun v72 =>
(∃ m43, m43 < k44 ∧ gcL h (I41 m43) [x45, (.bool true), x47, x48, x49, x50, x51, x52, x53, x54, x55, v72] h71))))))
(oW (binN .add x56 (.int .i64 1)) fun v73 =>
(∃ m43, m43 < k44 ∧ gcL h (I41 m43) [x45, x46, x47, x48, x49, x50, x51, x52, x53, x54, x55, v73] h57))))))))
(bW (.bool false)
(oW (iaS 1 x45 x47) fun v74 =>
(oW (ldW false 1 h57 v74) fun v75 =>
(oW (iaS 1 v75 x56) fun v76 =>
(sW (stW 1 h57 v76 (.bool true)) fun h77 =>
(oW (binN .add x56 (.int .i64 1)) fun v78 =>
(∃ m43, m43 < k44 ∧ gcL h (I41 m43) [x45, (.bool true), x47, x48, x49, x50, x51, x52, x53, x54, x55, v78] h77))))))
(oW (binN .add x56 (.int .i64 1)) fun v79 =>
(∃ m43, m43 < k44 ∧ gcL h (I41 m43) [x45, x46, x47, x48, x49, x50, x51, x52, x53, x54, x55, v79] h57))))))))
(bW (.bool false)
(oW (iaS 1 x45 x47) fun v80 =>
(oW (ldW false 1 h57 v80) fun v81 =>
(oW (iaS 1 v81 x56) fun v82 =>
(sW (stW 1 h57 v82 (.bool true)) fun h83 =>
(oW (binN .add x56 (.int .i64 1)) fun v84 =>
(∃ m43, m43 < k44 ∧ gcL h (I41 m43) [x45, (.bool true), x47, x48, x49, x50, x51, x52, x53, x54, x55, v84] h83))))))
(oW (binN .add x56 (.int .i64 1)) fun v85 =>
(∃ m43, m43 < k44 ∧ gcL h (I41 m43) [x45, x46, x47, x48, x49, x50, x51, x52, x53, x54, x55, v85] h57))))
(oW (binN .add x54 (.int .i64 1)) fun v86 =>
(∃ m24, m24 < k25 ∧ gcL h (I22 m24) [x45, x46, x47, x50, x51, x52, x53, v86] h57))))))))))
(oW (binN .add x30 (.int .i64 1)) fun v87 =>
(∃ m11, m11 < k12 ∧ gcL h (I9 m11) [x26, x27, x29, v87] h34))))))))
(∃ m3, m3 < k4 ∧ gcL h (I1 m3) [x13, x14] h17)))))
(gcV h Q x5 h7)))
theorem W_cycles_table_bool_close_eq (a0 : Value) (h : Heap) (Q : Value → Heap → Prop) : fW Try.prog ⟨[(11, [0, 3, 4, 5, 6, 10, 11, 17, 18, 19, 28, 29]), (8, [0, 3, 4, 10, 11, 17, 18, 19]), (5, [0, 3, 10, 11]), (2, [0, 3])], []⟩ Try.f18 [a0] h Q = W_cycles_table_bool_close a0 h Q := by kernel_rfl
theorem W_cycles_table_bool_close_ok {a0 : Value} {h : Heap} {Q : Value → Heap → Prop} (e : W_cycles_table_bool_close a0 h Q) : acall Try.prog F_cycles_table_bool_close [a0] h Q :=
  by refine acall_of_fW mixed ⟨[(11, [0, 3, 4, 5, 6, 10, 11, 17, 18, 19, 28, 29]), (8, [0, 3, 4, 10, 11, 17, 18, 19]), (5, [0, 3, 10, 11]), (2, [0, 3])], []⟩ Try.func18 (by kernel_rfl) ?_; rw [W_cycles_table_bool_close_eq]; exact e

/-- homograph/cycles.blank[bool]: loops {3: [0, 3, 8, 9]}; joins {} -/
def W_cycles_blank_bool (a0 : Value) (h : Heap) (Q : Value → Heap → Prop) : Prop :=
(hW (mksW [(.slice none 0 0)] 24 h a0 a0) fun v1 h2 =>
(oW (lenS v1) fun v3 =>
(∃ (I4 : Nat → List Value → Heap → Prop) (k5 : Nat), gcL h (I4 k5) [a0, v1, v3, (.int .i64 0)] h2 ∧
∀ k7 : Nat, ∀ x8 : Value, ∀ x9 : Value, ∀ x10 : Value, ∀ x11 : Value, ∀ h12, I4 k7 [x8, x9, x10, x11] h12 →
(oW (binN .lss x11 x10) fun v13 =>
(bW v13
(hW (mksW [(.bool false)] 1 h12 x8 x8) fun v14 h15 =>
(oW (iaS 1 x9 x11) fun v16 =>
(sW (stW 1 h15 v16 v14) fun h17 =>
(oW (binN .add x11 (.int .i64 1)) fun v18 =>
(∃ m6, m6 < k7 ∧ gcL h (I4 m6) [x8, x9, x10, v18] h17)))))
(gcV h Q x9 h12))))))
theorem W_cycles_blank_bool_eq (a0 : Value) (h : Heap) (Q : Value → Heap → Prop) : fW Try.prog ⟨[(3, [0, 3, 8, 9])], []⟩ Try.f19 [a0] h Q = W_cycles_blank_bool a0 h Q := by kernel_rfl
theorem W_cycles_blank_bool_ok {a0 : Value} {h : Heap} {Q : Value → Heap → Prop} (e : W_cycles_blank_bool a0 h Q) : acall Try.prog F_cycles_blank_bool [a0] h Q :=
  by refine acall_of_fW mixed ⟨[(3, [0, 3, 8, 9])], []⟩ Try.func19 (by kernel_rfl) ?_; rw [W_cycles_blank_bool_eq]; exact e

/-- homograph/cycles.void: loops {}; joins {} -/
def W_cycles_void (a0 : Value) (h : Heap) (Q : Value → Heap → Prop) : Prop :=
(hW (boxA h a0) fun v1 h2 =>
(oW (ldW true 5 h2 v1) fun v3 =>
(callW Try.prog (fn F_sets_Nullable) [v3] h2 fun v4 h5 =>
(letH (h5 ++ [.row [(.slice none 0 0)] .exact]) fun h6 =>
(sW (stW 1 h6 (.pointer (some ⟨h5.length, 0, none⟩)) v4) fun h7 =>
(gcV h Q (.func (.func F_cycles_void_D1) #[] #[(.pointer (some ⟨h5.length, 0, none⟩))]) h7))))))
theorem W_cycles_void_eq (a0 : Value) (h : Heap) (Q : Value → Heap → Prop) : fW Try.prog ⟨[], []⟩ Try.f20 [a0] h Q = W_cycles_void a0 h Q := by kernel_rfl
theorem W_cycles_void_ok {a0 : Value} {h : Heap} {Q : Value → Heap → Prop} (e : W_cycles_void a0 h Q) : acall Try.prog F_cycles_void [a0] h Q :=
  by refine acall_of_fW mixed ⟨[], []⟩ Try.func20 (by kernel_rfl) ?_; rw [W_cycles_void_eq]; exact e

/-- homograph/symbols.By: loops {3: [1, 5, 9, 10, 11]}; joins {} -/
def W_symbols_By (a0 a1 : Value) (h : Heap) (Q : Value → Heap → Prop) : Prop :=
(hW (boxA h a0) fun v1 h2 =>
(oW (faW 3 1 v1) fun v3 =>
(oW (ldW false 1 h2 v3) fun v4 =>
(oW (lenS v4) fun v5 =>
(∃ (I6 : Nat → List Value → Heap → Prop) (k7 : Nat), gcL h (I6 k7) [a1, (.slice none 0 0), v4, v5, (.int .i64 0)] h2 ∧
∀ k9 : Nat, ∀ x10 : Value, ∀ x11 : Value, ∀ x12 : Value, ∀ x13 : Value, ∀ x14 : Value, ∀ h15, I6 k9 [x10, x11, x12, x13, x14] h15 →
(oW (binN .lss x14 x13) fun v16 =>
(bW v16
(oW (iaS 1 x12 x14) fun v17 =>
(oW (ldW false 1 h15 v17) fun v18 =>
(oW (lenS v18) fun v19 =>
(oW (binN .gtr v19 (.int .i64 0)) fun v20 =>
(bW v20
(oW (iaS 1 v18 (.int .i64 0)) fun v21 =>
(oW (ldW false 1 h15 v21) fun v22 =>
(oW (binN .eql v22 x10) fun v23 =>
(bW v23
(hW (bslW h15 1 [(.int .i64 0)] [(0, 1, x14)]) fun v24 h25 =>
(hW (apW 1 8 h25 x11 v24) fun v26 h27 =>
(oW (binN .add x14 (.int .i64 1)) fun v28 =>
(∃ m8, m8 < k9 ∧ gcL h (I6 m8) [x10, v26, x12, x13, v28] h27))))
(oW (binN .add x14 (.int .i64 1)) fun v29 =>
(∃ m8, m8 < k9 ∧ gcL h (I6 m8) [x10, x11, x12, x13, v29] h15))))))
(bW (.bool false)
(hW (bslW h15 1 [(.int .i64 0)] [(0, 1, x14)]) fun v30 h31 =>
(hW (apW 1 8 h31 x11 v30) fun v32 h33 =>
(oW (binN .add x14 (.int .i64 1)) fun v34 =>
(∃ m8, m8 < k9 ∧ gcL h (I6 m8) [x10, v32, x12, x13, v34] h33))))
(oW (binN .add x14 (.int .i64 1)) fun v35 =>
(∃ m8, m8 < k9 ∧ gcL h (I6 m8) [x10, x11, x12, x13, v35] h15))))))))
(gcV h Q x11 h15))))))))
theorem W_symbols_By_eq (a0 a1 : Value) (h : Heap) (Q : Value → Heap → Prop) : fW Try.prog ⟨[(3, [1, 5, 9, 10, 11])], []⟩ Try.f21 [a0, a1] h Q = W_symbols_By a0 a1 h Q := by kernel_rfl
theorem W_symbols_By_ok {a0 a1 : Value} {h : Heap} {Q : Value → Heap → Prop} (e : W_symbols_By a0 a1 h Q) : acall Try.prog F_symbols_By [a0, a1] h Q :=
  by refine acall_of_fW mixed ⟨[(3, [1, 5, 9, 10, 11])], []⟩ Try.func21 (by kernel_rfl) ?_; rw [W_symbols_By_eq]; exact e

/-- slices.Clone[[]int,int]: loops {}; joins {} -/
def W_slices_Clone_int_int (a0 : Value) (h : Heap) (Q : Value → Heap → Prop) : Prop :=
(oW (eqW (nilS_ a0 (.slice none 0 0))) fun v1 =>
(bW v1
(gcV h Q (.slice none 0 0) h)
(hW (bslW h 0 [] []) fun v2 h3 =>
(hW (apW 1 8 h3 v2 a0) fun v4 h5 =>
(gcV h Q v4 h5)))))
theorem W_slices_Clone_int_int_eq (a0 : Value) (h : Heap) (Q : Value → Heap → Prop) : fW Try.prog ⟨[], []⟩ Try.f22 [a0] h Q = W_slices_Clone_int_int a0 h Q := by kernel_rfl
theorem W_slices_Clone_int_int_ok {a0 : Value} {h : Heap} {Q : Value → Heap → Prop} (e : W_slices_Clone_int_int a0 h Q) : acall Try.prog F_slices_Clone_int_int [a0] h Q :=
  by refine acall_of_fW mixed ⟨[], []⟩ Try.func22 (by kernel_rfl) ?_; rw [W_slices_Clone_int_int_eq]; exact e

/-- slices.Compare[[]int,int]: loops {2: [0, 1, 9, 10, 11]}; joins {} -/
def W_slices_Compare_int_int (a0 a1 : Value) (h : Heap) (Q : Value → Heap → Prop) : Prop :=
(oW (lenS a0) fun v1 =>
(∃ (I2 : Nat → List Value → Heap → Prop) (k3 : Nat), gcL h (I2 k3) [a0, a1, a0, v1, (.int .i64 0)] h ∧
∀ k5 : Nat, ∀ x6 : Value, ∀ x7 : Value, ∀ x8 : Value, ∀ x9 : Value, ∀ x10 : Value, ∀ h11, I2 k5 [x6, x7, x8, x9, x10] h11 →
(oW (binN .lss x10 x9) fun v12 =>
(bW v12
(oW (iaS 1 x8 x10) fun v13 =>
(oW (ldW false 1 h11 v13) fun v14 =>
(oW (lenS x7) fun v15 =>
(oW (binN .geq x10 v15) fun v16 =>
(bW v16
(gcV h Q (.int .i64 1) h11)
(oW (iaS 1 x7 x10) fun v17 =>
(oW (ldW false 1 h11 v17) fun v18 =>
(callW Try.prog (fn F_cmp_Compare_int) [v14, v18] h11 fun v19 h20 =>
(oW (binN .neq v19 (.int .i64 0)) fun v21 =>
(bW v21
(gcV h Q v19 h20)
(oW (binN .add x10 (.int .i64 1)) fun v22 =>
(∃ m4, m4 < k5 ∧ gcL h (I2 m4) [x6, x7, x8, x9, v22] h20))))))))))))
(oW (lenS x6) fun v23 =>
(oW (lenS x7) fun v24 =>
(oW (binN .lss v23 v24) fun v25 =>
(bW v25
(gcV h Q (.int .i64 (-1)) h11)
(gcV h Q (.int .i64 0) h11)))))))))
theorem W_slices_Compare_int_int_eq (a0 a1 : Value) (h : Heap) (Q : Value → Heap → Prop) : fW Try.prog ⟨[(2, [0, 1, 9, 10, 11])], []⟩ Try.f23 [a0, a1] h Q = W_slices_Compare_int_int a0 a1 h Q := by kernel_rfl
theorem W_slices_Compare_int_int_ok {a0 a1 : Value} {h : Heap} {Q : Value → Heap → Prop} (e : W_slices_Compare_int_int a0 a1 h Q) : acall Try.prog F_slices_Compare_int_int [a0, a1] h Q :=
  by refine acall_of_fW mixed ⟨[(2, [0, 1, 9, 10, 11])], []⟩ Try.func23 (by kernel_rfl) ?_; rw [W_slices_Compare_int_int_eq]; exact e

/-- maps.Keys[map[int][]int,int,[]int]: loops {}; joins {} -/
def W_maps_Keys_map_int_int_int_int (a0 : Value) (h : Heap) (Q : Value → Heap → Prop) : Prop :=
(hW (boxA h a0) fun v1 h2 =>
(gcV h Q (.func (.func F_maps_Keys_map_int_int_int_int_D1) #[] #[v1]) h2))
theorem W_maps_Keys_map_int_int_int_int_eq (a0 : Value) (h : Heap) (Q : Value → Heap → Prop) : fW Try.prog ⟨[], []⟩ Try.f26 [a0] h Q = W_maps_Keys_map_int_int_int_int a0 h Q := by kernel_rfl
theorem W_maps_Keys_map_int_int_int_int_ok {a0 : Value} {h : Heap} {Q : Value → Heap → Prop} (e : W_maps_Keys_map_int_int_int_int a0 h Q) : acall Try.prog F_maps_Keys_map_int_int_int_int [a0] h Q :=
  by refine acall_of_fW mixed ⟨[], []⟩ Try.func26 (by kernel_rfl) ?_; rw [W_maps_Keys_map_int_int_int_int_eq]; exact e

/-- homograph/cycles.alone: loops {}; joins {} -/
def W_cycles_alone (a0 : Value) (h : Heap) (Q : Value → Heap → Prop) : Prop :=
(hW (boxA h a0) fun v1 h2 =>
(oW (ldW true 5 h2 v1) fun v3 =>
(callW Try.prog (fn F_cycles_void) [v3] h2 fun v4 h5 =>
(letH (h5 ++ [.row [.nilFunc] .exact]) fun h6 =>
(sW (stW 1 h6 (.pointer (some ⟨h5.length, 0, none⟩)) v4) fun h7 =>
(oW (ldW true 5 h7 v1) fun v8 =>
(callW Try.prog (fn F_cycles_steps) [v8, (.func (.func F_cycles_alone_D1) #[] #[(.pointer (some ⟨h5.length, 0, none⟩))])] h7 fun v9 h10 =>
(gcV h Q v9 h10))))))))
theorem W_cycles_alone_eq (a0 : Value) (h : Heap) (Q : Value → Heap → Prop) : fW Try.prog ⟨[], []⟩ Try.f27 [a0] h Q = W_cycles_alone a0 h Q := by kernel_rfl
theorem W_cycles_alone_ok {a0 : Value} {h : Heap} {Q : Value → Heap → Prop} (e : W_cycles_alone a0 h Q) : acall Try.prog F_cycles_alone [a0] h Q :=
  by refine acall_of_fW mixed ⟨[], []⟩ Try.func27 (by kernel_rfl) ?_; rw [W_cycles_alone_eq]; exact e

/-- homograph/symbols.Check: loops {7: [1, 3, 52, 53, 54]}; joins {5: [1]} -/
def W_symbols_Check (a0 : Value) (h : Heap) (Q : Value → Heap → Prop) : Prop :=
(hW (boxA h a0) fun v1 h2 =>
(∃ M3 : List Value → Heap → Prop,
(oW (faW 1 1 v1) fun v4 =>
(oW (ldW false 1 h2 v4) fun v5 =>
(oW (binN .lss v5 (.int .i64 0)) fun v6 =>
(bW v6
(bW (.bool true)
(gcV h Q (.int .i64 1) h2)
(oW (faW 3 1 v1) fun v7 =>
(oW (ldW false 1 h2 v7) fun v8 =>
(oW (lenS v8) fun v9 =>
(oW (binN .lss v9 (.int .i64 1)) fun v10 =>
(bW v10
(bW (.bool true)
(gcV h Q (.int .i64 1) h2)
(gcL h M3 [v1] h2))
(oW (faW 3 1 v1) fun v11 =>
(oW (ldW false 1 h2 v11) fun v12 =>
(oW (lenS v12) fun v13 =>
(oW (binN .gtr v13 (.int .i64 256)) fun v14 =>
(bW v14
(bW (.bool true)
(gcV h Q (.int .i64 1) h2)
(gcL h M3 [v1] h2))
(oW (ldW true 5 h2 v1) fun v15 =>
(oW (faW 4 1 v1) fun v16 =>
(oW (ldW false 1 h2 v16) fun v17 =>
(callW Try.prog (fn F_symbols_Grammar_made) [v15, v17] h2 fun v18 h19 =>
(oW (unA .not v18) fun v20 =>
(bW v20
(gcV h Q (.int .i64 1) h19)
(gcL h M3 [v1] h19))))))))))))))))))
(oW (faW 1 1 v1) fun v21 =>
(oW (ldW false 1 h2 v21) fun v22 =>
(oW (faW 0 1 v1) fun v23 =>
(oW (ldW false 1 h2 v23) fun v24 =>
(oW (lenS v24) fun v25 =>
(oW (binN .gtr v22 v25) fun v26 =>
(bW v26
(bW (.bool true)
(gcV h Q (.int .i64 1) h2)
(oW (faW 3 1 v1) fun v27 =>
(oW (ldW false 1 h2 v27) fun v28 =>
(oW (lenS v28) fun v29 =>
(oW (binN .lss v29 (.int .i64 1)) fun v30 =>
(bW v30
(bW (.bool true)
(gcV h Q (.int .i64 1) h2)
(gcL h M3 [v1] h2))
(oW (faW 3 1 v1) fun v31 =>
(oW (ldW false 1 h2 v31) fun v32 =>
(oW (lenS v32) fun v33 =>
(oW (binN .gtr v33 (.int .i64 256)) fun v34 =>
(bW v34
(bW (.bool true)
(gcV h Q (.int .i64 1) h2)
(gcL h M3 [v1] h2))
(oW (ldW true 5 h2 v1) fun v35 =>
(oW (faW 4 1 v1) fun v36 =>
(oW (ldW false 1 h2 v36) fun v37 =>
(callW Try.prog (fn F_symbols_Grammar_made) [v35, v37] h2 fun v38 h39 =>
(oW (unA .not v38) fun v40 =>
(bW v40
(gcV h Q (.int .i64 1) h39)
(gcL h M3 [v1] h39))))))))))))))))))
(oW (faW 2 1 v1) fun v41 =>
(oW (ldW false 1 h2 v41) fun v42 =>
(oW (lenS v42) fun v43 =>
(oW (faW 1 1 v1) fun v44 =>
(oW (ldW false 1 h2 v44) fun v45 =>
(oW (binN .neq v43 v45) fun v46 =>
(bW v46
(bW (.bool true)
(gcV h Q (.int .i64 1) h2)
(oW (faW 3 1 v1) fun v47 =>
(oW (ldW false 1 h2 v47) fun v48 =>
(oW (lenS v48) fun v49 =>
(oW (binN .lss v49 (.int .i64 1)) fun v50 =>
(bW v50
(bW (.bool true)
(gcV h Q (.int .i64 1) h2)
(gcL h M3 [v1] h2))
(oW (faW 3 1 v1) fun v51 =>
(oW (ldW false 1 h2 v51) fun v52 =>
(oW (lenS v52) fun v53 =>
(oW (binN .gtr v53 (.int .i64 256)) fun v54 =>
(bW v54
(bW (.bool true)
(gcV h Q (.int .i64 1) h2)
(gcL h M3 [v1] h2))
(oW (ldW true 5 h2 v1) fun v55 =>
(oW (faW 4 1 v1) fun v56 =>
(oW (ldW false 1 h2 v56) fun v57 =>
(callW Try.prog (fn F_symbols_Grammar_made) [v55, v57] h2 fun v58 h59 =>
(oW (unA .not v58) fun v60 =>
(bW v60
(gcV h Q (.int .i64 1) h59)
(gcL h M3 [v1] h59))))))))))))))))))
(oW (faW 0 1 v1) fun v61 =>
(oW (ldW false 1 h2 v61) fun v62 =>
(oW (lenS v62) fun v63 =>
(oW (binN .gtr v63 (.int .i64 128)) fun v64 =>
(bW v64
(gcV h Q (.int .i64 1) h2)
(oW (faW 3 1 v1) fun v65 =>
(oW (ldW false 1 h2 v65) fun v66 =>
(oW (lenS v66) fun v67 =>
(oW (binN .lss v67 (.int .i64 1)) fun v68 =>
(bW v68
(bW (.bool true)
(gcV h Q (.int .i64 1) h2)
(gcL h M3 [v1] h2))
(oW (faW 3 1 v1) fun v69 =>
(oW (ldW false 1 h2 v69) fun v70 =>
(oW (lenS v70) fun v71 =>
(oW (binN .gtr v71 (.int .i64 256)) fun v72 =>
(bW v72
(bW (.bool true)
(gcV h Q (.int .i64 1) h2)
(gcL h M3 [v1] h2))
(oW (ldW true 5 h2 v1) fun v73 =>
(oW (faW 4 1 v1) fun v74 =>
(oW (ldW false 1 h2 v74) fun v75 =>
(callW Try.prog (fn F_symbols_Grammar_made) [v73, v75] h2 fun v76 h77 =>
(oW (unA .not v76) fun v78 =>
(bW v78
(gcV h Q (.int .i64 1) h77)
(gcL h M3 [v1] h77)))))))))))))))))))))))))))))))))))))))) ∧
∀ x79 : Value, ∀ h80, M3 [x79] h80 →
(letH (h80 ++ [.map []]) fun h81 =>
(oW (faW 3 1 x79) fun v82 =>
(oW (ldW false 1 h81 v82) fun v83 =>
(oW (lenS v83) fun v84 =>
(∃ (I85 : Nat → List Value → Heap → Prop) (k86 : Nat), gcL h (I85 k86) [x79, (.map (some h80.length)), v83, v84, (.int .i64 0)] h81 ∧
∀ k88 : Nat, ∀ x89 : Value, ∀ x90 : Value, ∀ x91 : Value, ∀ x92 : Value, ∀ x93 : Value, ∀ h94, I85 k88 [x89, x90, x91, x92, x93] h94 →
(oW (binN .lss x93 x92) fun v95 =>
(bW v95
(oW (iaS 1 x91 x93) fun v96 =>
(oW (ldW false 1 h94 v96) fun v97 =>
(oW (ldW true 5 h94 x89) fun v98 =>
(callW Try.prog (fn F_symbols_Grammar_fits) [v98, v97] h94 fun v99 h100 =>
(oW (unA .not v99) fun v101 =>
(bW v101
(gcV h Q (.int .i64 1) h100)
(oW (iaS 1 v97 (.int .i64 0)) fun v102 =>
(oW (ldW false 1 h100 v102) fun v103 =>
(sW (upS (.int .i64) h100 x90 v103 (.bool true)) fun h104 =>
(oW (binN .add x93 (.int .i64 1)) fun v105 =>
(∃ m87, m87 < k88 ∧ gcL h (I85 m87) [x89, x90, x91, x92, v105] h104)))))))))))
(oW (lenM h94 x90) fun v106 =>
(oW (faW 0 1 x89) fun v107 =>
(oW (ldW false 1 h94 v107) fun v108 =>
(oW (lenS v108) fun v109 =>
(oW (faW 1 1 x89) fun v110 =>
(oW (ldW false 1 h94 v110) fun v111 =>
(oW (binN .sub v109 v111) fun v112 =>
(oW (binN .neq v106 v112) fun v113 =>
(bW v113
(gcV h Q (.int .i64 1) h94)
(gcV h Q (.int .i64 0) h94)))))))))))))))))))
theorem W_symbols_Check_eq (a0 : Value) (h : Heap) (Q : Value → Heap → Prop) : fW Try.prog ⟨[(7, [1, 3, 52, 53, 54])], [(5, [1])]⟩ Try.f28 [a0] h Q = W_symbols_Check a0 h Q := by kernel_rfl
theorem W_symbols_Check_ok {a0 : Value} {h : Heap} {Q : Value → Heap → Prop} (e : W_symbols_Check a0 h Q) : acall Try.prog F_symbols_Check [a0] h Q :=
  by refine acall_of_fW mixed ⟨[(7, [1, 3, 52, 53, 54])], [(5, [1])]⟩ Try.func28 (by kernel_rfl) ?_; rw [W_symbols_Check_eq]; exact e

/-- homograph/cycles.steps: loops {6: [1, 5, 7, 15, 16, 17, 22, 23, 24], 3: [1, 5, 15, 16, 17]}; joins {} -/
def W_cycles_steps (a0 a1 : Value) (h : Heap) (Q : Value → Heap → Prop) : Prop :=
(hW (boxA h a0) fun v1 h2 =>
(oW (faW 0 1 v1) fun v3 =>
(oW (ldW false 1 h2 v3) fun v4 =>
(oW (lenS v4) fun v5 =>
(callW Try.prog (fn F_cycles_blank_bool) [v5] h2 fun v6 h7 =>
(oW (faW 3 1 v1) fun v8 =>
(oW (ldW false 1 h7 v8) fun v9 =>
(oW (lenS v9) fun v10 =>
(∃ (I11 : Nat → List Value → Heap → Prop) (k12 : Nat), gcL h (I11 k12) [a1, v6, v9, v10, (.int .i64 0)] h7 ∧
∀ k14 : Nat, ∀ x15 : Value, ∀ x16 : Value, ∀ x17 : Value, ∀ x18 : Value, ∀ x19 : Value, ∀ h20, I11 k14 [x15, x16, x17, x18, x19] h20 →
(oW (binN .lss x19 x18) fun v21 =>
(bW v21
(oW (iaS 1 x17 x19) fun v22 =>
(oW (ldW false 1 h20 v22) fun v23 =>
(oW (slS 1 h20 v23 (some (.int .i64 1)) none none) fun v24 =>
(oW (lenS v24) fun v25 =>
(∃ (I26 : Nat → List Value → Heap → Prop) (k27 : Nat), gcL h (I26 k27) [x15, x16, v23, x17, x18, x19, v24, v25, (.int .i64 0)] h20 ∧
∀ k29 : Nat, ∀ x30 : Value, ∀ x31 : Value, ∀ x32 : Value, ∀ x33 : Value, ∀ x34 : Value, ∀ x35 : Value, ∀ x36 : Value, ∀ x37 : Value, ∀ x38 : Value, ∀ h39, I26 k29 [x30, x31, x32, x33, x34, x35, x36, x37, x38] h39 →
(oW (binN .lss x38 x37) fun v40 =>
(bW v40
(oW (iaS 1 x36 x38) fun v41 =>
(oW (ldW false 1 h39 v41) fun v42 =>
(oW (binN .add x38 (.int .i64 1)) fun v43 =>
(oW (slS 1 h39 x32 (some (.int .i64 1)) (some v43) none) fun v44 =>
(oW (binN .add x38 (.int .i64 2)) fun v45 =>
(oW (slS 1 h39 x32 (some v45) none none) fun v46 =>
(callW Try.prog x30 [v44, v46] h39 fun v47 h48 =>
(bW v47
(oW (iaS 1 x32 (.int .i64 0)) fun v49 =>
(oW (ldW false 1 h48 v49) fun v50 =>
(oW (iaS 1 x31 v50) fun v51 =>
(oW (ldW false 1 h48 v51) fun v52 =>
(oW (iaS 1 v52 v42) fun v53 =>
(sW (stW 1 h48 v53 (.bool true)) fun h54 =>
(oW (binN .add x38 (.int .i64 1)) fun v55 =>
(∃ m28, m28 < k29 ∧ gcL h (I26 m28) [x30, x31, x32, x33, x34, x35, x36, x37, v55] h54))))))))
(oW (binN .add x38 (.int .i64 1)) fun v56 =>
(∃ m28, m28 < k29 ∧ gcL h (I26 m28) [x30, x31, x32, x33, x34, x35, x36, x37, v56] h48))))))))))
(oW (binN .add x35 (.int .i64 1)) fun v57 =>
(∃ m13, m13 < k14 ∧ gcL h (I11 m13) [x30, x31, x33, x34, v57] h39)))))))))
(gcV h Q x16 h20))))))))))))
theorem W_cycles_steps_eq (a0 a1 : Value) (h : Heap) (Q : Value → Heap → Prop) : fW Try.prog ⟨[(6, [1, 5, 7, 15, 16, 17, 22, 23, 24]), (3, [1, 5, 15, 16, 17])], []⟩ Try.f29 [a0, a1] h Q = W_cycles_steps a0 a1 h Q := by kernel_rfl
theorem W_cycles_steps_ok {a0 a1 : Value} {h : Heap} {Q : Value → Heap → Prop} (e : W_cycles_steps a0 a1 h Q) : acall Try.prog F_cycles_steps [a0, a1] h Q :=
  by refine acall_of_fW mixed ⟨[(6, [1, 5, 7, 15, 16, 17, 22, 23, 24]), (3, [1, 5, 15, 16, 17])], []⟩ Try.func29 (by kernel_rfl) ?_; rw [W_cycles_steps_eq]; exact e

/-- homograph/cycles.first$1: loops {}; joins {} -/
def W_cycles_first_D1 (a0 a1 a2 a3 : Value) (h : Heap) (Q : Value → Heap → Prop) : Prop :=
(oW (lenS a0) fun v1 =>
(oW (ldW false 1 h a2) fun v2 =>
(oW (binN .geq v1 v2) fun v3 =>
(bW v3
(oW (ldW false 1 h a3) fun v4 =>
(callW Try.prog v4 [a0] h fun v5 h6 =>
(gcV h Q v5 h6)))
(gcV h Q (.bool false) h)))))
theorem W_cycles_first_D1_eq (a0 a1 a2 a3 : Value) (h : Heap) (Q : Value → Heap → Prop) : fW Try.prog ⟨[], []⟩ Try.f30 [a0, a1, a2, a3] h Q = W_cycles_first_D1 a0 a1 a2 a3 h Q := by kernel_rfl
theorem W_cycles_first_D1_ok {a0 a1 a2 a3 : Value} {h : Heap} {Q : Value → Heap → Prop} (e : W_cycles_first_D1 a0 a1 a2 a3 h Q) : acall Try.prog F_cycles_first_D1 [a0, a1, a2, a3] h Q :=
  by refine acall_of_fW mixed ⟨[], []⟩ Try.func30 (by kernel_rfl) ?_; rw [W_cycles_first_D1_eq]; exact e

/-- homograph/sets.Nullable: loops {}; joins {} -/
def W_sets_Nullable (a0 : Value) (h : Heap) (Q : Value → Heap → Prop) : Prop :=
(hW (boxA h a0) fun v1 h2 =>
(oW (ldW true 5 h2 v1) fun v3 =>
(callW Try.prog (fn F_sets_marked) [v3, (.bool false)] h2 fun v4 h5 =>
(gcV h Q v4 h5))))
theorem W_sets_Nullable_eq (a0 : Value) (h : Heap) (Q : Value → Heap → Prop) : fW Try.prog ⟨[], []⟩ Try.f31 [a0] h Q = W_sets_Nullable a0 h Q := by kernel_rfl
theorem W_sets_Nullable_ok {a0 : Value} {h : Heap} {Q : Value → Heap → Prop} (e : W_sets_Nullable a0 h Q) : acall Try.prog F_sets_Nullable [a0] h Q :=
  by refine acall_of_fW mixed ⟨[], []⟩ Try.func31 (by kernel_rfl) ?_; rw [W_sets_Nullable_eq]; exact e

/-- homograph/cycles.void$1: loops {}; joins {} -/
def W_cycles_void_D1 (a0 a1 : Value) (h : Heap) (Q : Value → Heap → Prop) : Prop :=
(callW Try.prog (fn F_slices_ContainsFunc_int_int) [a0, (.func (.func F_cycles_void_D1_D1) #[] #[a1])] h fun v1 h2 =>
(oW (unA .not v1) fun v3 =>
(gcV h Q v3 h2)))
theorem W_cycles_void_D1_eq (a0 a1 : Value) (h : Heap) (Q : Value → Heap → Prop) : fW Try.prog ⟨[], []⟩ Try.f32 [a0, a1] h Q = W_cycles_void_D1 a0 a1 h Q := by kernel_rfl
theorem W_cycles_void_D1_ok {a0 a1 : Value} {h : Heap} {Q : Value → Heap → Prop} (e : W_cycles_void_D1 a0 a1 h Q) : acall Try.prog F_cycles_void_D1 [a0, a1] h Q :=
  by refine acall_of_fW mixed ⟨[], []⟩ Try.func32 (by kernel_rfl) ?_; rw [W_cycles_void_D1_eq]; exact e

/-- slices.ContainsFunc[[]int,int]: loops {}; joins {} -/
def W_slices_ContainsFunc_int_int (a0 a1 : Value) (h : Heap) (Q : Value → Heap → Prop) : Prop :=
(callW Try.prog (fn F_slices_IndexFunc_int_int) [a0, a1] h fun v1 h2 =>
(oW (binN .geq v1 (.int .i64 0)) fun v3 =>
(gcV h Q v3 h2)))
theorem W_slices_ContainsFunc_int_int_eq (a0 a1 : Value) (h : Heap) (Q : Value → Heap → Prop) : fW Try.prog ⟨[], []⟩ Try.f33 [a0, a1] h Q = W_slices_ContainsFunc_int_int a0 a1 h Q := by kernel_rfl
theorem W_slices_ContainsFunc_int_int_ok {a0 a1 : Value} {h : Heap} {Q : Value → Heap → Prop} (e : W_slices_ContainsFunc_int_int a0 a1 h Q) : acall Try.prog F_slices_ContainsFunc_int_int [a0, a1] h Q :=
  by refine acall_of_fW mixed ⟨[], []⟩ Try.func33 (by kernel_rfl) ?_; rw [W_slices_ContainsFunc_int_int_eq]; exact e

/-- homograph/cycles.void$1$1: loops {}; joins {} -/
def W_cycles_void_D1_D1 (a0 a1 : Value) (h : Heap) (Q : Value → Heap → Prop) : Prop :=
(oW (ldW false 1 h a1) fun v1 =>
(oW (iaS 1 v1 a0) fun v2 =>
(oW (ldW false 1 h v2) fun v3 =>
(oW (unA .not v3) fun v4 =>
(gcV h Q v4 h)))))
theorem W_cycles_void_D1_D1_eq (a0 a1 : Value) (h : Heap) (Q : Value → Heap → Prop) : fW Try.prog ⟨[], []⟩ Try.f34 [a0, a1] h Q = W_cycles_void_D1_D1 a0 a1 h Q := by kernel_rfl
theorem W_cycles_void_D1_D1_ok {a0 a1 : Value} {h : Heap} {Q : Value → Heap → Prop} (e : W_cycles_void_D1_D1 a0 a1 h Q) : acall Try.prog F_cycles_void_D1_D1 [a0, a1] h Q :=
  by refine acall_of_fW mixed ⟨[], []⟩ Try.func34 (by kernel_rfl) ?_; rw [W_cycles_void_D1_D1_eq]; exact e

/-- cmp.Compare[int]: loops {}; joins {} -/
def W_cmp_Compare_int (a0 a1 : Value) (h : Heap) (Q : Value → Heap → Prop) : Prop :=
(callW Try.prog (fn F_cmp_isNaN_int) [a0] h fun v1 h2 =>
(callW Try.prog (fn F_cmp_isNaN_int) [a1] h2 fun v3 h4 =>
(bW v1
(bW v3
(gcV h Q (.int .i64 0) h4)
(gcV h Q (.int .i64 (-1)) h4))
(bW v3
(gcV h Q (.int .i64 1) h4)
(oW (binN .lss a0 a1) fun v5 =>
(bW v5
(gcV h Q (.int .i64 (-1)) h4)
(oW (binN .gtr a0 a1) fun v6 =>
(bW v6
(gcV h Q (.int .i64 1) h4)
(gcV h Q (.int .i64 0) h4)))))))))
theorem W_cmp_Compare_int_eq (a0 a1 : Value) (h : Heap) (Q : Value → Heap → Prop) : fW Try.prog ⟨[], []⟩ Try.f35 [a0, a1] h Q = W_cmp_Compare_int a0 a1 h Q := by kernel_rfl
theorem W_cmp_Compare_int_ok {a0 a1 : Value} {h : Heap} {Q : Value → Heap → Prop} (e : W_cmp_Compare_int a0 a1 h Q) : acall Try.prog F_cmp_Compare_int [a0, a1] h Q :=
  by refine acall_of_fW mixed ⟨[], []⟩ Try.func35 (by kernel_rfl) ?_; rw [W_cmp_Compare_int_eq]; exact e

/-- homograph/cycles.alone$1: loops {}; joins {} -/
def W_cycles_alone_D1 (a0 a1 a2 : Value) (h : Heap) (Q : Value → Heap → Prop) : Prop :=
(oW (ldW false 1 h a2) fun v1 =>
(callW Try.prog v1 [a0] h fun v2 h3 =>
(bW v2
(oW (ldW false 1 h3 a2) fun v4 =>
(callW Try.prog v4 [a1] h3 fun v5 h6 =>
(gcV h Q v5 h6)))
(gcV h Q (.bool false) h3))))
theorem W_cycles_alone_D1_eq (a0 a1 a2 : Value) (h : Heap) (Q : Value → Heap → Prop) : fW Try.prog ⟨[], []⟩ Try.f39 [a0, a1, a2] h Q = W_cycles_alone_D1 a0 a1 a2 h Q := by kernel_rfl
theorem W_cycles_alone_D1_ok {a0 a1 a2 : Value} {h : Heap} {Q : Value → Heap → Prop} (e : W_cycles_alone_D1 a0 a1 a2 h Q) : acall Try.prog F_cycles_alone_D1 [a0, a1, a2] h Q :=
  by refine acall_of_fW mixed ⟨[], []⟩ Try.func39 (by kernel_rfl) ?_; rw [W_cycles_alone_D1_eq]; exact e

/-- (homograph/symbols.Grammar).made: loops {}; joins {} -/
def W_symbols_Grammar_made (a0 a1 : Value) (h : Heap) (Q : Value → Heap → Prop) : Prop :=
(hW (boxA h a0) fun v1 h2 =>
(oW (faW 1 1 v1) fun v3 =>
(oW (ldW false 1 h2 v3) fun v4 =>
(oW (binN .geq a1 v4) fun v5 =>
(bW v5
(oW (ldW true 5 h2 v1) fun v6 =>
(callW Try.prog (fn F_symbols_Grammar_symbol) [v6, a1] h2 fun v7 h8 =>
(gcV h Q v7 h8)))
(gcV h Q (.bool false) h2))))))
theorem W_symbols_Grammar_made_eq (a0 a1 : Value) (h : Heap) (Q : Value → Heap → Prop) : fW Try.prog ⟨[], []⟩ Try.f40 [a0, a1] h Q = W_symbols_Grammar_made a0 a1 h Q := by kernel_rfl
theorem W_symbols_Grammar_made_ok {a0 a1 : Value} {h : Heap} {Q : Value → Heap → Prop} (e : W_symbols_Grammar_made a0 a1 h Q) : acall Try.prog F_symbols_Grammar_made [a0, a1] h Q :=
  by refine acall_of_fW mixed ⟨[], []⟩ Try.func40 (by kernel_rfl) ?_; rw [W_symbols_Grammar_made_eq]; exact e

/-- (homograph/symbols.Grammar).fits: loops {}; joins {} -/
def W_symbols_Grammar_fits (a0 a1 : Value) (h : Heap) (Q : Value → Heap → Prop) : Prop :=
(hW (boxA h a0) fun v1 h2 =>
(oW (lenS a1) fun v3 =>
(oW (binN .gtr v3 (.int .i64 0)) fun v4 =>
(bW v4
(oW (lenS a1) fun v5 =>
(oW (binN .leq v5 (.int .i64 9)) fun v6 =>
(bW v6
(oW (ldW true 5 h2 v1) fun v7 =>
(oW (iaS 1 a1 (.int .i64 0)) fun v8 =>
(oW (ldW false 1 h2 v8) fun v9 =>
(callW Try.prog (fn F_symbols_Grammar_made) [v7, v9] h2 fun v10 h11 =>
(keptW [v8, v1, a1, a1] h2 h11 ∧
(bW v10
(oW (slS 1 h11 a1 (some (.int .i64 1)) none none) fun v12 =>
(callW Try.prog (fn F_slices_ContainsFunc_int_int) [v12, (.func (.func F_symbols_Grammar_fits_D1) #[] #[v1])] h11 fun v13 h14 =>
(keptW [a1, v8, v1, a1, a1] h11 h14 ∧
(oW (unA .not v13) fun v15 =>
(gcV h Q v15 h14)))))
(gcV h Q (.bool false) h11)))))))
(gcV h Q (.bool false) h2))))
(gcV h Q (.bool false) h2)))))
theorem W_symbols_Grammar_fits_eq (a0 a1 : Value) (h : Heap) (Q : Value → Heap → Prop) : fW Try.prog ⟨[], []⟩ Try.f41 [a0, a1] h Q = W_symbols_Grammar_fits a0 a1 h Q := by kernel_rfl
theorem W_symbols_Grammar_fits_ok {a0 a1 : Value} {h : Heap} {Q : Value → Heap → Prop} (e : W_symbols_Grammar_fits a0 a1 h Q) : acall Try.prog F_symbols_Grammar_fits [a0, a1] h Q :=
  by refine acall_of_fW mixed ⟨[], []⟩ Try.func41 (by kernel_rfl) ?_; rw [W_symbols_Grammar_fits_eq]; exact e

/-- homograph/sets.marked: loops {5: [1, 2, 5, 15, 16]}; joins {} -/
def W_sets_marked (a0 a1 : Value) (h : Heap) (Q : Value → Heap → Prop) : Prop :=
(hW (boxA h a0) fun v1 h2 =>
(oW (ldW true 5 h2 v1) fun v3 =>
(callW Try.prog (fn F_sets_right) [v3] h2 fun v4 h5 =>
(oW (unA .not v4) fun v6 =>
(bW v6
(gcV h Q (.slice none 0 0) h5)
(oW (faW 0 1 v1) fun v7 =>
(oW (ldW false 1 h5 v7) fun v8 =>
(oW (lenS v8) fun v9 =>
(hW (mksW [(.bool false)] 1 h5 v9 v9) fun v10 h11 =>
(letH (h11 ++ [.row [(.slice none 0 0)] .exact]) fun h12 =>
(sW (stW 1 h12 (.pointer (some ⟨h11.length, 0, none⟩)) v10) fun h13 =>
(oW (faW 1 1 v1) fun v14 =>
(oW (ldW false 1 h13 v14) fun v15 =>
(∃ (I16 : Nat → List Value → Heap → Prop) (k17 : Nat), gcL h (I16 k17) [a1, v1, (.pointer (some ⟨h11.length, 0, none⟩)), v15, (.int .i64 0)] h13 ∧
∀ k19 : Nat, ∀ x20 : Value, ∀ x21 : Value, ∀ x22 : Value, ∀ x23 : Value, ∀ x24 : Value, ∀ h25, I16 k19 [x20, x21, x22, x23, x24] h25 →
(oW (binN .lss x24 x23) fun v26 =>
(bW v26
(oW (ldW false 1 h25 x22) fun v27 =>
(oW (iaS 1 v27 x24) fun v28 =>
(sW (stW 1 h25 v28 x20) fun h29 =>
(oW (binN .add x24 (.int .i64 1)) fun v30 =>
(∃ m18, m18 < k19 ∧ gcL h (I16 m18) [x20, x21, x22, x23, v30] h29)))))
(oW (faW 3 1 x21) fun v31 =>
(oW (ldW false 1 h25 v31) fun v32 =>
(callW Try.prog (fn F_sets_until_int) [v32, (.func (.func F_sets_marked_D1) #[] #[x22])] h25 fun v33 h34 =>
(oW (ldW false 1 h34 x22) fun v35 =>
(gcV h Q v35 h34)))))))))))))))))))))
theorem W_sets_marked_eq (a0 a1 : Value) (h : Heap) (Q : Value → Heap → Prop) : fW Try.prog ⟨[(5, [1, 2, 5, 15, 16])], []⟩ Try.f42 [a0, a1] h Q = W_sets_marked a0 a1 h Q := by kernel_rfl
theorem W_sets_marked_ok {a0 a1 : Value} {h : Heap} {Q : Value → Heap → Prop} (e : W_sets_marked a0 a1 h Q) : acall Try.prog F_sets_marked [a0, a1] h Q :=
  by refine acall_of_fW mixed ⟨[(5, [1, 2, 5, 15, 16])], []⟩ Try.func42 (by kernel_rfl) ?_; rw [W_sets_marked_eq]; exact e

/-- slices.IndexFunc[[]int,int]: loops {2: [0, 1, 7, 8]}; joins {} -/
def W_slices_IndexFunc_int_int (a0 a1 : Value) (h : Heap) (Q : Value → Heap → Prop) : Prop :=
(oW (lenS a0) fun v1 =>
(∃ (I2 : Nat → List Value → Heap → Prop) (k3 : Nat), gcL h (I2 k3) [a0, a1, v1, (.int .i64 0)] h ∧
∀ k5 : Nat, ∀ x6 : Value, ∀ x7 : Value, ∀ x8 : Value, ∀ x9 : Value, ∀ h10, I2 k5 [x6, x7, x8, x9] h10 →
(oW (binN .lss x9 x8) fun v11 =>
(bW v11
(oW (iaS 1 x6 x9) fun v12 =>
(oW (ldW false 1 h10 v12) fun v13 =>
(callW Try.prog x7 [v13] h10 fun v14 h15 =>
(bW v14
(gcV h Q x9 h15)
(oW (binN .add x9 (.int .i64 1)) fun v16 =>
(∃ m4, m4 < k5 ∧ gcL h (I2 m4) [x6, x7, x8, v16] h15))))))
(gcV h Q (.int .i64 (-1)) h10)))))
theorem W_slices_IndexFunc_int_int_eq (a0 a1 : Value) (h : Heap) (Q : Value → Heap → Prop) : fW Try.prog ⟨[(2, [0, 1, 7, 8])], []⟩ Try.f43 [a0, a1] h Q = W_slices_IndexFunc_int_int a0 a1 h Q := by kernel_rfl
theorem W_slices_IndexFunc_int_int_ok {a0 a1 : Value} {h : Heap} {Q : Value → Heap → Prop} (e : W_slices_IndexFunc_int_int a0 a1 h Q) : acall Try.prog F_slices_IndexFunc_int_int [a0, a1] h Q :=
  by refine acall_of_fW mixed ⟨[(2, [0, 1, 7, 8])], []⟩ Try.func43 (by kernel_rfl) ?_; rw [W_slices_IndexFunc_int_int_eq]; exact e

/-- cmp.isNaN[int]: loops {}; joins {} -/
def W_cmp_isNaN_int (a0 : Value) (h : Heap) (Q : Value → Heap → Prop) : Prop :=
(oW (binN .neq a0 a0) fun v1 =>
(gcV h Q v1 h))
theorem W_cmp_isNaN_int_eq (a0 : Value) (h : Heap) (Q : Value → Heap → Prop) : fW Try.prog ⟨[], []⟩ Try.f44 [a0] h Q = W_cmp_isNaN_int a0 h Q := by kernel_rfl
theorem W_cmp_isNaN_int_ok {a0 : Value} {h : Heap} {Q : Value → Heap → Prop} (e : W_cmp_isNaN_int a0 h Q) : acall Try.prog F_cmp_isNaN_int [a0] h Q :=
  by refine acall_of_fW mixed ⟨[], []⟩ Try.func44 (by kernel_rfl) ?_; rw [W_cmp_isNaN_int_eq]; exact e

/-- (homograph/symbols.Grammar).symbol: loops {}; joins {} -/
def W_symbols_Grammar_symbol (a0 a1 : Value) (h : Heap) (Q : Value → Heap → Prop) : Prop :=
(hW (boxA h a0) fun v1 h2 =>
(oW (binN .geq a1 (.int .i64 0)) fun v3 =>
(bW v3
(oW (faW 0 1 v1) fun v4 =>
(oW (ldW false 1 h2 v4) fun v5 =>
(oW (lenS v5) fun v6 =>
(oW (binN .lss a1 v6) fun v7 =>
(gcV h Q v7 h2)))))
(gcV h Q (.bool false) h2))))
theorem W_symbols_Grammar_symbol_eq (a0 a1 : Value) (h : Heap) (Q : Value → Heap → Prop) : fW Try.prog ⟨[], []⟩ Try.f48 [a0, a1] h Q = W_symbols_Grammar_symbol a0 a1 h Q := by kernel_rfl
theorem W_symbols_Grammar_symbol_ok {a0 a1 : Value} {h : Heap} {Q : Value → Heap → Prop} (e : W_symbols_Grammar_symbol a0 a1 h Q) : acall Try.prog F_symbols_Grammar_symbol [a0, a1] h Q :=
  by refine acall_of_fW mixed ⟨[], []⟩ Try.func48 (by kernel_rfl) ?_; rw [W_symbols_Grammar_symbol_eq]; exact e

/-- (homograph/symbols.Grammar).fits$1: loops {}; joins {} -/
def W_symbols_Grammar_fits_D1 (a0 a1 : Value) (h : Heap) (Q : Value → Heap → Prop) : Prop :=
(oW (ldW true 5 h a1) fun v1 =>
(callW Try.prog (fn F_symbols_Grammar_symbol) [v1, a0] h fun v2 h3 =>
(oW (unA .not v2) fun v4 =>
(gcV h Q v4 h3))))
theorem W_symbols_Grammar_fits_D1_eq (a0 a1 : Value) (h : Heap) (Q : Value → Heap → Prop) : fW Try.prog ⟨[], []⟩ Try.f49 [a0, a1] h Q = W_symbols_Grammar_fits_D1 a0 a1 h Q := by kernel_rfl
theorem W_symbols_Grammar_fits_D1_ok {a0 a1 : Value} {h : Heap} {Q : Value → Heap → Prop} (e : W_symbols_Grammar_fits_D1 a0 a1 h Q) : acall Try.prog F_symbols_Grammar_fits_D1 [a0, a1] h Q :=
  by refine acall_of_fW mixed ⟨[], []⟩ Try.func49 (by kernel_rfl) ?_; rw [W_symbols_Grammar_fits_D1_eq]; exact e

/-- homograph/sets.right: loops {}; joins {} -/
def W_sets_right (a0 : Value) (h : Heap) (Q : Value → Heap → Prop) : Prop :=
(hW (boxA h a0) fun v1 h2 =>
(oW (ldW true 5 h2 v1) fun v3 =>
(callW Try.prog (fn F_symbols_Check) [v3] h2 fun v4 h5 =>
(oW (binN .eql v4 (.int .i64 0)) fun v6 =>
(gcV h Q v6 h5)))))
theorem W_sets_right_eq (a0 : Value) (h : Heap) (Q : Value → Heap → Prop) : fW Try.prog ⟨[], []⟩ Try.f50 [a0] h Q = W_sets_right a0 h Q := by kernel_rfl
theorem W_sets_right_ok {a0 : Value} {h : Heap} {Q : Value → Heap → Prop} (e : W_sets_right a0 h Q) : acall Try.prog F_sets_right [a0] h Q :=
  by refine acall_of_fW mixed ⟨[], []⟩ Try.func50 (by kernel_rfl) ?_; rw [W_sets_right_eq]; exact e

/-- homograph/sets.until[[]int]: loops {4: [0, 1, 4, 8, 9, 10], 1: [0, 1, 4]}; joins {} -/
def W_sets_until_int (a0 a1 : Value) (h : Heap) (Q : Value → Heap → Prop) : Prop :=
(∃ (I1 : Nat → List Value → Heap → Prop) (k2 : Nat), gcL h (I1 k2) [a0, a1, (.bool true)] h ∧
∀ k4 : Nat, ∀ x5 : Value, ∀ x6 : Value, ∀ x7 : Value, ∀ h8, I1 k4 [x5, x6, x7] h8 →
(bW x7
(oW (lenS x5) fun v9 =>
(∃ (I10 : Nat → List Value → Heap → Prop) (k11 : Nat), gcL h (I10 k11) [x5, x6, (.bool false), x5, v9, (.int .i64 0)] h8 ∧
∀ k13 : Nat, ∀ x14 : Value, ∀ x15 : Value, ∀ x16 : Value, ∀ x17 : Value, ∀ x18 : Value, ∀ x19 : Value, ∀ h20, I10 k13 [x14, x15, x16, x17, x18, x19] h20 →
(oW (binN .lss x19 x18) fun v21 =>
(bW v21
(oW (iaS 1 x17 x19) fun v22 =>
(oW (ldW false 1 h20 v22) fun v23 =>
(callW Try.prog x15 [v23] h20 fun v24 h25 =>
(bW v24
(oW (binN .add x19 (.int .i64 1)) fun v26 =>
(∃ m12, m12 < k13 ∧ gcL h (I10 m12) [x14, x15, (.bool true), x17, x18, v26] h25))
(oW (binN .add x19 (.int .i64 1)) fun v27 =>
(∃ m12, m12 < k13 ∧ gcL h (I10 m12) [x14, x15, x16, x17, x18, v27] h25))))))
(∃ m3, m3 < k4 ∧ gcL h (I1 m3) [x14, x15, x16] h20)))))
(gcV h Q (.tuple #[]) h8)))
theorem W_sets_until_int_eq (a0 a1 : Value) (h : Heap) (Q : Value → Heap → Prop) : fW Try.prog ⟨[(4, [0, 1, 4, 8, 9, 10]), (1, [0, 1, 4])], []⟩ Try.f51 [a0, a1] h Q = W_sets_until_int a0 a1 h Q := by kernel_rfl
theorem W_sets_until_int_ok {a0 a1 : Value} {h : Heap} {Q : Value → Heap → Prop} (e : W_sets_until_int a0 a1 h Q) : acall Try.prog F_sets_until_int [a0, a1] h Q :=
  by refine acall_of_fW mixed ⟨[(4, [0, 1, 4, 8, 9, 10]), (1, [0, 1, 4])], []⟩ Try.func51 (by kernel_rfl) ?_; rw [W_sets_until_int_eq]; exact e

/-- homograph/sets.marked$1: loops {}; joins {} -/
def W_sets_marked_D1 (a0 a1 : Value) (h : Heap) (Q : Value → Heap → Prop) : Prop :=
(oW (ldW false 1 h a1) fun v1 =>
(oW (iaS 1 a0 (.int .i64 0)) fun v2 =>
(oW (ldW false 1 h v2) fun v3 =>
(oW (iaS 1 v1 v3) fun v4 =>
(oW (ldW false 1 h v4) fun v5 =>
(bW v5
(bW (.bool true)
(gcV h Q (.bool false) h)
(oW (ldW false 1 h a1) fun v6 =>
(oW (iaS 1 a0 (.int .i64 0)) fun v7 =>
(oW (ldW false 1 h v7) fun v8 =>
(oW (iaS 1 v6 v8) fun v9 =>
(sW (stW 1 h v9 (.bool true)) fun h10 =>
(gcV h Q (.bool true) h10)))))))
(oW (slS 1 h a0 (some (.int .i64 1)) none none) fun v11 =>
(callW Try.prog (fn F_slices_ContainsFunc_int_int) [v11, (.func (.func F_sets_marked_D1_D1) #[] #[a1])] h fun v12 h13 =>
(keptW [a0, v4, v2, a1] h h13 ∧
(bW v12
(gcV h Q (.bool false) h13)
(oW (ldW false 1 h13 a1) fun v14 =>
(oW (iaS 1 a0 (.int .i64 0)) fun v15 =>
(oW (ldW false 1 h13 v15) fun v16 =>
(oW (iaS 1 v14 v16) fun v17 =>
(sW (stW 1 h13 v17 (.bool true)) fun h18 =>
(gcV h Q (.bool true) h18))))))))))))))))
theorem W_sets_marked_D1_eq (a0 a1 : Value) (h : Heap) (Q : Value → Heap → Prop) : fW Try.prog ⟨[], []⟩ Try.f52 [a0, a1] h Q = W_sets_marked_D1 a0 a1 h Q := by kernel_rfl
theorem W_sets_marked_D1_ok {a0 a1 : Value} {h : Heap} {Q : Value → Heap → Prop} (e : W_sets_marked_D1 a0 a1 h Q) : acall Try.prog F_sets_marked_D1 [a0, a1] h Q :=
  by refine acall_of_fW mixed ⟨[], []⟩ Try.func52 (by kernel_rfl) ?_; rw [W_sets_marked_D1_eq]; exact e

/-- homograph/sets.marked$1$1: loops {}; joins {} -/
def W_sets_marked_D1_D1 (a0 a1 : Value) (h : Heap) (Q : Value → Heap → Prop) : Prop :=
(oW (ldW false 1 h a1) fun v1 =>
(oW (iaS 1 v1 a0) fun v2 =>
(oW (ldW false 1 h v2) fun v3 =>
(oW (unA .not v3) fun v4 =>
(gcV h Q v4 h)))))
theorem W_sets_marked_D1_D1_eq (a0 a1 : Value) (h : Heap) (Q : Value → Heap → Prop) : fW Try.prog ⟨[], []⟩ Try.f53 [a0, a1] h Q = W_sets_marked_D1_D1 a0 a1 h Q := by kernel_rfl
theorem W_sets_marked_D1_D1_ok {a0 a1 : Value} {h : Heap} {Q : Value → Heap → Prop} (e : W_sets_marked_D1_D1 a0 a1 h Q) : acall Try.prog F_sets_marked_D1_D1 [a0, a1] h Q :=
  by refine acall_of_fW mixed ⟨[], []⟩ Try.func53 (by kernel_rfl) ?_; rw [W_sets_marked_D1_D1_eq]; exact e

end Go.Ax
