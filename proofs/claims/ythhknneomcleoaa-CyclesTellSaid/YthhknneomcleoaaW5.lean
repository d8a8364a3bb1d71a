/- The small words of functions that the laws reach. -/
import Derived.Test.YthhknneomcleoaaW1
import Derived.Test.YthhknneomcleoaaW2
import Derived.Test.YthhknneomcleoaaW3
namespace Go.Ax
open Go Go.Proofs

abbrev F_homographlaw18_CyclesTell : FuncId := 11
abbrev F_homographlaw18_awake : FuncId := 43
abbrev F_homographlaw18_made : FuncId := 44
abbrev F_homographref18_Same : FuncId := 45
abbrev F_cycles_Alone : FuncId := 46
abbrev F_homographref18_Alone : FuncId := 47
abbrev F_cycles_Cyclic : FuncId := 48
abbrev F_homographref18_Cyclic : FuncId := 49
abbrev F_cycles_Left : FuncId := 50
abbrev F_homographref18_Left : FuncId := 51
abbrev F_cycles_Hidden : FuncId := 52
abbrev F_homographref18_Hidden : FuncId := 53
abbrev F_cycles_Chain : FuncId := 86
abbrev F_cycles_right : FuncId := 87
abbrev F_cycles_alone : FuncId := 88
abbrev F_cycles_table_bool_close : FuncId := 89
abbrev F_homographref18_closed : FuncId := 91
abbrev F_homographref18_table : FuncId := 92
abbrev F_cycles_table_bool_own : FuncId := 93
abbrev F_homographref18_own : FuncId := 94
abbrev F_cycles_first : FuncId := 95
abbrev F_cycles_blank_bool : FuncId := 96
abbrev F_cycles_void : FuncId := 118
abbrev F_slices_Compare_int_int : FuncId := 119
abbrev F_maps_Copy_map_int_int_map_int_int_int_int : FuncId := 120
abbrev F_maps_Keys_map_int_int_int_int : FuncId := 121
abbrev F_cycles_steps : FuncId := 122
abbrev F_cycles_alone_D1 : FuncId := 123
abbrev F_homographref18_leads : FuncId := 126
abbrev F_cycles_first_D1 : FuncId := 127
abbrev F_cycles_void_D1 : FuncId := 139
abbrev F_cycles_void_D1_D1 : FuncId := 140
abbrev F_cmp_Compare_int : FuncId := 141
abbrev F_maps_Keys_map_int_int_int_int_D1 : FuncId := 142
abbrev F_cmp_isNaN_int : FuncId := 156

/-- homograph/homographlaw18.CyclesTell: loops {}; joins {} -/
def W_homographlaw18_CyclesTell (a0 : Value) (h : Heap) (Q : Value → Heap → Prop) : Prop :=
(callW Try.prog (fn F_homographlaw18_awake) [] h fun v1 h2 =>
(oW (unA .not v1) fun v3 =>
(bW v3
(gcV h Q (.bool false) h2)
(oW (lenStr a0) fun v4 =>
(oW (binN .gtr v4 (.int .i64 80)) fun v5 =>
(bW v5
(gcV h Q (.bool true) h2)
(callW Try.prog (fn F_homographlaw18_made) [a0] h2 fun v6 h7 =>
(letH (h7 ++ [.row [(.slice none 0 0), (.int .i64 0), (.slice none 0 0), (.slice none 0 0), (.int .i64 0)] .exact]) fun h8 =>
(sW (stW 5 h8 (.pointer (some ⟨h7.length, 0, none⟩)) v6) fun h9 =>
(callW Try.prog (fn F_homographref16_Make) [a0] h9 fun v10 h11 =>
(letH (h11 ++ [.row [(.slice none 0 0), (.int .i64 0), (.slice none 0 0), (.slice none 0 0), (.int .i64 0)] .exact]) fun h12 =>
(sW (stW 5 h12 (.pointer (some ⟨h11.length, 0, none⟩)) v10) fun h13 =>
(oW (ldW true 5 h13 (.pointer (some ⟨h7.length, 0, none⟩))) fun v14 =>
(oW (ldW true 5 h13 (.pointer (some ⟨h11.length, 0, none⟩))) fun v15 =>
(callW Try.prog (fn F_cycles_Alone) [v14] h13 fun v16 h17 =>
(keptW [(.pointer (some ⟨h11.length, 0, none⟩)), (.pointer (some ⟨h7.length, 0, none⟩))] h13 h17 ∧
(callW Try.prog (fn F_homographref18_Alone) [v15] h17 fun v18 h19 =>
(keptW [(.pointer (some ⟨h11.length, 0, none⟩)), (.pointer (some ⟨h7.length, 0, none⟩))] h17 h19 ∧
(callW Try.prog (fn F_homographref18_Same) [v16, v18] h19 fun v20 h21 =>
(keptW [(.pointer (some ⟨h11.length, 0, none⟩)), (.pointer (some ⟨h7.length, 0, none⟩))] h19 h21 ∧
(bW v20
(oW (ldW true 5 h21 (.pointer (some ⟨h7.length, 0, none⟩))) fun v22 =>
(oW (ldW true 5 h21 (.pointer (some ⟨h11.length, 0, none⟩))) fun v23 =>
(callW Try.prog (fn F_cycles_Cyclic) [v22] h21 fun v24 h25 =>
(keptW [(.pointer (some ⟨h11.length, 0, none⟩)), (.pointer (some ⟨h7.length, 0, none⟩)), (.pointer (some ⟨h11.length, 0, none⟩)), (.pointer (some ⟨h7.length, 0, none⟩))] h21 h25 ∧
(callW Try.prog (fn F_homographref18_Cyclic) [v23] h25 fun v26 h27 =>
(keptW [(.pointer (some ⟨h11.length, 0, none⟩)), (.pointer (some ⟨h7.length, 0, none⟩)), (.pointer (some ⟨h11.length, 0, none⟩)), (.pointer (some ⟨h7.length, 0, none⟩))] h25 h27 ∧
(callW Try.prog (fn F_homographref17_Bools) [v24, v26] h27 fun v28 h29 =>
(keptW [(.pointer (some ⟨h11.length, 0, none⟩)), (.pointer (some ⟨h7.length, 0, none⟩)), (.pointer (some ⟨h11.length, 0, none⟩)), (.pointer (some ⟨h7.length, 0, none⟩))] h27 h29 ∧
(bW v28
(oW (ldW true 5 h29 (.pointer (some ⟨h7.length, 0, none⟩))) fun v30 =>
(oW (ldW true 5 h29 (.pointer (some ⟨h11.length, 0, none⟩))) fun v31 =>
(callW Try.prog (fn F_cycles_Left) [v30] h29 fun v32 h33 =>
(keptW [(.pointer (some ⟨h11.length, 0, none⟩)), (.pointer (some ⟨h7.length, 0, none⟩)), (.pointer (some ⟨h11.length, 0, none⟩)), (.pointer (some ⟨h7.length, 0, none⟩)), (.pointer (some ⟨h11.length, 0, none⟩)), (.pointer (some ⟨h7.length, 0, none⟩))] h29 h33 ∧
(callW Try.prog (fn F_homographref18_Left) [v31] h33 fun v34 h35 =>
(keptW [(.pointer (some ⟨h11.length, 0, none⟩)), (.pointer (some ⟨h7.length, 0, none⟩)), (.pointer (some ⟨h11.length, 0, none⟩)), (.pointer (some ⟨h7.length, 0, none⟩)), (.pointer (some ⟨h11.length, 0, none⟩)), (.pointer (some ⟨h7.length, 0, none⟩))] h33 h35 ∧
(callW Try.prog (fn F_homographref17_Bools) [v32, v34] h35 fun v36 h37 =>
(keptW [(.pointer (some ⟨h11.length, 0, none⟩)), (.pointer (some ⟨h7.length, 0, none⟩)), (.pointer (some ⟨h11.length, 0, none⟩)), (.pointer (some ⟨h7.length, 0, none⟩)), (.pointer (some ⟨h11.length, 0, none⟩)), (.pointer (some ⟨h7.length, 0, none⟩))] h35 h37 ∧
(bW v36
(oW (ldW true 5 h37 (.pointer (some ⟨h7.length, 0, none⟩))) fun v38 =>
(oW (ldW true 5 h37 (.pointer (some ⟨h11.length, 0, none⟩))) fun v39 =>
(callW Try.prog (fn F_cycles_Hidden) [v38] h37 fun v40 h41 =>
(keptW [(.pointer (some ⟨h11.length, 0, none⟩)), (.pointer (some ⟨h7.length, 0, none⟩)), (.pointer (some ⟨h11.length, 0, none⟩)), (.pointer (some ⟨h7.length, 0, none⟩)), (.pointer (some ⟨h11.length, 0, none⟩)), (.pointer (some ⟨h7.length, 0, none⟩)), (.pointer (some ⟨h11.length, 0, none⟩)), (.pointer (some ⟨h7.length, 0, none⟩))] h37 h41 ∧
(callW Try.prog (fn F_homographref18_Hidden) [v39] h41 fun v42 h43 =>
(keptW [(.pointer (some ⟨h11.length, 0, none⟩)), (.pointer (some ⟨h7.length, 0, none⟩)), (.pointer (some ⟨h11.length, 0, none⟩)), (.pointer (some ⟨h7.length, 0, none⟩)), (.pointer (some ⟨h11.length, 0, none⟩)), (.pointer (some ⟨h7.length, 0, none⟩)), (.pointer (some ⟨h11.length, 0, none⟩)), (.pointer (some ⟨h7.length, 0, none⟩))] h41 h43 ∧
(callW Try.prog (fn F_homographref17_Bools) [v40, v42] h43 fun v44 h45 =>
(keptW [(.pointer (some ⟨h11.length, 0, none⟩)), (.pointer (some ⟨h7.length, 0, none⟩)), (.pointer (some ⟨h11.length, 0, none⟩)), (.pointer (some ⟨h7.length, 0, none⟩)), (.pointer (some ⟨h11.length, 0, none⟩)), (.pointer (some ⟨h7.length, 0, none⟩)), (.pointer (some ⟨h11.length, 0, none⟩)), (.pointer (some ⟨h7.length, 0, none⟩))] h43 h45 ∧
(gcV h Q v44 h45)))))))))
(gcV h Q (.bool false) h37))))))))))
(gcV h Q (.bool false) h29))))))))))
(gcV h Q (.bool false) h21))))))))))))))))))))))
theorem W_homographlaw18_CyclesTell_eq (a0 : Value) (h : Heap) (Q : Value → Heap → Prop) : fW Try.prog ⟨[], []⟩ Try.f11 [a0] h Q = W_homographlaw18_CyclesTell a0 h Q := by kernel_rfl
theorem W_homographlaw18_CyclesTell_ok {a0 : Value} {h : Heap} {Q : Value → Heap → Prop} (e : W_homographlaw18_CyclesTell a0 h Q) : acall Try.prog F_homographlaw18_CyclesTell [a0] h Q :=
  by refine acall_of_fW mixed ⟨[], []⟩ Try.func11 (by kernel_rfl) ?_; rw [W_homographlaw18_CyclesTell_eq]; exact e

/-- homograph/homographlaw18.awake: loops {}; joins {} -/
def W_homographlaw18_awake (h : Heap) (Q : Value → Heap → Prop) : Prop :=
(hW (bslW h 3 [(.string ⟨#[]⟩), (.string ⟨#[]⟩), (.string ⟨#[]⟩)] [(0, 1, (.string ⟨#[97]⟩)), (1, 1, (.string ⟨#[83]⟩)), (2, 1, (.string ⟨#[84]⟩))]) fun v1 h2 =>
(hW (bslW h2 1 [(.int .i64 0)] [(0, 1, (.int .i64 0))]) fun v3 h4 =>
(hW (bslW h4 2 [(.int .i64 0), (.int .i64 0)] [(0, 1, (.int .i64 1)), (1, 1, (.int .i64 1))]) fun v5 h6 =>
(hW (bslW h6 3 [(.int .i64 0), (.int .i64 0), (.int .i64 0)] [(0, 1, (.int .i64 1)), (1, 1, (.int .i64 2)), (2, 1, (.int .i64 0))]) fun v7 h8 =>
(hW (bslW h8 1 [(.int .i64 0)] [(0, 1, (.int .i64 2))]) fun v9 h10 =>
(hW (bslW h10 3 [(.slice none 0 0), (.slice none 0 0), (.slice none 0 0)] [(0, 1, v5), (1, 1, v7), (2, 1, v9)]) fun v11 h12 =>
(oW (bldW [(.slice none 0 0), (.int .i64 0), (.slice none 0 0), (.slice none 0 0), (.int .i64 0)] [(0, 1, v1), (1, 1, (.int .i64 1)), (2, 1, v3), (3, 1, v11), (4, 1, (.int .i64 1))]) fun v13 =>
(letH (h12 ++ [.row [(.slice none 0 0), (.int .i64 0), (.slice none 0 0), (.slice none 0 0), (.int .i64 0)] .exact]) fun h14 =>
(sW (stW 5 h14 (.pointer (some ⟨h12.length, 0, none⟩)) v13) fun h15 =>
(oW (ldW true 5 h15 (.pointer (some ⟨h12.length, 0, none⟩))) fun v16 =>
(callW Try.prog (fn F_cycles_Cyclic) [v16] h15 fun v17 h18 =>
(hW (bslW h18 3 [(.bool false), (.bool false), (.bool false)] [(0, 1, (.bool false)), (1, 1, (.bool true)), (2, 1, (.bool false))]) fun v19 h20 =>
(callW Try.prog (fn F_homographref17_Bools) [v17, v19] h20 fun v21 h22 =>
(bW v21
(oW (ldW true 5 h22 (.pointer (some ⟨h12.length, 0, none⟩))) fun v23 =>
(callW Try.prog (fn F_cycles_Left) [v23] h22 fun v24 h25 =>
(hW (bslW h25 3 [(.bool false), (.bool false), (.bool false)] [(0, 1, (.bool false)), (1, 1, (.bool true)), (2, 1, (.bool false))]) fun v26 h27 =>
(callW Try.prog (fn F_homographref17_Bools) [v24, v26] h27 fun v28 h29 =>
(bW v28
(oW (ldW true 5 h29 (.pointer (some ⟨h12.length, 0, none⟩))) fun v30 =>
(callW Try.prog (fn F_cycles_Hidden) [v30] h29 fun v31 h32 =>
(hW (bslW h32 3 [(.bool false), (.bool false), (.bool false)] [(0, 1, (.bool false)), (1, 1, (.bool false)), (2, 1, (.bool false))]) fun v33 h34 =>
(callW Try.prog (fn F_homographref17_Bools) [v31, v33] h34 fun v35 h36 =>
(bW v35
(oW (ldW true 5 h36 (.pointer (some ⟨h12.length, 0, none⟩))) fun v37 =>
(callW Try.prog (fn F_cycles_Chain) [v37, (.int .i64 1)] h36 fun v38 h39 =>
(hW (bslW h39 1 [(.int .i64 0)] [(0, 1, (.int .i64 0))]) fun v40 h41 =>
(callW Try.prog (fn F_homographref04_Same) [v38, v40] h41 fun v42 h43 =>
(bW v42
(oW (ldW true 5 h43 (.pointer (some ⟨h12.length, 0, none⟩))) fun v44 =>
(callW Try.prog (fn F_cycles_Chain) [v44, (.int .i64 2)] h43 fun v45 h46 =>
(oW (lenS v45) fun v47 =>
(oW (binN .eql v47 (.int .i64 0)) fun v48 =>
(bW v48
(oW (ldW true 5 h46 (.pointer (some ⟨h12.length, 0, none⟩))) fun v49 =>
(callW Try.prog (fn F_cycles_Alone) [v49] h46 fun v50 h51 =>
(oW (iaS 1 v50 (.int .i64 1)) fun v52 =>
(oW (ldW false 1 h51 v52) fun v53 =>
(oW (iaS 1 v53 (.int .i64 1)) fun v54 =>
(oW (ldW false 1 h51 v54) fun v55 =>
(bW v55
(oW (ldW true 5 h51 (.pointer (some ⟨h12.length, 0, none⟩))) fun v56 =>
(callW Try.prog (fn F_cycles_Alone) [v56] h51 fun v57 h58 =>
(oW (iaS 1 v57 (.int .i64 1)) fun v59 =>
(oW (ldW false 1 h58 v59) fun v60 =>
(oW (iaS 1 v60 (.int .i64 2)) fun v61 =>
(oW (ldW false 1 h58 v61) fun v62 =>
(oW (unA .not v62) fun v63 =>
(gcV h Q v63 h58))))))))
(gcV h Q (.bool false) h51))))))))
(gcV h Q (.bool false) h46))))))
(gcV h Q (.bool false) h43))))))
(gcV h Q (.bool false) h36))))))
(gcV h Q (.bool false) h29))))))
(gcV h Q (.bool false) h22)))))))))))))))
theorem W_homographlaw18_awake_eq (h : Heap) (Q : Value → Heap → Prop) : fW Try.prog ⟨[], []⟩ Try.f43 [] h Q = W_homographlaw18_awake  h Q := by kernel_rfl
theorem W_homographlaw18_awake_ok {h : Heap} {Q : Value → Heap → Prop} (e : W_homographlaw18_awake  h Q) : acall Try.prog F_homographlaw18_awake [] h Q :=
  by refine acall_of_fW mixed ⟨[], []⟩ Try.func43 (by kernel_rfl) ?_; rw [W_homographlaw18_awake_eq]; exact e

/-- homograph/homographlaw18.made: loops {}; joins {} -/
def W_homographlaw18_made (a0 : Value) (h : Heap) (Q : Value → Heap → Prop) : Prop :=
(letH (h ++ [.row [(.slice none 0 0), (.int .i64 0), (.slice none 0 0), (.slice none 0 0), (.int .i64 0)] .exact]) fun h1 =>
(callW Try.prog (fn F_homographref16_Make) [a0] h1 fun v2 h3 =>
(letH (h3 ++ [.row [(.slice none 0 0), (.int .i64 0), (.slice none 0 0), (.slice none 0 0), (.int .i64 0)] .exact]) fun h4 =>
(sW (stW 5 h4 (.pointer (some ⟨h3.length, 0, none⟩)) v2) fun h5 =>
(oW (faW 0 1 (.pointer (some ⟨h3.length, 0, none⟩))) fun v6 =>
(oW (ldW false 1 h5 v6) fun v7 =>
(oW (faW 1 1 (.pointer (some ⟨h3.length, 0, none⟩))) fun v8 =>
(oW (ldW false 1 h5 v8) fun v9 =>
(oW (faW 2 1 (.pointer (some ⟨h3.length, 0, none⟩))) fun v10 =>
(oW (ldW false 1 h5 v10) fun v11 =>
(oW (faW 3 1 (.pointer (some ⟨h3.length, 0, none⟩))) fun v12 =>
(oW (ldW false 1 h5 v12) fun v13 =>
(oW (faW 4 1 (.pointer (some ⟨h3.length, 0, none⟩))) fun v14 =>
(oW (ldW false 1 h5 v14) fun v15 =>
(oW (bldW [(.slice none 0 0), (.int .i64 0), (.slice none 0 0), (.slice none 0 0), (.int .i64 0)] [(0, 1, v7), (1, 1, v9), (2, 1, v11), (3, 1, v13), (4, 1, v15)]) fun v16 =>
(sW (stW 5 h5 (.pointer (some ⟨h.length, 0, none⟩)) v16) fun h17 =>
(oW (ldP true 5 h17 (.pointer (some ⟨h.length, 0, none⟩))) fun v18 =>
(gcV h Q v18 h17))))))))))))))))))
theorem W_homographlaw18_made_eq (a0 : Value) (h : Heap) (Q : Value → Heap → Prop) : fW Try.prog ⟨[], []⟩ Try.f44 [a0] h Q = W_homographlaw18_made a0 h Q := by kernel_rfl
theorem W_homographlaw18_made_ok {a0 : Value} {h : Heap} {Q : Value → Heap → Prop} (e : W_homographlaw18_made a0 h Q) : acall Try.prog F_homographlaw18_made [a0] h Q :=
  by refine acall_of_fW mixed ⟨[], []⟩ Try.func44 (by kernel_rfl) ?_; rw [W_homographlaw18_made_eq]; exact e

/-- homograph/homographref18.Same: loops {4: [0, 1, 5]}; joins {} -/
def W_homographref18_Same (a0 a1 : Value) (h : Heap) (Q : Value → Heap → Prop) : Prop :=
(oW (lenS a0) fun v1 =>
(oW (lenS a1) fun v2 =>
(oW (binN .neq v1 v2) fun v3 =>
(bW v3
(gcV h Q (.bool false) h)
(∃ (I4 : Nat → List Value → Heap → Prop) (k5 : Nat), gcL h (I4 k5) [a0, a1, (.int .i64 0)] h ∧
∀ k7 : Nat, ∀ x8 : Value, ∀ x9 : Value, ∀ x10 : Value, ∀ h11, I4 k7 [x8, x9, x10] h11 →
(oW (lenS x8) fun v12 =>
(oW (binN .lss x10 v12) fun v13 =>
(bW v13
(oW (iaS 1 x8 x10) fun v14 =>
(oW (ldW false 1 h11 v14) fun v15 =>
(oW (iaS 1 x9 x10) fun v16 =>
(oW (ldW false 1 h11 v16) fun v17 =>
(callW Try.prog (fn F_homographref17_Bools) [v15, v17] h11 fun v18 h19 =>
(oW (unA .not v18) fun v20 =>
(bW v20
(gcV h Q (.bool false) h19)
(oW (binN .add x10 (.int .i64 1)) fun v21 =>
(∃ m6, m6 < k7 ∧ gcL h (I4 m6) [x8, x9, v21] h19)))))))))
(gcV h Q (.bool true) h11)))))))))
theorem W_homographref18_Same_eq (a0 a1 : Value) (h : Heap) (Q : Value → Heap → Prop) : fW Try.prog ⟨[(4, [0, 1, 5])], []⟩ Try.f45 [a0, a1] h Q = W_homographref18_Same a0 a1 h Q := by kernel_rfl
theorem W_homographref18_Same_ok {a0 a1 : Value} {h : Heap} {Q : Value → Heap → Prop} (e : W_homographref18_Same a0 a1 h Q) : acall Try.prog F_homographref18_Same [a0, a1] h Q :=
  by refine acall_of_fW mixed ⟨[(4, [0, 1, 5])], []⟩ Try.func45 (by kernel_rfl) ?_; rw [W_homographref18_Same_eq]; exact e

/-- homograph/cycles.Alone: loops {}; joins {} -/
def W_cycles_Alone (a0 : Value) (h : Heap) (Q : Value → Heap → Prop) : Prop :=
(hW (boxA h a0) fun v1 h2 =>
(oW (ldW true 5 h2 v1) fun v3 =>
(callW Try.prog (fn F_cycles_right) [v3] h2 fun v4 h5 =>
(oW (unA .not v4) fun v6 =>
(bW v6
(gcV h Q (.slice none 0 0) h5)
(oW (ldW true 5 h5 v1) fun v7 =>
(callW Try.prog (fn F_cycles_alone) [v7] h5 fun v8 h9 =>
(callW Try.prog (fn F_cycles_table_bool_close) [v8] h9 fun v10 h11 =>
(gcV h Q v10 h11)))))))))
theorem W_cycles_Alone_eq (a0 : Value) (h : Heap) (Q : Value → Heap → Prop) : fW Try.prog ⟨[], []⟩ Try.f46 [a0] h Q = W_cycles_Alone a0 h Q := by kernel_rfl
theorem W_cycles_Alone_ok {a0 : Value} {h : Heap} {Q : Value → Heap → Prop} (e : W_cycles_Alone a0 h Q) : acall Try.prog F_cycles_Alone [a0] h Q :=
  by refine acall_of_fW mixed ⟨[], []⟩ Try.func46 (by kernel_rfl) ?_; rw [W_cycles_Alone_eq]; exact e

/-- homograph/homographref18.Alone: loops {}; joins {} -/
def W_homographref18_Alone (a0 : Value) (h : Heap) (Q : Value → Heap → Prop) : Prop :=
(hW (boxA h a0) fun v1 h2 =>
(oW (ldW true 5 h2 v1) fun v3 =>
(callW Try.prog (fn F_homographref16_Check) [v3] h2 fun v4 h5 =>
(oW (binN .neq v4 (.int .i64 0)) fun v6 =>
(bW v6
(gcV h Q (.slice none 0 0) h5)
(oW (ldW true 5 h5 v1) fun v7 =>
(callW Try.prog (fn F_homographref18_table) [v7, (.int .i64 0)] h5 fun v8 h9 =>
(callW Try.prog (fn F_homographref18_closed) [v8] h9 fun v10 h11 =>
(gcV h Q v10 h11)))))))))
theorem W_homographref18_Alone_eq (a0 : Value) (h : Heap) (Q : Value → Heap → Prop) : fW Try.prog ⟨[], []⟩ Try.f47 [a0] h Q = W_homographref18_Alone a0 h Q := by kernel_rfl
theorem W_homographref18_Alone_ok {a0 : Value} {h : Heap} {Q : Value → Heap → Prop} (e : W_homographref18_Alone a0 h Q) : acall Try.prog F_homographref18_Alone [a0] h Q :=
  by refine acall_of_fW mixed ⟨[], []⟩ Try.func47 (by kernel_rfl) ?_; rw [W_homographref18_Alone_eq]; exact e

/-- homograph/cycles.Cyclic: loops {}; joins {} -/
def W_cycles_Cyclic (a0 : Value) (h : Heap) (Q : Value → Heap → Prop) : Prop :=
(hW (boxA h a0) fun v1 h2 =>
(oW (ldW true 5 h2 v1) fun v3 =>
(callW Try.prog (fn F_cycles_Alone) [v3] h2 fun v4 h5 =>
(callW Try.prog (fn F_cycles_table_bool_own) [v4] h5 fun v6 h7 =>
(gcV h Q v6 h7)))))
theorem W_cycles_Cyclic_eq (a0 : Value) (h : Heap) (Q : Value → Heap → Prop) : fW Try.prog ⟨[], []⟩ Try.f48 [a0] h Q = W_cycles_Cyclic a0 h Q := by kernel_rfl
theorem W_cycles_Cyclic_ok {a0 : Value} {h : Heap} {Q : Value → Heap → Prop} (e : W_cycles_Cyclic a0 h Q) : acall Try.prog F_cycles_Cyclic [a0] h Q :=
  by refine acall_of_fW mixed ⟨[], []⟩ Try.func48 (by kernel_rfl) ?_; rw [W_cycles_Cyclic_eq]; exact e

/-- homograph/homographref18.Cyclic: loops {}; joins {} -/
def W_homographref18_Cyclic (a0 : Value) (h : Heap) (Q : Value → Heap → Prop) : Prop :=
(hW (boxA h a0) fun v1 h2 =>
(oW (ldW true 5 h2 v1) fun v3 =>
(callW Try.prog (fn F_homographref18_Alone) [v3] h2 fun v4 h5 =>
(callW Try.prog (fn F_homographref18_own) [v4] h5 fun v6 h7 =>
(gcV h Q v6 h7)))))
theorem W_homographref18_Cyclic_eq (a0 : Value) (h : Heap) (Q : Value → Heap → Prop) : fW Try.prog ⟨[], []⟩ Try.f49 [a0] h Q = W_homographref18_Cyclic a0 h Q := by kernel_rfl
theorem W_homographref18_Cyclic_ok {a0 : Value} {h : Heap} {Q : Value → Heap → Prop} (e : W_homographref18_Cyclic a0 h Q) : acall Try.prog F_homographref18_Cyclic [a0] h Q :=
  by refine acall_of_fW mixed ⟨[], []⟩ Try.func49 (by kernel_rfl) ?_; rw [W_homographref18_Cyclic_eq]; exact e

/-- homograph/cycles.Left: loops {}; joins {} -/
def W_cycles_Left (a0 : Value) (h : Heap) (Q : Value → Heap → Prop) : Prop :=
(hW (boxA h a0) fun v1 h2 =>
(oW (ldW true 5 h2 v1) fun v3 =>
(callW Try.prog (fn F_cycles_right) [v3] h2 fun v4 h5 =>
(oW (unA .not v4) fun v6 =>
(bW v6
(gcV h Q (.slice none 0 0) h5)
(oW (ldW true 5 h5 v1) fun v7 =>
(callW Try.prog (fn F_cycles_first) [v7, (.int .i64 0)] h5 fun v8 h9 =>
(callW Try.prog (fn F_cycles_table_bool_close) [v8] h9 fun v10 h11 =>
(callW Try.prog (fn F_cycles_table_bool_own) [v10] h11 fun v12 h13 =>
(gcV h Q v12 h13))))))))))
theorem W_cycles_Left_eq (a0 : Value) (h : Heap) (Q : Value → Heap → Prop) : fW Try.prog ⟨[], []⟩ Try.f50 [a0] h Q = W_cycles_Left a0 h Q := by kernel_rfl
theorem W_cycles_Left_ok {a0 : Value} {h : Heap} {Q : Value → Heap → Prop} (e : W_cycles_Left a0 h Q) : acall Try.prog F_cycles_Left [a0] h Q :=
  by refine acall_of_fW mixed ⟨[], []⟩ Try.func50 (by kernel_rfl) ?_; rw [W_cycles_Left_eq]; exact e

/-- homograph/homographref18.Left: loops {}; joins {} -/
def W_homographref18_Left (a0 : Value) (h : Heap) (Q : Value → Heap → Prop) : Prop :=
(hW (boxA h a0) fun v1 h2 =>
(oW (ldW true 5 h2 v1) fun v3 =>
(callW Try.prog (fn F_homographref16_Check) [v3] h2 fun v4 h5 =>
(oW (binN .neq v4 (.int .i64 0)) fun v6 =>
(bW v6
(gcV h Q (.slice none 0 0) h5)
(oW (ldW true 5 h5 v1) fun v7 =>
(callW Try.prog (fn F_homographref18_table) [v7, (.int .i64 1)] h5 fun v8 h9 =>
(callW Try.prog (fn F_homographref18_closed) [v8] h9 fun v10 h11 =>
(callW Try.prog (fn F_homographref18_own) [v10] h11 fun v12 h13 =>
(gcV h Q v12 h13))))))))))
theorem W_homographref18_Left_eq (a0 : Value) (h : Heap) (Q : Value → Heap → Prop) : fW Try.prog ⟨[], []⟩ Try.f51 [a0] h Q = W_homographref18_Left a0 h Q := by kernel_rfl
theorem W_homographref18_Left_ok {a0 : Value} {h : Heap} {Q : Value → Heap → Prop} (e : W_homographref18_Left a0 h Q) : acall Try.prog F_homographref18_Left [a0] h Q :=
  by refine acall_of_fW mixed ⟨[], []⟩ Try.func51 (by kernel_rfl) ?_; rw [W_homographref18_Left_eq]; exact e

/-- homograph/cycles.Hidden: loops {20: [3, 6, 9, 84, 85], 10: [3, 4, 5, 6, 7, 24, 25, 28, 29], 7: [3, 4, 5, 6, 24, 25]}; joins {} -/
def W_cycles_Hidden (a0 : Value) (h : Heap) (Q : Value → Heap → Prop) : Prop :=
(hW (boxA h a0) fun v1 h2 =>
(oW (ldW true 5 h2 v1) fun v3 =>
(callW Try.prog (fn F_cycles_right) [v3] h2 fun v4 h5 =>
(oW (unA .not v4) fun v6 =>
(bW v6
(gcV h Q (.slice none 0 0) h5)
(oW (faW 0 1 v1) fun v7 =>
(oW (ldW false 1 h5 v7) fun v8 =>
(oW (lenS v8) fun v9 =>
(oW (ldW true 5 h5 v1) fun v10 =>
(oW (ldW true 5 h5 v1) fun v11 =>
(callW Try.prog (fn F_cycles_first) [v10, (.int .i64 0)] h5 fun v12 h13 =>
(keptW [v1, v1] h5 h13 ∧
(callW Try.prog (fn F_cycles_first) [v11, (.int .i64 1)] h13 fun v14 h15 =>
(keptW [v1, v1] h13 h15 ∧
(oW (binN .mul (.int .i64 2) v9) fun v16 =>
(callW Try.prog (fn F_cycles_blank_bool) [v16] h15 fun v17 h18 =>
(∃ (I19 : Nat → List Value → Heap → Prop) (k20 : Nat), gcL h (I19 k20) [v9, v12, v14, v17, v9, (.int .i64 0)] h18 ∧
∀ k22 : Nat, ∀ x23 : Value, ∀ x24 : Value, ∀ x25 : Value, ∀ x26 : Value, ∀ x27 : Value, ∀ x28 : Value, ∀ h29, I19 k22 [x23, x24, x25, x26, x27, x28] h29 →
(oW (binN .lss x28 x27) fun v30 =>
(bW v30
(∃ (I31 : Nat → List Value → Heap → Prop) (k32 : Nat), gcL h (I31 k32) [x23, x24, x25, x26, x28, x27, x28, x23, (.int .i64 0)] h29 ∧
∀ k34 : Nat, ∀ x35 : Value, ∀ x36 : Value, ∀ x37 : Value, ∀ x38 : Value, ∀ x39 : Value, ∀ x40 : Value, ∀ x41 : Value, ∀ x42 : Value, ∀ x43 : Value, ∀ h44, I31 k34 [x35, x36, x37, x38, x39, x40, x41, x42, x43] h44 →
(oW (binN .lss x43 x42) fun v45 =>
(bW v45
(oW (iaS 1 x38 x39) fun v46 =>
(oW (ldW false 1 h44 v46) fun v47 =>
(oW (iaS 1 x36 x39) fun v48 =>
(oW (ldW false 1 h44 v48) fun v49 =>
(oW (iaS 1 v49 x43) fun v50 =>
(oW (ldW false 1 h44 v50) fun v51 =>
(oW (iaS 1 v47 x43) fun v52 =>
(sW (stW 1 h44 v52 v51) fun h53 =>
(oW (binN .add x35 x39) fun v54 =>
(oW (iaS 1 x38 v54) fun v55 =>
(oW (ldW false 1 h53 v55) fun v56 =>
(oW (binN .add x35 x43) fun v57 =>
(oW (iaS 1 x36 x39) fun v58 =>
(oW (ldW false 1 h53 v58) fun v59 =>
(oW (iaS 1 v59 x43) fun v60 =>
(oW (ldW false 1 h53 v60) fun v61 =>
(oW (iaS 1 v56 v57) fun v62 =>
(sW (stW 1 h53 v62 v61) fun h63 =>
(oW (iaS 1 x38 x39) fun v64 =>
(oW (ldW false 1 h63 v64) fun v65 =>
(oW (binN .add x35 x43) fun v66 =>
(oW (iaS 1 x37 x39) fun v67 =>
(oW (ldW false 1 h63 v67) fun v68 =>
(oW (iaS 1 v68 x43) fun v69 =>
(oW (ldW false 1 h63 v69) fun v70 =>
(oW (iaS 1 v65 v66) fun v71 =>
(sW (stW 1 h63 v71 v70) fun h72 =>
(oW (binN .add x43 (.int .i64 1)) fun v73 =>
(∃ m33, m33 < k34 ∧ gcL h (I31 m33) [x35, x36, x37, x38, x39, x40, x41, x42, v73] h72)))))))))))))))))))))))))))))
(oW (binN .add x41 (.int .i64 1)) fun v74 =>
(∃ m21, m21 < k22 ∧ gcL h (I19 m21) [x35, x36, x37, x38, x40, v74] h44)))))
(callW Try.prog (fn F_cycles_table_bool_close) [x26] h29 fun v75 h76 =>
(hW (mksW [(.bool false)] 1 h76 x23 x23) fun v77 h78 =>
(oW (lenS v77) fun v79 =>
(∃ (I80 : Nat → List Value → Heap → Prop) (k81 : Nat), gcL h (I80 k81) [x23, x26, v77, v79, (.int .i64 0)] h78 ∧
∀ k83 : Nat, ∀ x84 : Value, ∀ x85 : Value, ∀ x86 : Value, ∀ x87 : Value, ∀ x88 : Value, ∀ h89, I80 k83 [x84, x85, x86, x87, x88] h89 →
(oW (binN .lss x88 x87) fun v90 =>
(bW v90
(oW (iaS 1 x85 x88) fun v91 =>
(oW (ldW false 1 h89 v91) fun v92 =>
(oW (binN .add x84 x88) fun v93 =>
(oW (iaS 1 v92 v93) fun v94 =>
(oW (ldW false 1 h89 v94) fun v95 =>
(oW (iaS 1 x86 x88) fun v96 =>
(sW (stW 1 h89 v96 v95) fun h97 =>
(oW (binN .add x88 (.int .i64 1)) fun v98 =>
(∃ m82, m82 < k83 ∧ gcL h (I80 m82) [x84, x85, x86, x87, v98] h97)))))))))
(gcV h Q x86 h89))))))))))))))))))))))))))
theorem W_cycles_Hidden_eq (a0 : Value) (h : Heap) (Q : Value → Heap → Prop) : fW Try.prog ⟨[(20, [3, 6, 9, 84, 85]), (10, [3, 4, 5, 6, 7, 24, 25, 28, 29]), (7, [3, 4, 5, 6, 24, 25])], []⟩ Try.f52 [a0] h Q = W_cycles_Hidden a0 h Q := by kernel_rfl
theorem W_cycles_Hidden_ok {a0 : Value} {h : Heap} {Q : Value → Heap → Prop} (e : W_cycles_Hidden a0 h Q) : acall Try.prog F_cycles_Hidden [a0] h Q :=
  by refine acall_of_fW mixed ⟨[(20, [3, 6, 9, 84, 85]), (10, [3, 4, 5, 6, 7, 24, 25, 28, 29]), (7, [3, 4, 5, 6, 24, 25])], []⟩ Try.func52 (by kernel_rfl) ?_; rw [W_cycles_Hidden_eq]; exact e

/-- homograph/homographref18.Hidden: loops {14: [3, 4, 5, 6, 7, 8, 9], 11: [3, 4, 5, 6, 7, 8], 8: [3, 4, 5, 6, 7]}; joins {} -/
def W_homographref18_Hidden (a0 : Value) (h : Heap) (Q : Value → Heap → Prop) : Prop :=
(hW (boxA h a0) fun v1 h2 =>
(oW (ldW true 5 h2 v1) fun v3 =>
(callW Try.prog (fn F_homographref16_Check) [v3] h2 fun v4 h5 =>
(oW (binN .neq v4 (.int .i64 0)) fun v6 =>
(bW v6
(gcV h Q (.slice none 0 0) h5)
(oW (ldW true 5 h5 v1) fun v7 =>
(callW Try.prog (fn F_homographref18_table) [v7, (.int .i64 1)] h5 fun v8 h9 =>
(callW Try.prog (fn F_homographref18_closed) [v8] h9 fun v10 h11 =>
(oW (ldW true 5 h11 v1) fun v12 =>
(callW Try.prog (fn F_homographref18_table) [v12, (.int .i64 2)] h11 fun v13 h14 =>
(oW (faW 0 1 v1) fun v15 =>
(oW (ldW false 1 h14 v15) fun v16 =>
(oW (lenS v16) fun v17 =>
(hW (mksW [(.bool false)] 1 h14 v17 v17) fun v18 h19 =>
(∃ (I20 : Nat → List Value → Heap → Prop) (k21 : Nat), gcL h (I20 k21) [v10, v13, v17, v18, (.int .i64 0)] h19 ∧
∀ k23 : Nat, ∀ x24 : Value, ∀ x25 : Value, ∀ x26 : Value, ∀ x27 : Value, ∀ x28 : Value, ∀ h29, I20 k23 [x24, x25, x26, x27, x28] h29 →
(oW (binN .lss x28 x26) fun v30 =>
(bW v30
(∃ (I31 : Nat → List Value → Heap → Prop) (k32 : Nat), gcL h (I31 k32) [x24, x25, x26, x27, x28, (.int .i64 0)] h29 ∧
∀ k34 : Nat, ∀ x35 : Value, ∀ x36 : Value, ∀ x37 : Value, ∀ x38 : Value, ∀ x39 : Value, ∀ x40 : Value, ∀ h41, I31 k34 [x35, x36, x37, x38, x39, x40] h41 →
(oW (binN .lss x40 x37) fun v42 =>
(bW v42
(∃ (I43 : Nat → List Value → Heap → Prop) (k44 : Nat), gcL h (I43 k44) [x35, x36, x37, x38, x39, x40, (.int .i64 0)] h41 ∧
∀ k46 : Nat, ∀ x47 : Value, ∀ x48 : Value, ∀ x49 : Value, ∀ x50 : Value, ∀ x51 : Value, ∀ x52 : Value, ∀ x53 : Value, ∀ h54, I43 k46 [x47, x48, x49, x50, x51, x52, x53] h54 →
(oW (binN .lss x53 x49) fun v55 =>
(bW v55
(oW (iaS 1 x48 x52) fun v56 =>
(oW (ldW false 1 h54 v56) fun v57 =>
(oW (iaS 1 v57 x53) fun v58 =>
(oW (ldW false 1 h54 v58) fun v59 =>
(bW v59
(oW (binN .eql x52 x51) fun v60 =>
(bW v60
(bW (.bool true)
(oW (binN .eql x53 x51) fun v61 =>
(bW v61
(bW (.bool true)
(oW (iaS 1 x50 x51) fun v62 =>
(sW (stW 1 h54 v62 (.bool true)) fun h63 =>
(oW (binN .add x53 (.int .i64 1)) fun v64 =>
(∃ m45, m45 < k46 ∧ gcL h (I43 m45) [x47, x48, x49, x50, x51, x52, v64] h63))))
(oW (binN .add x53 (.int .i64 1)) fun v65 =>
(∃ m45, m45 < k46 ∧ gcL h (I43 m45) [x47, x48, x49, x50, x51, x52, v65] h54)))
(oW (iaS 1 x47 x53) fun v66 =>
(oW (ldW false 1 h54 v66) fun v67 =>
(oW (iaS 1 v67 x51) fun v68 =>
(oW (ldW false 1 h54 v68) fun v69 =>
(bW v69
(oW (iaS 1 x50 x51) fun v70 =>
(sW (stW 1 h54 v70 (.bool true)) fun h71 =>
(oW (binN .add x53 (.int .i64 1)) fun v72 =>
(∃ m45, m45 < k46 ∧ gcL h (I43 m45) [x47, x48, x49, x50, x51, x52, v72] h71))))
(oW (binN .add x53 (.int .i64 1)) fun v73 =>
(∃ m45, m45 < k46 ∧ gcL h (I43 m45) [x47, x48, x49, x50, x51, x52, v73] h54)))))))))
(bW (.bool false)
(oW (iaS 1 x50 x51) fun v74 =>
(sW (stW 1 h54 v74 (.bool true)) fun h75 =>
(oW (binN .add x53 (.int .i64 1)) fun v76 =>
(∃ m45, m45 < k46 ∧ gcL h (I43 m45) [x47, x48, x49, x50, x51, x52, v76] h75))))
(oW (binN .add x53 (.int .i64 1)) fun v77 =>
(∃ m45, m45 < k46 ∧ gcL h (I43 m45) [x47, x48, x49, x50, x51, x52, v77] h54))))
(oW (iaS 1 x47 x51) fun v78 =>
(oW (ldW false 1 h54 v78) fun v79 =>
(oW (iaS 1 v79 x52) fun v80 =>
(oW (ldW false 1 h54 v80) fun v81 =>
(bW v81
(oW (binN .eql x53 x51) fun v82 =>
(bW v82
(bW (.bool true)
(oW (iaS 1 x50 x51) fun v83 =>
(sW (stW 1 h54 v83 (.bool true)) fun h84 =>
(oW (binN .add x53 (.int .i64 1)) fun v85 =>
(∃ m45, m45 < k46 ∧ gcL h (I43 m45) [x47, x48, x49, x50, x51, x52, v85] h84))))
(oW (binN .add x53 (.int .i64 1)) fun v86 =>
(∃ m45, m45 < k46 ∧ gcL h (I43 m45) [x47, x48, x49, x50, x51, x52, v86] h54)))
(oW (iaS 1 x47 x53) fun v87 =>
(oW (ldW false 1 h54 v87) fun v88 =>
(oW (iaS 1 v88 x51) fun v89 =>
(oW (ldW false 1 h54 v89) fun v90 =>
(bW v90
(oW (iaS 1 x50 x51) fun v91 =>
(sW (stW 1 h54 v91 (.bool true)) fun h92 =>
(oW (binN .add x53 (.int .i64 1)) fun v93 =>
(∃ m45, m45 < k46 ∧ gcL h (I43 m45) [x47, x48, x49, x50, x51, x52, v93] h92))))
(oW (binN .add x53 (.int .i64 1)) fun v94 =>
(∃ m45, m45 < k46 ∧ gcL h (I43 m45) [x47, x48, x49, x50, x51, x52, v94] h54)))))))))
(bW (.bool false)
(oW (iaS 1 x50 x51) fun v95 =>
(sW (stW 1 h54 v95 (.bool true)) fun h96 =>
(oW (binN .add x53 (.int .i64 1)) fun v97 =>
(∃ m45, m45 < k46 ∧ gcL h (I43 m45) [x47, x48, x49, x50, x51, x52, v97] h96))))
(oW (binN .add x53 (.int .i64 1)) fun v98 =>
(∃ m45, m45 < k46 ∧ gcL h (I43 m45) [x47, x48, x49, x50, x51, x52, v98] h54))))))))))
(bW (.bool false)
(oW (iaS 1 x50 x51) fun v99 =>
(sW (stW 1 h54 v99 (.bool true)) fun h100 =>
(oW (binN .add x53 (.int .i64 1)) fun v101 =>
(∃ m45, m45 < k46 ∧ gcL h (I43 m45) [x47, x48, x49, x50, x51, x52, v101] h100))))
(oW (binN .add x53 (.int .i64 1)) fun v102 =>
(∃ m45, m45 < k46 ∧ gcL h (I43 m45) [x47, x48, x49, x50, x51, x52, v102] h54))))))))
(oW (binN .add x52 (.int .i64 1)) fun v103 =>
(∃ m33, m33 < k34 ∧ gcL h (I31 m33) [x47, x48, x49, x50, x51, v103] h54)))))
(oW (binN .add x39 (.int .i64 1)) fun v104 =>
(∃ m22, m22 < k23 ∧ gcL h (I20 m22) [x35, x36, x37, x38, v104] h41)))))
(gcV h Q x27 h29))))))))))))))))))
theorem W_homographref18_Hidden_eq (a0 : Value) (h : Heap) (Q : Value → Heap → Prop) : fW Try.prog ⟨[(14, [3, 4, 5, 6, 7, 8, 9]), (11, [3, 4, 5, 6, 7, 8]), (8, [3, 4, 5, 6, 7])], []⟩ Try.f53 [a0] h Q = W_homographref18_Hidden a0 h Q := by kernel_rfl
theorem W_homographref18_Hidden_ok {a0 : Value} {h : Heap} {Q : Value → Heap → Prop} (e : W_homographref18_Hidden a0 h Q) : acall Try.prog F_homographref18_Hidden [a0] h Q :=
  by refine acall_of_fW mixed ⟨[(14, [3, 4, 5, 6, 7, 8, 9]), (11, [3, 4, 5, 6, 7, 8]), (8, [3, 4, 5, 6, 7])], []⟩ Try.func53 (by kernel_rfl) ?_; rw [W_homographref18_Hidden_eq]; exact e

/-- homograph/cycles.Chain: loops {16: [1, 2, 5, 6, 8, 10, 12, 13, 37, 38, 39, 45, 46, 47, 57, 58, 59], 12: [1, 2, 5, 6, 8, 10, 37, 38, 39, 45, 46, 47], 9: [1, 2, 5, 6, 8, 37, 38, 39], 6: [1, 2, 5, 6, 7]}; joins {20: [1, 2, 5, 6, 8, 10, 12, 13, 15, 37, 38, 39, 45, 46, 47, 57, 58, 59]} -/
def W_cycles_Chain (a0 a1 : Value) (h : Heap) (Q : Value → Heap → Prop) : Prop :=
(hW (boxA h a0) fun v1 h2 =>
(oW (ldW true 5 h2 v1) fun v3 =>
(callW Try.prog (fn F_cycles_right) [v3] h2 fun v4 h5 =>
(oW (unA .not v4) fun v6 =>
(bW v6
(gcV h Q (.slice none 0 0) h5)
(oW (ldW true 5 h5 v1) fun v7 =>
(callW Try.prog (fn F_cycles_void) [v7] h5 fun v8 h9 =>
(letH (h9 ++ [.map []]) fun h10 =>
(sW (upS (.int .i64) h10 (.map (some h9.length)) a1 (.slice none 0 0)) fun h11 =>
(hW (bslW h11 1 [(.int .i64 0)] [(0, 1, a1)]) fun v12 h13 =>
(∃ (I14 : Nat → List Value → Heap → Prop) (k15 : Nat), gcL h (I14 k15) [a1, v1, v8, (.map (some h9.length)), v12] h13 ∧
∀ k17 : Nat, ∀ x18 : Value, ∀ x19 : Value, ∀ x20 : Value, ∀ x21 : Value, ∀ x22 : Value, ∀ h23, I14 k17 [x18, x19, x20, x21, x22] h23 →
(oW (lenS x22) fun v24 =>
(oW (binN .gtr v24 (.int .i64 0)) fun v25 =>
(bW v25
(letH (h23 ++ [.map []]) fun h26 =>
(oW (lenS x22) fun v27 =>
(∃ (I28 : Nat → List Value → Heap → Prop) (k29 : Nat), gcL h (I28 k29) [x18, x19, x20, x21, (.map (some h23.length)), x22, v27, (.int .i64 0)] h26 ∧
∀ k31 : Nat, ∀ x32 : Value, ∀ x33 : Value, ∀ x34 : Value, ∀ x35 : Value, ∀ x36 : Value, ∀ x37 : Value, ∀ x38 : Value, ∀ x39 : Value, ∀ h40, I28 k31 [x32, x33, x34, x35, x36, x37, x38, x39] h40 →
(oW (binN .lss x39 x38) fun v41 =>
(bW v41
(oW (iaS 1 x37 x39) fun v42 =>
(oW (ldW false 1 h40 v42) fun v43 =>
(oW (ldW true 5 h40 x33) fun v44 =>
(callW Try.prog (fn F_symbols_By) [v44, v43] h40 fun v45 h46 =>
(oW (lenS v45) fun v47 =>
(∃ (I48 : Nat → List Value → Heap → Prop) (k49 : Nat), gcL h (I48 k49) [x32, x33, x34, x35, x36, v43, x37, x38, x39, v45, v47, (.int .i64 0)] h46 ∧
∀ k51 : Nat, ∀ x52 : Value, ∀ x53 : Value, ∀ x54 : Value, ∀ x55 : Value, ∀ x56 : Value, ∀ x57 : Value, ∀ x58 : Value, ∀ x59 : Value, ∀ x60 : Value, ∀ x61 : Value, ∀ x62 : Value, ∀ x63 : Value, ∀ h64, I48 k51 [x52, x53, x54, x55, x56, x57, x58, x59, x60, x61, x62, x63] h64 →
(oW (binN .lss x63 x62) fun v65 =>
(bW v65
(oW (iaS 1 x61 x63) fun v66 =>
(oW (ldW false 1 h64 v66) fun v67 =>
(oW (faW 3 1 x53) fun v68 =>
(oW (ldW false 1 h64 v68) fun v69 =>
(oW (iaS 1 v69 v67) fun v70 =>
(oW (ldW false 1 h64 v70) fun v71 =>
(oW (slS 1 h64 v71 (some (.int .i64 1)) none none) fun v72 =>
(oW (lenS v72) fun v73 =>
(∃ (I74 : Nat → List Value → Heap → Prop) (k75 : Nat), gcL h (I74 k75) [x52, x53, x54, x55, x56, x57, v67, v71, x58, x59, x60, x61, x62, x63, v72, v73, (.int .i64 0)] h64 ∧
∀ k77 : Nat, ∀ x78 : Value, ∀ x79 : Value, ∀ x80 : Value, ∀ x81 : Value, ∀ x82 : Value, ∀ x83 : Value, ∀ x84 : Value, ∀ x85 : Value, ∀ x86 : Value, ∀ x87 : Value, ∀ x88 : Value, ∀ x89 : Value, ∀ x90 : Value, ∀ x91 : Value, ∀ x92 : Value, ∀ x93 : Value, ∀ x94 : Value, ∀ h95, I74 k77 [x78, x79, x80, x81, x82, x83, x84, x85, x86, x87, x88, x89, x90, x91, x92, x93, x94] h95 →
(oW (binN .lss x94 x93) fun v96 =>
(bW v96
(oW (iaS 1 x92 x94) fun v97 =>
(oW (ldW false 1 h95 v97) fun v98 =>
(oW (lkS (.int .i64) (.slice none 0 0) true h95 x81 v98) fun v99 =>
(oW (extractA v99 0) fun v100 =>
(oW (extractA v99 1) fun v101 =>
(∃ M102 : List Value → Heap → Prop,
(bW v101
(oW (binN .neq v98 x78) fun v103 =>
(bW v103
(bW (.bool true)
(oW (binN .add x94 (.int .i64 1)) fun v104 =>
(∃ m76, m76 < k77 ∧ gcL h (I74 m76) [x78, x79, x80, x81, x82, x83, x84, x85, x86, x87, x88, x89, x90, x91, x92, x93, v104] h95))
(gcL h M102 [x78, x79, x80, x81, x82, x83, x84, x85, v98, x86, x87, x88, x89, x90, x91, x92, x93, x94] h95))
(oW (binN .add x94 (.int .i64 1)) fun v105 =>
(oW (slS 1 h95 x85 (some (.int .i64 1)) (some v105) none) fun v106 =>
(callW Try.prog x80 [v106] h95 fun v107 h108 =>
(oW (unA .not v107) fun v109 =>
(bW v109
(bW (.bool true)
(oW (binN .add x94 (.int .i64 1)) fun v110 =>
(∃ m76, m76 < k77 ∧ gcL h (I74 m76) [x78, x79, x80, x81, x82, x83, x84, x85, x86, x87, x88, x89, x90, x91, x92, x93, v110] h108))
(gcL h M102 [x78, x79, x80, x81, x82, x83, x84, x85, v98, x86, x87, x88, x89, x90, x91, x92, x93, x94] h108))
(oW (binN .add x94 (.int .i64 2)) fun v111 =>
(oW (slS 1 h108 x85 (some v111) none none) fun v112 =>
(callW Try.prog x80 [v112] h108 fun v113 h114 =>
(oW (unA .not v113) fun v115 =>
(bW v115
(oW (binN .add x94 (.int .i64 1)) fun v116 =>
(∃ m76, m76 < k77 ∧ gcL h (I74 m76) [x78, x79, x80, x81, x82, x83, x84, x85, x86, x87, x88, x89, x90, x91, x92, x93, v116] h114))
(gcL h M102 [x78, x79, x80, x81, x82, x83, x84, x85, v98, x86, x87, x88, x89, x90, x91, x92, x93, x94] h114)))))))))))))
(oW (binN .add x94 (.int .i64 1)) fun v117 =>
(oW (slS 1 h95 x85 (some (.int .i64 1)) (some v117) none) fun v118 =>
(callW Try.prog x80 [v118] h95 fun v119 h120 =>
(oW (unA .not v119) fun v121 =>
(bW v121
(bW (.bool true)
(oW (binN .add x94 (.int .i64 1)) fun v122 =>
(∃ m76, m76 < k77 ∧ gcL h (I74 m76) [x78, x79, x80, x81, x82, x83, x84, x85, x86, x87, x88, x89, x90, x91, x92, x93, v122] h120))
(gcL h M102 [x78, x79, x80, x81, x82, x83, x84, x85, v98, x86, x87, x88, x89, x90, x91, x92, x93, x94] h120))
(oW (binN .add x94 (.int .i64 2)) fun v123 =>
(oW (slS 1 h120 x85 (some v123) none none) fun v124 =>
(callW Try.prog x80 [v124] h120 fun v125 h126 =>
(oW (unA .not v125) fun v127 =>
(bW v127
(oW (binN .add x94 (.int .i64 1)) fun v128 =>
(∃ m76, m76 < k77 ∧ gcL h (I74 m76) [x78, x79, x80, x81, x82, x83, x84, x85, x86, x87, x88, x89, x90, x91, x92, x93, v128] h126))
(gcL h M102 [x78, x79, x80, x81, x82, x83, x84, x85, v98, x86, x87, x88, x89, x90, x91, x92, x93, x94] h126)))))))))))) ∧
∀ x129 : Value, ∀ x130 : Value, ∀ x131 : Value, ∀ x132 : Value, ∀ x133 : Value, ∀ x134 : Value, ∀ x135 : Value, ∀ x136 : Value, ∀ x137 : Value, ∀ x138 : Value, ∀ x139 : Value, ∀ x140 : Value, ∀ x141 : Value, ∀ x142 : Value, ∀ x143 : Value, ∀ x144 : Value, ∀ x145 : Value, ∀ x146 : Value, ∀ h147, M102 [x129, x130, x131, x132, x133, x134, x135, x136, x137, x138, x139, x140, x141, x142, x143, x144, x145, x146] h147 →
(oW (lkS (.int .i64) (.slice none 0 0) false h147 x132 x134) fun v148 =>
(callW Try.prog (fn F_slices_Clone_int_int) [v148] h147 fun v149 h150 =>
(hW (bslW h150 1 [(.int .i64 0)] [(0, 1, x135)]) fun v151 h152 =>
(hW (apW 1 8 h152 v149 v151) fun v153 h154 =>
(oW (lkS (.int .i64) (.slice none 0 0) true h154 x133 x137) fun v155 =>
(oW (extractA v155 0) fun v156 =>
(oW (extractA v155 1) fun v157 =>
(oW (unA .not v157) fun v158 =>
(bW v158
(bW (.bool true)
(sW (upS (.int .i64) h154 x133 x137 v153) fun h159 =>
(oW (binN .add x146 (.int .i64 1)) fun v160 =>
(∃ m76, m76 < k77 ∧ gcL h (I74 m76) [x129, x130, x131, x132, x133, x134, x135, x136, x138, x139, x140, x141, x142, x143, x144, x145, v160] h159)))
(oW (binN .add x146 (.int .i64 1)) fun v161 =>
(∃ m76, m76 < k77 ∧ gcL h (I74 m76) [x129, x130, x131, x132, x133, x134, x135, x136, x138, x139, x140, x141, x142, x143, x144, x145, v161] h154)))
(callW Try.prog (fn F_slices_Compare_int_int) [v153, v156] h154 fun v162 h163 =>
(oW (binN .lss v162 (.int .i64 0)) fun v164 =>
(bW v164
(sW (upS (.int .i64) h163 x133 x137 v153) fun h165 =>
(oW (binN .add x146 (.int .i64 1)) fun v166 =>
(∃ m76, m76 < k77 ∧ gcL h (I74 m76) [x129, x130, x131, x132, x133, x134, x135, x136, x138, x139, x140, x141, x142, x143, x144, x145, v166] h165)))
(oW (binN .add x146 (.int .i64 1)) fun v167 =>
(∃ m76, m76 < k77 ∧ gcL h (I74 m76) [x129, x130, x131, x132, x133, x134, x135, x136, x138, x139, x140, x141, x142, x143, x144, x145, v167] h163))))))))))))))))))))
(oW (binN .add x91 (.int .i64 1)) fun v168 =>
(∃ m50, m50 < k51 ∧ gcL h (I48 m50) [x78, x79, x80, x81, x82, x83, x86, x87, x88, x89, x90, v168] h95)))))))))))))
(oW (binN .add x60 (.int .i64 1)) fun v169 =>
(∃ m30, m30 < k31 ∧ gcL h (I28 m30) [x52, x53, x54, x55, x56, x58, x59, v169] h64))))))))))
(oW (lkS (.int .i64) (.slice none 0 0) true h40 x36 x32) fun v170 =>
(oW (extractA v170 0) fun v171 =>
(oW (extractA v170 1) fun v172 =>
(bW v172
(gcV h Q v171 h40)
(callW Try.prog (fn F_maps_Copy_map_int_int_map_int_int_int_int) [x35, x36] h40 fun v173 h174 =>
(callW Try.prog (fn F_maps_Keys_map_int_int_int_int) [x36] h174 fun v175 h176 =>
(callW Try.prog (fn F_slices_Sorted_int) [v175] h176 fun v177 h178 =>
(∃ m16, m16 < k17 ∧ gcL h (I14 m16) [x32, x33, x34, x35, v177] h178)))))))))))))
(gcV h Q (.slice none 0 0) h23)))))))))))))))
theorem W_cycles_Chain_eq (a0 a1 : Value) (h : Heap) (Q : Value → Heap → Prop) : fW Try.prog ⟨[(16, [1, 2, 5, 6, 8, 10, 12, 13, 37, 38, 39, 45, 46, 47, 57, 58, 59]), (12, [1, 2, 5, 6, 8, 10, 37, 38, 39, 45, 46, 47]), (9, [1, 2, 5, 6, 8, 37, 38, 39]), (6, [1, 2, 5, 6, 7])], [(20, [1, 2, 5, 6, 8, 10, 12, 13, 15, 37, 38, 39, 45, 46, 47, 57, 58, 59])]⟩ Try.f86 [a0, a1] h Q = W_cycles_Chain a0 a1 h Q := by kernel_rfl
theorem W_cycles_Chain_ok {a0 a1 : Value} {h : Heap} {Q : Value → Heap → Prop} (e : W_cycles_Chain a0 a1 h Q) : acall Try.prog F_cycles_Chain [a0, a1] h Q :=
  by refine acall_of_fW mixed ⟨[(16, [1, 2, 5, 6, 8, 10, 12, 13, 37, 38, 39, 45, 46, 47, 57, 58, 59]), (12, [1, 2, 5, 6, 8, 10, 37, 38, 39, 45, 46, 47]), (9, [1, 2, 5, 6, 8, 37, 38, 39]), (6, [1, 2, 5, 6, 7])], [(20, [1, 2, 5, 6, 8, 10, 12, 13, 15, 37, 38, 39, 45, 46, 47, 57, 58, 59])]⟩ Try.func86 (by kernel_rfl) ?_; rw [W_cycles_Chain_eq]; exact e

/-- homograph/cycles.right: loops {}; joins {} -/
def W_cycles_right (a0 : Value) (h : Heap) (Q : Value → Heap → Prop) : Prop :=
(hW (boxA h a0) fun v1 h2 =>
(oW (ldW true 5 h2 v1) fun v3 =>
(callW Try.prog (fn F_symbols_Check) [v3] h2 fun v4 h5 =>
(oW (binN .eql v4 (.int .i64 0)) fun v6 =>
(gcV h Q v6 h5)))))
theorem W_cycles_right_eq (a0 : Value) (h : Heap) (Q : Value → Heap → Prop) : fW Try.prog ⟨[], []⟩ Try.f87 [a0] h Q = W_cycles_right a0 h Q := by kernel_rfl
theorem W_cycles_right_ok {a0 : Value} {h : Heap} {Q : Value → Heap → Prop} (e : W_cycles_right a0 h Q) : acall Try.prog F_cycles_right [a0] h Q :=
  by refine acall_of_fW mixed ⟨[], []⟩ Try.func87 (by kernel_rfl) ?_; rw [W_cycles_right_eq]; exact e

/-- homograph/cycles.alone: loops {}; joins {} -/
def W_cycles_alone (a0 : Value) (h : Heap) (Q : Value → Heap → Prop) : Prop :=
(hW (boxA h a0) fun v1 h2 =>
(oW (ldW true 5 h2 v1) fun v3 =>
(callW Try.prog (fn F_cycles_void) [v3] h2 fun v4 h5 =>
(letH (h5 ++ [.row [.nilFunc] .exact]) fun h6 =>
(sW (stW 1 h6 (.pointer (some ⟨h5.length, 0, none⟩)) v4) fun h7 =>
(oW (ldW true 5 h7 v1) fun v8 =>
(callW Try.prog (fn F_cycles_steps) [v8, (.func (.func F_cycles_alone_D1) #[] #[(.pointer (some ⟨h5.length, 0, none⟩))])] h7 fun v9 h10 =>
(gcV h Q v9 h10))))))))
theorem W_cycles_alone_eq (a0 : Value) (h : Heap) (Q : Value → Heap → Prop) : fW Try.prog ⟨[], []⟩ Try.f88 [a0] h Q = W_cycles_alone a0 h Q := by kernel_rfl
theorem W_cycles_alone_ok {a0 : Value} {h : Heap} {Q : Value → Heap → Prop} (e : W_cycles_alone a0 h Q) : acall Try.prog F_cycles_alone [a0] h Q :=
  by refine acall_of_fW mixed ⟨[], []⟩ Try.func88 (by kernel_rfl) ?_; rw [W_cycles_alone_eq]; exact e

/-- (homograph/cycles.table[bool]).close: loops {11: [0, 3, 4, 5, 6, 10, 11, 17, 18, 19, 28, 29], 8: [0, 3, 4, 10, 11, 17, 18, 19], 5: [0, 3, 10, 11], 2: [0, 3]}; joins {} -/
def W_cycles_table_bool_close (a0 : Value) (h : Heap) (Q : Value → Heap → Prop) : Prop :=
(∃ (I1 : Nat → List Value → Heap → Prop) (k2 : Nat), gcL h (I1 k2) [a0, (.bool true)] h ∧
∀ k4 : Nat, ∀ x5 : Value, ∀ x6 : Value, ∀ h7, I1 k4 [x5, x6] h7 →
(bW x6
(oW (lenS x5) fun v8 =>
(∃ (I9 : Nat → List Value → Heap → Prop) (k10 : Nat), gcL h (I9 k10) [x5, (.bool false), v8, (.int .i64 0)] h7 ∧
∀ k12 : Nat, ∀ x13 : Value, ∀ x14 : Value, ∀ x15 : Value, ∀ x16 : Value, ∀ h17, I9 k12 [x13, x14, x15, x16] h17 →
(oW (binN .lss x16 x15) fun v18 =>
(bW v18
(oW (iaS 1 x13 x16) fun v19 =>
(oW (ldW false 1 h17 v19) fun v20 =>
(oW (lenS v20) fun v21 =>
(∃ (I22 : Nat → List Value → Heap → Prop) (k23 : Nat), gcL h (I22 k23) [x13, x14, x16, x15, x16, v20, v21, (.int .i64 0)] h17 ∧
∀ k25 : Nat, ∀ x26 : Value, ∀ x27 : Value, ∀ x28 : Value, ∀ x29 : Value, ∀ x30 : Value, ∀ x31 : Value, ∀ x32 : Value, ∀ x33 : Value, ∀ h34, I22 k25 [x26, x27, x28, x29, x30, x31, x32, x33] h34 →
(oW (binN .lss x33 x32) fun v35 =>
(bW v35
(oW (iaS 1 x31 x33) fun v36 =>
(oW (ldW false 1 h34 v36) fun v37 =>
(oW (iaS 1 x26 x33) fun v38 =>
(oW (ldW false 1 h34 v38) fun v39 =>
(oW (lenS v39) fun v40 =>
(∃ (I41 : Nat → List Value → Heap → Prop) (k42 : Nat), gcL h (I41 k42) [x26, x27, x28, x33, v37, x29, x30, x31, x32, x33, v40, (.int .i64 0)] h34 ∧
∀ k44 : Nat, ∀ x45 : Value, ∀ x46 : Value, ∀ x47 : Value, ∀ x48 : Value, ∀ x49 : Value, ∀ x50 : Value, ∀ x51 : Value, ∀ x52 : Value, ∀ x53 : Value, ∀ x54 : Value, ∀ x55 : Value, ∀ x56 : Value, ∀ h57, I41 k44 [x45, x46, x47, x48, x49, x50, x51, x52, x53, x54, x55, x56] h57 →
(oW (binN .lss x56 x55) fun v58 =>
(bW v58
(bW x49
(oW (iaS 1 x45 x48) fun v59 =>
(oW (ldW false 1 h57 v59) fun v60 =>
(oW (iaS 1 v60 x56) fun v61 =>
(oW (ldW false 1 h57 v61) fun v62 =>
(bW v62
(oW (iaS 1 x45 x47) fun v63 =>
(oW (ldW false 1 h57 v63) fun v64 =>
(oW (iaS 1 v64 x56) fun v65 =>
(oW (ldW false 1 h57 v65) fun v66 =>
(oW (unA .not v66) fun v67 =>
(bW v67
(oW (iaS 1 x45 x47) fun v68 =>
(oW (ldW false 1 h57 v68) fun v69 =>
(oW (iaS 1 v69 x56) fun v70 =>
(sW (stW 1 h57 v70 (.bool true)) fun h71 =>
(oW (binN .add x56 (.int .i64 1)) fun v72 =>
(∃ m43, m43 < k44 ∧ gcL h (I41 m43) [x45, (.bool true), x47, x48, x49, x50, x51, x52, x53, x54, x55, v72] h71))))))
(oW (binN .add x56 (.int .i64 1)) fun v73 =>
(∃ m43, m43 < k44 ∧ gcL h (I41 m43) [x45, x46, x47, x48, x49, x50, x51, x52, x53, x54, x55, v73] h57))))))))
(bW (.bool false)
(oW (iaS 1 x45 x47) fun v74 =>
(oW (ldW false 1 h57 v74) fun v75 =>
(oW (iaS 1 v75 x56) fun v76 =>
(sW (stW 1 h57 v76 (.bool true)) fun h77 =>
(oW (binN .add x56 (.int .i64 1)) fun v78 =>
(∃ m43, m43 < k44 ∧ gcL h (I41 m43) [x45, (.bool true), x47, x48, x49, x50, x51, x52, x53, x54, x55, v78] h77))))))
(oW (binN .add x56 (.int .i64 1)) fun v79 =>
(∃ m43, m43 < k44 ∧ gcL h (I41 m43) [x45, x46, x47, x48, x49, x50, x51, x52, x53, x54, x55, v79] h57))))))))
(bW (.bool false)
(oW (iaS 1 x45 x47) fun v80 =>
(oW (ldW false 1 h57 v80) fun v81 =>
(oW (iaS 1 v81 x56) fun v82 =>
(sW (stW 1 h57 v82 (.bool true)) fun h83 =>
(oW (binN .add x56 (.int .i64 1)) fun v84 =>
(∃ m43, m43 < k44 ∧ gcL h (I41 m43) [x45, (.bool true), x47, x48, x49, x50, x51, x52, x53, x54, x55, v84] h83))))))
(oW (binN .add x56 (.int .i64 1)) fun v85 =>
(∃ m43, m43 < k44 ∧ gcL h (I41 m43) [x45, x46, x47, x48, x49, x50, x51, x52, x53, x54, x55, v85] h57))))
(oW (binN .add x54 (.int .i64 1)) fun v86 =>
(∃ m24, m24 < k25 ∧ gcL h (I22 m24) [x45, x46, x47, x50, x51, x52, x53, v86] h57))))))))))
(oW (binN .add x30 (.int .i64 1)) fun v87 =>
(∃ m11, m11 < k12 ∧ gcL h (I9 m11) [x26, x27, x29, v87] h34))))))))
(∃ m3, m3 < k4 ∧ gcL h (I1 m3) [x13, x14] h17)))))
(gcV h Q x5 h7)))
theorem W_cycles_table_bool_close_eq (a0 : Value) (h : Heap) (Q : Value → Heap → Prop) : fW Try.prog ⟨[(11, [0, 3, 4, 5, 6, 10, 11, 17, 18, 19, 28, 29]), (8, [0, 3, 4, 10, 11, 17, 18, 19]), (5, [0, 3, 10, 11]), (2, [0, 3])], []⟩ Try.f89 [a0] h Q = W_cycles_table_bool_close a0 h Q := by kernel_rfl
theorem W_cycles_table_bool_close_ok {a0 : Value} {h : Heap} {Q : Value → Heap → Prop} (e : W_cycles_table_bool_close a0 h Q) : acall Try.prog F_cycles_table_bool_close [a0] h Q :=
  by refine acall_of_fW mixed ⟨[(11, [0, 3, 4, 5, 6, 10, 11, 17, 18, 19, 28, 29]), (8, [0, 3, 4, 10, 11, 17, 18, 19]), (5, [0, 3, 10, 11]), (2, [0, 3])], []⟩ Try.func89 (by kernel_rfl) ?_; rw [W_cycles_table_bool_close_eq]; exact e

/-- homograph/homographref18.closed: loops {9: [0, 3, 4, 5, 6], 6: [0, 3, 4, 5], 3: [0, 3, 4]}; joins {} -/
def W_homographref18_closed (a0 : Value) (h : Heap) (Q : Value → Heap → Prop) : Prop :=
(oW (lenS a0) fun v1 =>
(∃ (I2 : Nat → List Value → Heap → Prop) (k3 : Nat), gcL h (I2 k3) [a0, v1, (.int .i64 0)] h ∧
∀ k5 : Nat, ∀ x6 : Value, ∀ x7 : Value, ∀ x8 : Value, ∀ h9, I2 k5 [x6, x7, x8] h9 →
(oW (binN .lss x8 x7) fun v10 =>
(bW v10
(∃ (I11 : Nat → List Value → Heap → Prop) (k12 : Nat), gcL h (I11 k12) [x6, x7, x8, (.int .i64 0)] h9 ∧
∀ k14 : Nat, ∀ x15 : Value, ∀ x16 : Value, ∀ x17 : Value, ∀ x18 : Value, ∀ h19, I11 k14 [x15, x16, x17, x18] h19 →
(oW (binN .lss x18 x16) fun v20 =>
(bW v20
(∃ (I21 : Nat → List Value → Heap → Prop) (k22 : Nat), gcL h (I21 k22) [x15, x16, x17, x18, (.int .i64 0)] h19 ∧
∀ k24 : Nat, ∀ x25 : Value, ∀ x26 : Value, ∀ x27 : Value, ∀ x28 : Value, ∀ x29 : Value, ∀ h30, I21 k24 [x25, x26, x27, x28, x29] h30 →
(oW (binN .lss x29 x26) fun v31 =>
(bW v31
(oW (iaS 1 x25 x28) fun v32 =>
(oW (ldW false 1 h30 v32) fun v33 =>
(oW (iaS 1 x25 x28) fun v34 =>
(oW (ldW false 1 h30 v34) fun v35 =>
(oW (iaS 1 v35 x29) fun v36 =>
(oW (ldW false 1 h30 v36) fun v37 =>
(bW v37
(oW (iaS 1 v33 x29) fun v38 =>
(sW (stW 1 h30 v38 (.bool true)) fun h39 =>
(oW (binN .add x29 (.int .i64 1)) fun v40 =>
(∃ m23, m23 < k24 ∧ gcL h (I21 m23) [x25, x26, x27, x28, v40] h39))))
(oW (iaS 1 x25 x28) fun v41 =>
(oW (ldW false 1 h30 v41) fun v42 =>
(oW (iaS 1 v42 x27) fun v43 =>
(oW (ldW false 1 h30 v43) fun v44 =>
(bW v44
(oW (iaS 1 x25 x27) fun v45 =>
(oW (ldW false 1 h30 v45) fun v46 =>
(oW (iaS 1 v46 x29) fun v47 =>
(oW (ldW false 1 h30 v47) fun v48 =>
(oW (iaS 1 v33 x29) fun v49 =>
(sW (stW 1 h30 v49 v48) fun h50 =>
(oW (binN .add x29 (.int .i64 1)) fun v51 =>
(∃ m23, m23 < k24 ∧ gcL h (I21 m23) [x25, x26, x27, x28, v51] h50))))))))
(oW (iaS 1 v33 x29) fun v52 =>
(sW (stW 1 h30 v52 (.bool false)) fun h53 =>
(oW (binN .add x29 (.int .i64 1)) fun v54 =>
(∃ m23, m23 < k24 ∧ gcL h (I21 m23) [x25, x26, x27, x28, v54] h53))))))))))))))))
(oW (binN .add x28 (.int .i64 1)) fun v55 =>
(∃ m13, m13 < k14 ∧ gcL h (I11 m13) [x25, x26, x27, v55] h30)))))
(oW (binN .add x17 (.int .i64 1)) fun v56 =>
(∃ m4, m4 < k5 ∧ gcL h (I2 m4) [x15, x16, v56] h19)))))
(gcV h Q x6 h9)))))
theorem W_homographref18_closed_eq (a0 : Value) (h : Heap) (Q : Value → Heap → Prop) : fW Try.prog ⟨[(9, [0, 3, 4, 5, 6]), (6, [0, 3, 4, 5]), (3, [0, 3, 4])], []⟩ Try.f91 [a0] h Q = W_homographref18_closed a0 h Q := by kernel_rfl
theorem W_homographref18_closed_ok {a0 : Value} {h : Heap} {Q : Value → Heap → Prop} (e : W_homographref18_closed a0 h Q) : acall Try.prog F_homographref18_closed [a0] h Q :=
  by refine acall_of_fW mixed ⟨[(9, [0, 3, 4, 5, 6]), (6, [0, 3, 4, 5]), (3, [0, 3, 4])], []⟩ Try.func91 (by kernel_rfl) ?_; rw [W_homographref18_closed_eq]; exact e

/-- homograph/homographref18.table: loops {13: [1, 2, 5, 7, 9, 10, 11], 9: [1, 2, 5, 7, 9], 5: [1, 2, 5, 6, 7, 8]}; joins {} -/
def W_homographref18_table (a0 a1 : Value) (h : Heap) (Q : Value → Heap → Prop) : Prop :=
(hW (boxA h a0) fun v1 h2 =>
(oW (ldW true 5 h2 v1) fun v3 =>
(callW Try.prog (fn F_homographref17_Nullable) [v3] h2 fun v4 h5 =>
(oW (faW 0 1 v1) fun v6 =>
(oW (ldW false 1 h5 v6) fun v7 =>
(oW (lenS v7) fun v8 =>
(∃ (I9 : Nat → List Value → Heap → Prop) (k10 : Nat), gcL h (I9 k10) [a1, v1, v4, v8, (.slice none 0 0), (.int .i64 0)] h5 ∧
∀ k12 : Nat, ∀ x13 : Value, ∀ x14 : Value, ∀ x15 : Value, ∀ x16 : Value, ∀ x17 : Value, ∀ x18 : Value, ∀ h19, I9 k12 [x13, x14, x15, x16, x17, x18] h19 →
(oW (binN .lss x18 x16) fun v20 =>
(bW v20
(hW (mksW [(.bool false)] 1 h19 x16 x16) fun v21 h22 =>
(hW (bslW h22 1 [(.slice none 0 0)] [(0, 1, v21)]) fun v23 h24 =>
(hW (apW 1 24 h24 x17 v23) fun v25 h26 =>
(oW (binN .add x18 (.int .i64 1)) fun v27 =>
(∃ m11, m11 < k12 ∧ gcL h (I9 m11) [x13, x14, x15, x16, v25, v27] h26)))))
(∃ (I28 : Nat → List Value → Heap → Prop) (k29 : Nat), gcL h (I28 k29) [x13, x14, x15, x17, (.int .i64 0)] h19 ∧
∀ k31 : Nat, ∀ x32 : Value, ∀ x33 : Value, ∀ x34 : Value, ∀ x35 : Value, ∀ x36 : Value, ∀ h37, I28 k31 [x32, x33, x34, x35, x36] h37 →
(oW (faW 3 1 x33) fun v38 =>
(oW (ldW false 1 h37 v38) fun v39 =>
(oW (lenS v39) fun v40 =>
(oW (binN .lss x36 v40) fun v41 =>
(bW v41
(oW (faW 3 1 x33) fun v42 =>
(oW (ldW false 1 h37 v42) fun v43 =>
(oW (iaS 1 v43 x36) fun v44 =>
(oW (ldW false 1 h37 v44) fun v45 =>
(∃ (I46 : Nat → List Value → Heap → Prop) (k47 : Nat), gcL h (I46 k47) [x32, x33, x34, x35, x36, v45, (.int .i64 1)] h37 ∧
∀ k49 : Nat, ∀ x50 : Value, ∀ x51 : Value, ∀ x52 : Value, ∀ x53 : Value, ∀ x54 : Value, ∀ x55 : Value, ∀ x56 : Value, ∀ h57, I46 k49 [x50, x51, x52, x53, x54, x55, x56] h57 →
(oW (lenS x55) fun v58 =>
(oW (binN .lss x56 v58) fun v59 =>
(bW v59
(callW Try.prog (fn F_homographref18_leads) [x55, x52, x56] h57 fun v60 h61 =>
(oW (extractA v60 0) fun v62 =>
(oW (extractA v60 1) fun v63 =>
(oW (extractA v60 2) fun v64 =>
(oW (binN .eql x50 (.int .i64 0)) fun v65 =>
(bW v65
(bW v62
(bW (.bool true)
(oW (iaS 1 x55 (.int .i64 0)) fun v66 =>
(oW (ldW false 1 h61 v66) fun v67 =>
(oW (iaS 1 x53 v67) fun v68 =>
(oW (ldW false 1 h61 v68) fun v69 =>
(oW (iaS 1 x55 x56) fun v70 =>
(oW (ldW false 1 h61 v70) fun v71 =>
(oW (iaS 1 v69 v71) fun v72 =>
(sW (stW 1 h61 v72 (.bool true)) fun h73 =>
(oW (binN .add x56 (.int .i64 1)) fun v74 =>
(∃ m48, m48 < k49 ∧ gcL h (I46 m48) [x50, x51, x52, x53, x54, x55, v74] h73))))))))))
(oW (binN .add x56 (.int .i64 1)) fun v75 =>
(∃ m48, m48 < k49 ∧ gcL h (I46 m48) [x50, x51, x52, x53, x54, x55, v75] h61)))
(oW (binN .eql x50 (.int .i64 1)) fun v76 =>
(bW v76
(bW v63
(bW (.bool true)
(oW (iaS 1 x55 (.int .i64 0)) fun v77 =>
(oW (ldW false 1 h61 v77) fun v78 =>
(oW (iaS 1 x53 v78) fun v79 =>
(oW (ldW false 1 h61 v79) fun v80 =>
(oW (iaS 1 x55 x56) fun v81 =>
(oW (ldW false 1 h61 v81) fun v82 =>
(oW (iaS 1 v80 v82) fun v83 =>
(sW (stW 1 h61 v83 (.bool true)) fun h84 =>
(oW (binN .add x56 (.int .i64 1)) fun v85 =>
(∃ m48, m48 < k49 ∧ gcL h (I46 m48) [x50, x51, x52, x53, x54, x55, v85] h84))))))))))
(oW (binN .add x56 (.int .i64 1)) fun v86 =>
(∃ m48, m48 < k49 ∧ gcL h (I46 m48) [x50, x51, x52, x53, x54, x55, v86] h61)))
(oW (binN .eql x50 (.int .i64 2)) fun v87 =>
(bW v87
(bW v64
(oW (iaS 1 x55 (.int .i64 0)) fun v88 =>
(oW (ldW false 1 h61 v88) fun v89 =>
(oW (iaS 1 x53 v89) fun v90 =>
(oW (ldW false 1 h61 v90) fun v91 =>
(oW (iaS 1 x55 x56) fun v92 =>
(oW (ldW false 1 h61 v92) fun v93 =>
(oW (iaS 1 v91 v93) fun v94 =>
(sW (stW 1 h61 v94 (.bool true)) fun h95 =>
(oW (binN .add x56 (.int .i64 1)) fun v96 =>
(∃ m48, m48 < k49 ∧ gcL h (I46 m48) [x50, x51, x52, x53, x54, x55, v96] h95))))))))))
(oW (binN .add x56 (.int .i64 1)) fun v97 =>
(∃ m48, m48 < k49 ∧ gcL h (I46 m48) [x50, x51, x52, x53, x54, x55, v97] h61)))
(bW (.bool false)
(oW (iaS 1 x55 (.int .i64 0)) fun v98 =>
(oW (ldW false 1 h61 v98) fun v99 =>
(oW (iaS 1 x53 v99) fun v100 =>
(oW (ldW false 1 h61 v100) fun v101 =>
(oW (iaS 1 x55 x56) fun v102 =>
(oW (ldW false 1 h61 v102) fun v103 =>
(oW (iaS 1 v101 v103) fun v104 =>
(sW (stW 1 h61 v104 (.bool true)) fun h105 =>
(oW (binN .add x56 (.int .i64 1)) fun v106 =>
(∃ m48, m48 < k49 ∧ gcL h (I46 m48) [x50, x51, x52, x53, x54, x55, v106] h105))))))))))
(oW (binN .add x56 (.int .i64 1)) fun v107 =>
(∃ m48, m48 < k49 ∧ gcL h (I46 m48) [x50, x51, x52, x53, x54, x55, v107] h61))))))
(bW (.bool false)
(bW (.bool true)
(oW (iaS 1 x55 (.int .i64 0)) fun v108 =>
(oW (ldW false 1 h61 v108) fun v109 =>
(oW (iaS 1 x53 v109) fun v110 =>
(oW (ldW false 1 h61 v110) fun v111 =>
(oW (iaS 1 x55 x56) fun v112 =>
(oW (ldW false 1 h61 v112) fun v113 =>
(oW (iaS 1 v111 v113) fun v114 =>
(sW (stW 1 h61 v114 (.bool true)) fun h115 =>
(oW (binN .add x56 (.int .i64 1)) fun v116 =>
(∃ m48, m48 < k49 ∧ gcL h (I46 m48) [x50, x51, x52, x53, x54, x55, v116] h115))))))))))
(oW (binN .add x56 (.int .i64 1)) fun v117 =>
(∃ m48, m48 < k49 ∧ gcL h (I46 m48) [x50, x51, x52, x53, x54, x55, v117] h61)))
(oW (binN .eql x50 (.int .i64 2)) fun v118 =>
(bW v118
(bW v64
(oW (iaS 1 x55 (.int .i64 0)) fun v119 =>
(oW (ldW false 1 h61 v119) fun v120 =>
(oW (iaS 1 x53 v120) fun v121 =>
(oW (ldW false 1 h61 v121) fun v122 =>
(oW (iaS 1 x55 x56) fun v123 =>
(oW (ldW false 1 h61 v123) fun v124 =>
(oW (iaS 1 v122 v124) fun v125 =>
(sW (stW 1 h61 v125 (.bool true)) fun h126 =>
(oW (binN .add x56 (.int .i64 1)) fun v127 =>
(∃ m48, m48 < k49 ∧ gcL h (I46 m48) [x50, x51, x52, x53, x54, x55, v127] h126))))))))))
(oW (binN .add x56 (.int .i64 1)) fun v128 =>
(∃ m48, m48 < k49 ∧ gcL h (I46 m48) [x50, x51, x52, x53, x54, x55, v128] h61)))
(bW (.bool false)
(oW (iaS 1 x55 (.int .i64 0)) fun v129 =>
(oW (ldW false 1 h61 v129) fun v130 =>
(oW (iaS 1 x53 v130) fun v131 =>
(oW (ldW false 1 h61 v131) fun v132 =>
(oW (iaS 1 x55 x56) fun v133 =>
(oW (ldW false 1 h61 v133) fun v134 =>
(oW (iaS 1 v132 v134) fun v135 =>
(sW (stW 1 h61 v135 (.bool true)) fun h136 =>
(oW (binN .add x56 (.int .i64 1)) fun v137 =>
(∃ m48, m48 < k49 ∧ gcL h (I46 m48) [x50, x51, x52, x53, x54, x55, v137] h136))))))))))
(oW (binN .add x56 (.int .i64 1)) fun v138 =>
(∃ m48, m48 < k49 ∧ gcL h (I46 m48) [x50, x51, x52, x53, x54, x55, v138] h61)))))))))
(oW (binN .eql x50 (.int .i64 1)) fun v139 =>
(bW v139
(bW v63
(bW (.bool true)
(oW (iaS 1 x55 (.int .i64 0)) fun v140 =>
(oW (ldW false 1 h61 v140) fun v141 =>
(oW (iaS 1 x53 v141) fun v142 =>
(oW (ldW false 1 h61 v142) fun v143 =>
(oW (iaS 1 x55 x56) fun v144 =>
(oW (ldW false 1 h61 v144) fun v145 =>
(oW (iaS 1 v143 v145) fun v146 =>
(sW (stW 1 h61 v146 (.bool true)) fun h147 =>
(oW (binN .add x56 (.int .i64 1)) fun v148 =>
(∃ m48, m48 < k49 ∧ gcL h (I46 m48) [x50, x51, x52, x53, x54, x55, v148] h147))))))))))
(oW (binN .add x56 (.int .i64 1)) fun v149 =>
(∃ m48, m48 < k49 ∧ gcL h (I46 m48) [x50, x51, x52, x53, x54, x55, v149] h61)))
(oW (binN .eql x50 (.int .i64 2)) fun v150 =>
(bW v150
(bW v64
(oW (iaS 1 x55 (.int .i64 0)) fun v151 =>
(oW (ldW false 1 h61 v151) fun v152 =>
(oW (iaS 1 x53 v152) fun v153 =>
(oW (ldW false 1 h61 v153) fun v154 =>
(oW (iaS 1 x55 x56) fun v155 =>
(oW (ldW false 1 h61 v155) fun v156 =>
(oW (iaS 1 v154 v156) fun v157 =>
(sW (stW 1 h61 v157 (.bool true)) fun h158 =>
(oW (binN .add x56 (.int .i64 1)) fun v159 =>
(∃ m48, m48 < k49 ∧ gcL h (I46 m48) [x50, x51, x52, x53, x54, x55, v159] h158))))))))))
(oW (binN .add x56 (.int .i64 1)) fun v160 =>
(∃ m48, m48 < k49 ∧ gcL h (I46 m48) [x50, x51, x52, x53, x54, x55, v160] h61)))
(bW (.bool false)
(oW (iaS 1 x55 (.int .i64 0)) fun v161 =>
(oW (ldW false 1 h61 v161) fun v162 =>
(oW (iaS 1 x53 v162) fun v163 =>
(oW (ldW false 1 h61 v163) fun v164 =>
(oW (iaS 1 x55 x56) fun v165 =>
(oW (ldW false 1 h61 v165) fun v166 =>
(oW (iaS 1 v164 v166) fun v167 =>
(sW (stW 1 h61 v167 (.bool true)) fun h168 =>
(oW (binN .add x56 (.int .i64 1)) fun v169 =>
(∃ m48, m48 < k49 ∧ gcL h (I46 m48) [x50, x51, x52, x53, x54, x55, v169] h168))))))))))
(oW (binN .add x56 (.int .i64 1)) fun v170 =>
(∃ m48, m48 < k49 ∧ gcL h (I46 m48) [x50, x51, x52, x53, x54, x55, v170] h61))))))
(bW (.bool false)
(bW (.bool true)
(oW (iaS 1 x55 (.int .i64 0)) fun v171 =>
(oW (ldW false 1 h61 v171) fun v172 =>
(oW (iaS 1 x53 v172) fun v173 =>
(oW (ldW false 1 h61 v173) fun v174 =>
(oW (iaS 1 x55 x56) fun v175 =>
(oW (ldW false 1 h61 v175) fun v176 =>
(oW (iaS 1 v174 v176) fun v177 =>
(sW (stW 1 h61 v177 (.bool true)) fun h178 =>
(oW (binN .add x56 (.int .i64 1)) fun v179 =>
(∃ m48, m48 < k49 ∧ gcL h (I46 m48) [x50, x51, x52, x53, x54, x55, v179] h178))))))))))
(oW (binN .add x56 (.int .i64 1)) fun v180 =>
(∃ m48, m48 < k49 ∧ gcL h (I46 m48) [x50, x51, x52, x53, x54, x55, v180] h61)))
(oW (binN .eql x50 (.int .i64 2)) fun v181 =>
(bW v181
(bW v64
(oW (iaS 1 x55 (.int .i64 0)) fun v182 =>
(oW (ldW false 1 h61 v182) fun v183 =>
(oW (iaS 1 x53 v183) fun v184 =>
(oW (ldW false 1 h61 v184) fun v185 =>
(oW (iaS 1 x55 x56) fun v186 =>
(oW (ldW false 1 h61 v186) fun v187 =>
(oW (iaS 1 v185 v187) fun v188 =>
(sW (stW 1 h61 v188 (.bool true)) fun h189 =>
(oW (binN .add x56 (.int .i64 1)) fun v190 =>
(∃ m48, m48 < k49 ∧ gcL h (I46 m48) [x50, x51, x52, x53, x54, x55, v190] h189))))))))))
(oW (binN .add x56 (.int .i64 1)) fun v191 =>
(∃ m48, m48 < k49 ∧ gcL h (I46 m48) [x50, x51, x52, x53, x54, x55, v191] h61)))
(bW (.bool false)
(oW (iaS 1 x55 (.int .i64 0)) fun v192 =>
(oW (ldW false 1 h61 v192) fun v193 =>
(oW (iaS 1 x53 v193) fun v194 =>
(oW (ldW false 1 h61 v194) fun v195 =>
(oW (iaS 1 x55 x56) fun v196 =>
(oW (ldW false 1 h61 v196) fun v197 =>
(oW (iaS 1 v195 v197) fun v198 =>
(sW (stW 1 h61 v198 (.bool true)) fun h199 =>
(oW (binN .add x56 (.int .i64 1)) fun v200 =>
(∃ m48, m48 < k49 ∧ gcL h (I46 m48) [x50, x51, x52, x53, x54, x55, v200] h199))))))))))
(oW (binN .add x56 (.int .i64 1)) fun v201 =>
(∃ m48, m48 < k49 ∧ gcL h (I46 m48) [x50, x51, x52, x53, x54, x55, v201] h61))))))))))))))
(oW (binN .add x54 (.int .i64 1)) fun v202 =>
(∃ m30, m30 < k31 ∧ gcL h (I28 m30) [x50, x51, x52, x53, v202] h57))))))))))
(gcV h Q x35 h37))))))))))))))))
theorem W_homographref18_table_eq (a0 a1 : Value) (h : Heap) (Q : Value → Heap → Prop) : fW Try.prog ⟨[(13, [1, 2, 5, 7, 9, 10, 11]), (9, [1, 2, 5, 7, 9]), (5, [1, 2, 5, 6, 7, 8])], []⟩ Try.f92 [a0, a1] h Q = W_homographref18_table a0 a1 h Q := by kernel_rfl
theorem W_homographref18_table_ok {a0 a1 : Value} {h : Heap} {Q : Value → Heap → Prop} (e : W_homographref18_table a0 a1 h Q) : acall Try.prog F_homographref18_table [a0, a1] h Q :=
  by refine acall_of_fW mixed ⟨[(13, [1, 2, 5, 7, 9, 10, 11]), (9, [1, 2, 5, 7, 9]), (5, [1, 2, 5, 6, 7, 8])], []⟩ Try.func92 (by kernel_rfl) ?_; rw [W_homographref18_table_eq]; exact e

/-- (homograph/cycles.table[bool]).own: loops {3: [0, 3, 6, 7]}; joins {} -/
def W_cycles_table_bool_own (a0 : Value) (h : Heap) (Q : Value → Heap → Prop) : Prop :=
(oW (lenS a0) fun v1 =>
(∃ (I2 : Nat → List Value → Heap → Prop) (k3 : Nat), gcL h (I2 k3) [a0, (.slice none 0 0), v1, (.int .i64 0)] h ∧
∀ k5 : Nat, ∀ x6 : Value, ∀ x7 : Value, ∀ x8 : Value, ∀ x9 : Value, ∀ h10, I2 k5 [x6, x7, x8, x9] h10 →
(oW (binN .lss x9 x8) fun v11 =>
(bW v11
(oW (iaS 1 x6 x9) fun v12 =>
(oW (ldW false 1 h10 v12) fun v13 =>
(oW (iaS 1 v13 x9) fun v14 =>
(oW (ldW false 1 h10 v14) fun v15 =>
(hW (bslW h10 1 [(.bool false)] [(0, 1, v15)]) fun v16 h17 =>
(hW (apW 1 1 h17 x7 v16) fun v18 h19 =>
(oW (binN .add x9 (.int .i64 1)) fun v20 =>
(∃ m4, m4 < k5 ∧ gcL h (I2 m4) [x6, v18, x8, v20] h19))))))))
(gcV h Q x7 h10)))))
theorem W_cycles_table_bool_own_eq (a0 : Value) (h : Heap) (Q : Value → Heap → Prop) : fW Try.prog ⟨[(3, [0, 3, 6, 7])], []⟩ Try.f93 [a0] h Q = W_cycles_table_bool_own a0 h Q := by kernel_rfl
theorem W_cycles_table_bool_own_ok {a0 : Value} {h : Heap} {Q : Value → Heap → Prop} (e : W_cycles_table_bool_own a0 h Q) : acall Try.prog F_cycles_table_bool_own [a0] h Q :=
  by refine acall_of_fW mixed ⟨[(3, [0, 3, 6, 7])], []⟩ Try.func93 (by kernel_rfl) ?_; rw [W_cycles_table_bool_own_eq]; exact e

/-- homograph/homographref18.own: loops {3: [0, 3, 4]}; joins {} -/
def W_homographref18_own (a0 : Value) (h : Heap) (Q : Value → Heap → Prop) : Prop :=
(∃ (I1 : Nat → List Value → Heap → Prop) (k2 : Nat), gcL h (I1 k2) [a0, (.slice none 0 0), (.int .i64 0)] h ∧
∀ k4 : Nat, ∀ x5 : Value, ∀ x6 : Value, ∀ x7 : Value, ∀ h8, I1 k4 [x5, x6, x7] h8 →
(oW (lenS x5) fun v9 =>
(oW (binN .lss x7 v9) fun v10 =>
(bW v10
(oW (iaS 1 x5 x7) fun v11 =>
(oW (ldW false 1 h8 v11) fun v12 =>
(oW (iaS 1 v12 x7) fun v13 =>
(oW (ldW false 1 h8 v13) fun v14 =>
(hW (bslW h8 1 [(.bool false)] [(0, 1, v14)]) fun v15 h16 =>
(hW (apW 1 1 h16 x6 v15) fun v17 h18 =>
(oW (binN .add x7 (.int .i64 1)) fun v19 =>
(∃ m3, m3 < k4 ∧ gcL h (I1 m3) [x5, v17, v19] h18))))))))
(gcV h Q x6 h8)))))
theorem W_homographref18_own_eq (a0 : Value) (h : Heap) (Q : Value → Heap → Prop) : fW Try.prog ⟨[(3, [0, 3, 4])], []⟩ Try.f94 [a0] h Q = W_homographref18_own a0 h Q := by kernel_rfl
theorem W_homographref18_own_ok {a0 : Value} {h : Heap} {Q : Value → Heap → Prop} (e : W_homographref18_own a0 h Q) : acall Try.prog F_homographref18_own [a0] h Q :=
  by refine acall_of_fW mixed ⟨[(3, [0, 3, 4])], []⟩ Try.func94 (by kernel_rfl) ?_; rw [W_homographref18_own_eq]; exact e

/-- homograph/cycles.first: loops {}; joins {} -/
def W_cycles_first (a0 a1 : Value) (h : Heap) (Q : Value → Heap → Prop) : Prop :=
(hW (boxA h a0) fun v1 h2 =>
(hW (boxA h2 a1) fun v3 h4 =>
(oW (ldW true 5 h4 v1) fun v5 =>
(callW Try.prog (fn F_cycles_void) [v5] h4 fun v6 h7 =>
(letH (h7 ++ [.row [.nilFunc] .exact]) fun h8 =>
(sW (stW 1 h8 (.pointer (some ⟨h7.length, 0, none⟩)) v6) fun h9 =>
(oW (ldW true 5 h9 v1) fun v10 =>
(callW Try.prog (fn F_cycles_steps) [v10, (.func (.func F_cycles_first_D1) #[] #[v3, (.pointer (some ⟨h7.length, 0, none⟩))])] h9 fun v11 h12 =>
(gcV h Q v11 h12)))))))))
theorem W_cycles_first_eq (a0 a1 : Value) (h : Heap) (Q : Value → Heap → Prop) : fW Try.prog ⟨[], []⟩ Try.f95 [a0, a1] h Q = W_cycles_first a0 a1 h Q := by kernel_rfl
theorem W_cycles_first_ok {a0 a1 : Value} {h : Heap} {Q : Value → Heap → Prop} (e : W_cycles_first a0 a1 h Q) : acall Try.prog F_cycles_first [a0, a1] h Q :=
  by refine acall_of_fW mixed ⟨[], []⟩ Try.func95 (by kernel_rfl) ?_; rw [W_cycles_first_eq]; exact e

/-- homograph/cycles.blank[bool]: loops {3: [0, 3, 8, 9]}; joins {} -/
def W_cycles_blank_bool (a0 : Value) (h : Heap) (Q : Value → Heap → Prop) : Prop :=
(hW (mksW [(.slice none 0 0)] 24 h a0 a0) fun v1 h2 =>
(oW (lenS v1) fun v3 =>
(∃ (I4 : Nat → List Value → Heap → Prop) (k5 : Nat), gcL h (I4 k5) [a0, v1, v3, (.int .i64 0)] h2 ∧
∀ k7 : Nat, ∀ x8 : Value, ∀ x9 : Value, ∀ x10 : Value, ∀ x11 : Value, ∀ h12, I4 k7 [x8, x9, x10, x11] h12 →
(oW (binN .lss x11 x10) fun v13 =>
(bW v13
(hW (mksW [(.bool false)] 1 h12 x8 x8) fun v14 h15 =>
(oW (iaS 1 x9 x11) fun v16 =>
(sW (stW 1 h15 v16 v14) fun h17 =>
(oW (binN .add x11 (.int .i64 1)) fun v18 =>
(∃ m6, m6 < k7 ∧ gcL h (I4 m6) [x8, x9, x10, v18] h17)))))
(gcV h Q x9 h12))))))
theorem W_cycles_blank_bool_eq (a0 : Value) (h : Heap) (Q : Value → Heap → Prop) : fW Try.prog ⟨[(3, [0, 3, 8, 9])], []⟩ Try.f96 [a0] h Q = W_cycles_blank_bool a0 h Q := by kernel_rfl
theorem W_cycles_blank_bool_ok {a0 : Value} {h : Heap} {Q : Value → Heap → Prop} (e : W_cycles_blank_bool a0 h Q) : acall Try.prog F_cycles_blank_bool [a0] h Q :=
  by refine acall_of_fW mixed ⟨[(3, [0, 3, 8, 9])], []⟩ Try.func96 (by kernel_rfl) ?_; rw [W_cycles_blank_bool_eq]; exact e

/-- homograph/cycles.void: loops {}; joins {} -/
def W_cycles_void (a0 : Value) (h : Heap) (Q : Value → Heap → Prop) : Prop :=
(hW (boxA h a0) fun v1 h2 =>
(oW (ldW true 5 h2 v1) fun v3 =>
(callW Try.prog (fn F_sets_Nullable) [v3] h2 fun v4 h5 =>
(letH (h5 ++ [.row [(.slice none 0 0)] .exact]) fun h6 =>
(sW (stW 1 h6 (.pointer (some ⟨h5.length, 0, none⟩)) v4) fun h7 =>
(gcV h Q (.func (.func F_cycles_void_D1) #[] #[(.pointer (some ⟨h5.length, 0, none⟩))]) h7))))))
theorem W_cycles_void_eq (a0 : Value) (h : Heap) (Q : Value → Heap → Prop) : fW Try.prog ⟨[], []⟩ Try.f118 [a0] h Q = W_cycles_void a0 h Q := by kernel_rfl
theorem W_cycles_void_ok {a0 : Value} {h : Heap} {Q : Value → Heap → Prop} (e : W_cycles_void a0 h Q) : acall Try.prog F_cycles_void [a0] h Q :=
  by refine acall_of_fW mixed ⟨[], []⟩ Try.func118 (by kernel_rfl) ?_; rw [W_cycles_void_eq]; exact e

/-- slices.Compare[[]int,int]: loops {2: [0, 1, 9, 10, 11]}; joins {} -/
def W_slices_Compare_int_int (a0 a1 : Value) (h : Heap) (Q : Value → Heap → Prop) : Prop :=
(oW (lenS a0) fun v1 =>
(∃ (I2 : Nat → List Value → Heap → Prop) (k3 : Nat), gcL h (I2 k3) [a0, a1, a0, v1, (.int .i64 0)] h ∧
∀ k5 : Nat, ∀ x6 : Value, ∀ x7 : Value, ∀ x8 : Value, ∀ x9 : Value, ∀ x10 : Value, ∀ h11, I2 k5 [x6, x7, x8, x9, x10] h11 →
(oW (binN .lss x10 x9) fun v12 =>
(bW v12
(oW (iaS 1 x8 x10) fun v13 =>
(oW (ldW false 1 h11 v13) fun v14 =>
(oW (lenS x7) fun v15 =>
(oW (binN .geq x10 v15) fun v16 =>
(bW v16
(gcV h Q (.int .i64 1) h11)
(oW (iaS 1 x7 x10) fun v17 =>
(oW (ldW false 1 h11 v17) fun v18 =>
(callW Try.prog (fn F_cmp_Compare_int) [v14, v18] h11 fun v19 h20 =>
(oW (binN .neq v19 (.int .i64 0)) fun v21 =>
(bW v21
(gcV h Q v19 h20)
(oW (binN .add x10 (.int .i64 1)) fun v22 =>
(∃ m4, m4 < k5 ∧ gcL h (I2 m4) [x6, x7, x8, x9, v22] h20))))))))))))
(oW (lenS x6) fun v23 =>
(oW (lenS x7) fun v24 =>
(oW (binN .lss v23 v24) fun v25 =>
(bW v25
(gcV h Q (.int .i64 (-1)) h11)
(gcV h Q (.int .i64 0) h11)))))))))
theorem W_slices_Compare_int_int_eq (a0 a1 : Value) (h : Heap) (Q : Value → Heap → Prop) : fW Try.prog ⟨[(2, [0, 1, 9, 10, 11])], []⟩ Try.f119 [a0, a1] h Q = W_slices_Compare_int_int a0 a1 h Q := by kernel_rfl
theorem W_slices_Compare_int_int_ok {a0 a1 : Value} {h : Heap} {Q : Value → Heap → Prop} (e : W_slices_Compare_int_int a0 a1 h Q) : acall Try.prog F_slices_Compare_int_int [a0, a1] h Q :=
  by refine acall_of_fW mixed ⟨[(2, [0, 1, 9, 10, 11])], []⟩ Try.func119 (by kernel_rfl) ?_; rw [W_slices_Compare_int_int_eq]; exact e

/-- maps.Keys[map[int][]int,int,[]int]: loops {}; joins {} -/
def W_maps_Keys_map_int_int_int_int (a0 : Value) (h : Heap) (Q : Value → Heap → Prop) : Prop :=
(hW (boxA h a0) fun v1 h2 =>
(gcV h Q (.func (.func F_maps_Keys_map_int_int_int_int_D1) #[] #[v1]) h2))
theorem W_maps_Keys_map_int_int_int_int_eq (a0 : Value) (h : Heap) (Q : Value → Heap → Prop) : fW Try.prog ⟨[], []⟩ Try.f121 [a0] h Q = W_maps_Keys_map_int_int_int_int a0 h Q := by kernel_rfl
theorem W_maps_Keys_map_int_int_int_int_ok {a0 : Value} {h : Heap} {Q : Value → Heap → Prop} (e : W_maps_Keys_map_int_int_int_int a0 h Q) : acall Try.prog F_maps_Keys_map_int_int_int_int [a0] h Q :=
  by refine acall_of_fW mixed ⟨[], []⟩ Try.func121 (by kernel_rfl) ?_; rw [W_maps_Keys_map_int_int_int_int_eq]; exact e

/-- homograph/cycles.steps: loops {6: [1, 5, 7, 15, 16, 17, 22, 23, 24], 3: [1, 5, 15, 16, 17]}; joins {} -/
def W_cycles_steps (a0 a1 : Value) (h : Heap) (Q : Value → Heap → Prop) : Prop :=
(hW (boxA h a0) fun v1 h2 =>
(oW (faW 0 1 v1) fun v3 =>
(oW (ldW false 1 h2 v3) fun v4 =>
(oW (lenS v4) fun v5 =>
(callW Try.prog (fn F_cycles_blank_bool) [v5] h2 fun v6 h7 =>
(oW (faW 3 1 v1) fun v8 =>
(oW (ldW false 1 h7 v8) fun v9 =>
(oW (lenS v9) fun v10 =>
(∃ (I11 : Nat → List Value → Heap → Prop) (k12 : Nat), gcL h (I11 k12) [a1, v6, v9, v10, (.int .i64 0)] h7 ∧
∀ k14 : Nat, ∀ x15 : Value, ∀ x16 : Value, ∀ x17 : Value, ∀ x18 : Value, ∀ x19 : Value, ∀ h20, I11 k14 [x15, x16, x17, x18, x19] h20 →
(oW (binN .lss x19 x18) fun v21 =>
(bW v21
(oW (iaS 1 x17 x19) fun v22 =>
(oW (ldW false 1 h20 v22) fun v23 =>
(oW (slS 1 h20 v23 (some (.int .i64 1)) none none) fun v24 =>
(oW (lenS v24) fun v25 =>
(∃ (I26 : Nat → List Value → Heap → Prop) (k27 : Nat), gcL h (I26 k27) [x15, x16, v23, x17, x18, x19, v24, v25, (.int .i64 0)] h20 ∧
∀ k29 : Nat, ∀ x30 : Value, ∀ x31 : Value, ∀ x32 : Value, ∀ x33 : Value, ∀ x34 : Value, ∀ x35 : Value, ∀ x36 : Value, ∀ x37 : Value, ∀ x38 : Value, ∀ h39, I26 k29 [x30, x31, x32, x33, x34, x35, x36, x37, x38] h39 →
(oW (binN .lss x38 x37) fun v40 =>
(bW v40
(oW (iaS 1 x36 x38) fun v41 =>
(oW (ldW false 1 h39 v41) fun v42 =>
(oW (binN .add x38 (.int .i64 1)) fun v43 =>
(oW (slS 1 h39 x32 (some (.int .i64 1)) (some v43) none) fun v44 =>
(oW (binN .add x38 (.int .i64 2)) fun v45 =>
(oW (slS 1 h39 x32 (some v45) none none) fun v46 =>
(callW Try.prog x30 [v44, v46] h39 fun v47 h48 =>
(bW v47
(oW (iaS 1 x32 (.int .i64 0)) fun v49 =>
(oW (ldW false 1 h48 v49) fun v50 =>
(oW (iaS 1 x31 v50) fun v51 =>
(oW (ldW false 1 h48 v51) fun v52 =>
(oW (iaS 1 v52 v42) fun v53 =>
(sW (stW 1 h48 v53 (.bool true)) fun h54 =>
(oW (binN .add x38 (.int .i64 1)) fun v55 =>
(∃ m28, m28 < k29 ∧ gcL h (I26 m28) [x30, x31, x32, x33, x34, x35, x36, x37, v55] h54))))))))
(oW (binN .add x38 (.int .i64 1)) fun v56 =>
(∃ m28, m28 < k29 ∧ gcL h (I26 m28) [x30, x31, x32, x33, x34, x35, x36, x37, v56] h48))))))))))
(oW (binN .add x35 (.int .i64 1)) fun v57 =>
(∃ m13, m13 < k14 ∧ gcL h (I11 m13) [x30, x31, x33, x34, v57] h39)))))))))
(gcV h Q x16 h20))))))))))))
theorem W_cycles_steps_eq (a0 a1 : Value) (h : Heap) (Q : Value → Heap → Prop) : fW Try.prog ⟨[(6, [1, 5, 7, 15, 16, 17, 22, 23, 24]), (3, [1, 5, 15, 16, 17])], []⟩ Try.f122 [a0, a1] h Q = W_cycles_steps a0 a1 h Q := by kernel_rfl
theorem W_cycles_steps_ok {a0 a1 : Value} {h : Heap} {Q : Value → Heap → Prop} (e : W_cycles_steps a0 a1 h Q) : acall Try.prog F_cycles_steps [a0, a1] h Q :=
  by refine acall_of_fW mixed ⟨[(6, [1, 5, 7, 15, 16, 17, 22, 23, 24]), (3, [1, 5, 15, 16, 17])], []⟩ Try.func122 (by kernel_rfl) ?_; rw [W_cycles_steps_eq]; exact e

/-- homograph/cycles.alone$1: loops {}; joins {} -/
def W_cycles_alone_D1 (a0 a1 a2 : Value) (h : Heap) (Q : Value → Heap → Prop) : Prop :=
(oW (ldW false 1 h a2) fun v1 =>
(callW Try.prog v1 [a0] h fun v2 h3 =>
(bW v2
(oW (ldW false 1 h3 a2) fun v4 =>
(callW Try.prog v4 [a1] h3 fun v5 h6 =>
(gcV h Q v5 h6)))
(gcV h Q (.bool false) h3))))
theorem W_cycles_alone_D1_eq (a0 a1 a2 : Value) (h : Heap) (Q : Value → Heap → Prop) : fW Try.prog ⟨[], []⟩ Try.f123 [a0, a1, a2] h Q = W_cycles_alone_D1 a0 a1 a2 h Q := by kernel_rfl
theorem W_cycles_alone_D1_ok {a0 a1 a2 : Value} {h : Heap} {Q : Value → Heap → Prop} (e : W_cycles_alone_D1 a0 a1 a2 h Q) : acall Try.prog F_cycles_alone_D1 [a0, a1, a2] h Q :=
  by refine acall_of_fW mixed ⟨[], []⟩ Try.func123 (by kernel_rfl) ?_; rw [W_cycles_alone_D1_eq]; exact e

/-- homograph/homographref18.leads: loops {4: [0, 1, 2, 9, 10, 11]}; joins {} -/
def W_homographref18_leads (a0 a1 a2 : Value) (h : Heap) (Q : Value → Heap → Prop) : Prop :=
(∃ (I1 : Nat → List Value → Heap → Prop) (k2 : Nat), gcL h (I1 k2) [a0, a1, a2, (.bool true), (.bool true), (.int .i64 1)] h ∧
∀ k4 : Nat, ∀ x5 : Value, ∀ x6 : Value, ∀ x7 : Value, ∀ x8 : Value, ∀ x9 : Value, ∀ x10 : Value, ∀ h11, I1 k4 [x5, x6, x7, x8, x9, x10] h11 →
(oW (lenS x5) fun v12 =>
(oW (binN .lss x10 v12) fun v13 =>
(bW v13
(oW (binN .lss x10 x7) fun v14 =>
(bW v14
(bW x8
(oW (iaS 1 x5 x10) fun v15 =>
(oW (ldW false 1 h11 v15) fun v16 =>
(oW (iaS 1 x6 v16) fun v17 =>
(oW (ldW false 1 h11 v17) fun v18 =>
(oW (binN .gtr x10 x7) fun v19 =>
(bW v19
(bW x9
(oW (iaS 1 x5 x10) fun v20 =>
(oW (ldW false 1 h11 v20) fun v21 =>
(oW (iaS 1 x6 v21) fun v22 =>
(oW (ldW false 1 h11 v22) fun v23 =>
(oW (binN .add x10 (.int .i64 1)) fun v24 =>
(∃ m3, m3 < k4 ∧ gcL h (I1 m3) [x5, x6, x7, v18, v23, v24] h11))))))
(oW (binN .add x10 (.int .i64 1)) fun v25 =>
(∃ m3, m3 < k4 ∧ gcL h (I1 m3) [x5, x6, x7, v18, (.bool false), v25] h11)))
(oW (binN .add x10 (.int .i64 1)) fun v26 =>
(∃ m3, m3 < k4 ∧ gcL h (I1 m3) [x5, x6, x7, v18, x9, v26] h11))))))))
(oW (binN .gtr x10 x7) fun v27 =>
(bW v27
(bW x9
(oW (iaS 1 x5 x10) fun v28 =>
(oW (ldW false 1 h11 v28) fun v29 =>
(oW (iaS 1 x6 v29) fun v30 =>
(oW (ldW false 1 h11 v30) fun v31 =>
(oW (binN .add x10 (.int .i64 1)) fun v32 =>
(∃ m3, m3 < k4 ∧ gcL h (I1 m3) [x5, x6, x7, (.bool false), v31, v32] h11))))))
(oW (binN .add x10 (.int .i64 1)) fun v33 =>
(∃ m3, m3 < k4 ∧ gcL h (I1 m3) [x5, x6, x7, (.bool false), (.bool false), v33] h11)))
(oW (binN .add x10 (.int .i64 1)) fun v34 =>
(∃ m3, m3 < k4 ∧ gcL h (I1 m3) [x5, x6, x7, (.bool false), x9, v34] h11)))))
(oW (binN .gtr x10 x7) fun v35 =>
(bW v35
(bW x9
(oW (iaS 1 x5 x10) fun v36 =>
(oW (ldW false 1 h11 v36) fun v37 =>
(oW (iaS 1 x6 v37) fun v38 =>
(oW (ldW false 1 h11 v38) fun v39 =>
(oW (binN .add x10 (.int .i64 1)) fun v40 =>
(∃ m3, m3 < k4 ∧ gcL h (I1 m3) [x5, x6, x7, x8, v39, v40] h11))))))
(oW (binN .add x10 (.int .i64 1)) fun v41 =>
(∃ m3, m3 < k4 ∧ gcL h (I1 m3) [x5, x6, x7, x8, (.bool false), v41] h11)))
(oW (binN .add x10 (.int .i64 1)) fun v42 =>
(∃ m3, m3 < k4 ∧ gcL h (I1 m3) [x5, x6, x7, x8, x9, v42] h11))))))
(bW x8
(bW x8
(oW (binN .gtr x7 (.int .i64 1)) fun v43 =>
(gcV h Q (.tuple #[x9, x8, v43]) h11))
(gcV h Q (.tuple #[x9, x8, (.bool false)]) h11))
(bW x8
(oW (binN .gtr x7 (.int .i64 1)) fun v44 =>
(gcV h Q (.tuple #[(.bool false), x8, v44]) h11))
(gcV h Q (.tuple #[(.bool false), x8, (.bool false)]) h11)))))))
theorem W_homographref18_leads_eq (a0 a1 a2 : Value) (h : Heap) (Q : Value → Heap → Prop) : fW Try.prog ⟨[(4, [0, 1, 2, 9, 10, 11])], []⟩ Try.f126 [a0, a1, a2] h Q = W_homographref18_leads a0 a1 a2 h Q := by kernel_rfl
theorem W_homographref18_leads_ok {a0 a1 a2 : Value} {h : Heap} {Q : Value → Heap → Prop} (e : W_homographref18_leads a0 a1 a2 h Q) : acall Try.prog F_homographref18_leads [a0, a1, a2] h Q :=
  by refine acall_of_fW mixed ⟨[(4, [0, 1, 2, 9, 10, 11])], []⟩ Try.func126 (by kernel_rfl) ?_; rw [W_homographref18_leads_eq]; exact e

/-- homograph/cycles.first$1: loops {}; joins {} -/
def W_cycles_first_D1 (a0 a1 a2 a3 : Value) (h : Heap) (Q : Value → Heap → Prop) : Prop :=
(oW (lenS a0) fun v1 =>
(oW (ldW false 1 h a2) fun v2 =>
(oW (binN .geq v1 v2) fun v3 =>
(bW v3
(oW (ldW false 1 h a3) fun v4 =>
(callW Try.prog v4 [a0] h fun v5 h6 =>
(gcV h Q v5 h6)))
(gcV h Q (.bool false) h)))))
theorem W_cycles_first_D1_eq (a0 a1 a2 a3 : Value) (h : Heap) (Q : Value → Heap → Prop) : fW Try.prog ⟨[], []⟩ Try.f127 [a0, a1, a2, a3] h Q = W_cycles_first_D1 a0 a1 a2 a3 h Q := by kernel_rfl
theorem W_cycles_first_D1_ok {a0 a1 a2 a3 : Value} {h : Heap} {Q : Value → Heap → Prop} (e : W_cycles_first_D1 a0 a1 a2 a3 h Q) : acall Try.prog F_cycles_first_D1 [a0, a1, a2, a3] h Q :=
  by refine acall_of_fW mixed ⟨[], []⟩ Try.func127 (by kernel_rfl) ?_; rw [W_cycles_first_D1_eq]; exact e

/-- homograph/cycles.void$1: loops {}; joins {} -/
def W_cycles_void_D1 (a0 a1 : Value) (h : Heap) (Q : Value → Heap → Prop) : Prop :=
(callW Try.prog (fn F_slices_ContainsFunc_int_int) [a0, (.func (.func F_cycles_void_D1_D1) #[] #[a1])] h fun v1 h2 =>
(oW (unA .not v1) fun v3 =>
(gcV h Q v3 h2)))
theorem W_cycles_void_D1_eq (a0 a1 : Value) (h : Heap) (Q : Value → Heap → Prop) : fW Try.prog ⟨[], []⟩ Try.f139 [a0, a1] h Q = W_cycles_void_D1 a0 a1 h Q := by kernel_rfl
theorem W_cycles_void_D1_ok {a0 a1 : Value} {h : Heap} {Q : Value → Heap → Prop} (e : W_cycles_void_D1 a0 a1 h Q) : acall Try.prog F_cycles_void_D1 [a0, a1] h Q :=
  by refine acall_of_fW mixed ⟨[], []⟩ Try.func139 (by kernel_rfl) ?_; rw [W_cycles_void_D1_eq]; exact e

/-- homograph/cycles.void$1$1: loops {}; joins {} -/
def W_cycles_void_D1_D1 (a0 a1 : Value) (h : Heap) (Q : Value → Heap → Prop) : Prop :=
(oW (ldW false 1 h a1) fun v1 =>
(oW (iaS 1 v1 a0) fun v2 =>
(oW (ldW false 1 h v2) fun v3 =>
(oW (unA .not v3) fun v4 =>
(gcV h Q v4 h)))))
theorem W_cycles_void_D1_D1_eq (a0 a1 : Value) (h : Heap) (Q : Value → Heap → Prop) : fW Try.prog ⟨[], []⟩ Try.f140 [a0, a1] h Q = W_cycles_void_D1_D1 a0 a1 h Q := by kernel_rfl
theorem W_cycles_void_D1_D1_ok {a0 a1 : Value} {h : Heap} {Q : Value → Heap → Prop} (e : W_cycles_void_D1_D1 a0 a1 h Q) : acall Try.prog F_cycles_void_D1_D1 [a0, a1] h Q :=
  by refine acall_of_fW mixed ⟨[], []⟩ Try.func140 (by kernel_rfl) ?_; rw [W_cycles_void_D1_D1_eq]; exact e

/-- cmp.Compare[int]: loops {}; joins {} -/
def W_cmp_Compare_int (a0 a1 : Value) (h : Heap) (Q : Value → Heap → Prop) : Prop :=
(callW Try.prog (fn F_cmp_isNaN_int) [a0] h fun v1 h2 =>
(callW Try.prog (fn F_cmp_isNaN_int) [a1] h2 fun v3 h4 =>
(bW v1
(bW v3
(gcV h Q (.int .i64 0) h4)
(gcV h Q (.int .i64 (-1)) h4))
(bW v3
(gcV h Q (.int .i64 1) h4)
(oW (binN .lss a0 a1) fun v5 =>
(bW v5
(gcV h Q (.int .i64 (-1)) h4)
(oW (binN .gtr a0 a1) fun v6 =>
(bW v6
(gcV h Q (.int .i64 1) h4)
(gcV h Q (.int .i64 0) h4)))))))))
theorem W_cmp_Compare_int_eq (a0 a1 : Value) (h : Heap) (Q : Value → Heap → Prop) : fW Try.prog ⟨[], []⟩ Try.f141 [a0, a1] h Q = W_cmp_Compare_int a0 a1 h Q := by kernel_rfl
theorem W_cmp_Compare_int_ok {a0 a1 : Value} {h : Heap} {Q : Value → Heap → Prop} (e : W_cmp_Compare_int a0 a1 h Q) : acall Try.prog F_cmp_Compare_int [a0, a1] h Q :=
  by refine acall_of_fW mixed ⟨[], []⟩ Try.func141 (by kernel_rfl) ?_; rw [W_cmp_Compare_int_eq]; exact e

/-- cmp.isNaN[int]: loops {}; joins {} -/
def W_cmp_isNaN_int (a0 : Value) (h : Heap) (Q : Value → Heap → Prop) : Prop :=
(oW (binN .neq a0 a0) fun v1 =>
(gcV h Q v1 h))
theorem W_cmp_isNaN_int_eq (a0 : Value) (h : Heap) (Q : Value → Heap → Prop) : fW Try.prog ⟨[], []⟩ Try.f156 [a0] h Q = W_cmp_isNaN_int a0 h Q := by kernel_rfl
theorem W_cmp_isNaN_int_ok {a0 : Value} {h : Heap} {Q : Value → Heap → Prop} (e : W_cmp_isNaN_int a0 h Q) : acall Try.prog F_cmp_isNaN_int [a0] h Q :=
  by refine acall_of_fW mixed ⟨[], []⟩ Try.func156 (by kernel_rfl) ?_; rw [W_cmp_isNaN_int_eq]; exact e

end Go.Ax
