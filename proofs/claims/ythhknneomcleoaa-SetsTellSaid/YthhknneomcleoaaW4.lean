/- The small words of functions that the laws reach. -/
import Derived.Test.YthhknneomcleoaaW1
import Derived.Test.YthhknneomcleoaaW2
import Derived.Test.YthhknneomcleoaaW3
namespace Go.Ax
open Go Go.Proofs

abbrev F_homographlaw17_SetsTell : FuncId := 7
abbrev F_homographlaw17_plain : FuncId := 34

/-- homograph/homographlaw17.SetsTell: loops {}; joins {6: [0, 3]} -/
def W_homographlaw17_SetsTell (a0 a1 : Value) (h : Heap) (Q : Value → Heap → Prop) : Prop :=
(hW (boxA h a1) fun v1 h2 =>
(callW Try.prog (fn F_homographlaw17_awake) [] h2 fun v3 h4 =>
(oW (unA .not v3) fun v5 =>
(bW v5
(gcV h Q (.bool false) h4)
(∃ M6 : List Value → Heap → Prop,
(oW (lenStr a0) fun v7 =>
(oW (binN .gtr v7 (.int .i64 80)) fun v8 =>
(bW v8
(bW (.bool true)
(gcV h Q (.bool true) h4)
(gcL h M6 [a0, v1] h4))
(oW (faW 0 1 v1) fun v9 =>
(oW (ldW false 1 h4 v9) fun v10 =>
(oW (lenS v10) fun v11 =>
(oW (binN .gtr v11 (.int .i64 20)) fun v12 =>
(bW v12
(bW (.bool true)
(gcV h Q (.bool true) h4)
(gcL h M6 [a0, v1] h4))
(oW (faW 3 1 v1) fun v13 =>
(oW (ldW false 1 h4 v13) fun v14 =>
(oW (lenS v14) fun v15 =>
(oW (binN .gtr v15 (.int .i64 40)) fun v16 =>
(bW v16
(gcV h Q (.bool true) h4)
(gcL h M6 [a0, v1] h4)))))))))))))) ∧
∀ x17 : Value, ∀ x18 : Value, ∀ h19, M6 [x17, x18] h19 →
(callW Try.prog (fn F_homographlaw17_made) [x17] h19 fun v20 h21 =>
(letH (h21 ++ [.row [(.slice none 0 0), (.int .i64 0), (.slice none 0 0), (.slice none 0 0), (.int .i64 0)] .exact]) fun h22 =>
(sW (stW 5 h22 (.pointer (some ⟨h21.length, 0, none⟩)) v20) fun h23 =>
(callW Try.prog (fn F_homographref16_Make) [x17] h23 fun v24 h25 =>
(letH (h25 ++ [.row [(.slice none 0 0), (.int .i64 0), (.slice none 0 0), (.slice none 0 0), (.int .i64 0)] .exact]) fun h26 =>
(sW (stW 5 h26 (.pointer (some ⟨h25.length, 0, none⟩)) v24) fun h27 =>
(oW (ldW true 5 h27 (.pointer (some ⟨h21.length, 0, none⟩))) fun v28 =>
(oW (ldW true 5 h27 (.pointer (some ⟨h25.length, 0, none⟩))) fun v29 =>
(callW Try.prog (fn F_sets_Nullable) [v28] h27 fun v30 h31 =>
(keptW [(.pointer (some ⟨h25.length, 0, none⟩)), (.pointer (some ⟨h21.length, 0, none⟩))] h27 h31 ∧
(callW Try.prog (fn F_homographref17_Nullable) [v29] h31 fun v32 h33 =>
(keptW [(.pointer (some ⟨h25.length, 0, none⟩)), (.pointer (some ⟨h21.length, 0, none⟩))] h31 h33 ∧
(callW Try.prog (fn F_homographref17_Bools) [v30, v32] h33 fun v34 h35 =>
(keptW [(.pointer (some ⟨h25.length, 0, none⟩)), (.pointer (some ⟨h21.length, 0, none⟩))] h33 h35 ∧
(bW v34
(oW (ldW true 5 h35 (.pointer (some ⟨h21.length, 0, none⟩))) fun v36 =>
(oW (ldW true 5 h35 (.pointer (some ⟨h25.length, 0, none⟩))) fun v37 =>
(callW Try.prog (fn F_sets_Reached) [v36] h35 fun v38 h39 =>
(keptW [(.pointer (some ⟨h25.length, 0, none⟩)), (.pointer (some ⟨h21.length, 0, none⟩)), (.pointer (some ⟨h25.length, 0, none⟩)), (.pointer (some ⟨h21.length, 0, none⟩))] h35 h39 ∧
(callW Try.prog (fn F_homographref17_Reached) [v37] h39 fun v40 h41 =>
(keptW [(.pointer (some ⟨h25.length, 0, none⟩)), (.pointer (some ⟨h21.length, 0, none⟩)), (.pointer (some ⟨h25.length, 0, none⟩)), (.pointer (some ⟨h21.length, 0, none⟩))] h39 h41 ∧
(callW Try.prog (fn F_homographref17_Bools) [v38, v40] h41 fun v42 h43 =>
(keptW [(.pointer (some ⟨h25.length, 0, none⟩)), (.pointer (some ⟨h21.length, 0, none⟩)), (.pointer (some ⟨h25.length, 0, none⟩)), (.pointer (some ⟨h21.length, 0, none⟩))] h41 h43 ∧
(bW v42
(oW (ldW true 5 h43 (.pointer (some ⟨h21.length, 0, none⟩))) fun v44 =>
(oW (ldW true 5 h43 (.pointer (some ⟨h25.length, 0, none⟩))) fun v45 =>
(callW Try.prog (fn F_sets_Productive) [v44] h43 fun v46 h47 =>
(keptW [(.pointer (some ⟨h25.length, 0, none⟩)), (.pointer (some ⟨h21.length, 0, none⟩)), (.pointer (some ⟨h25.length, 0, none⟩)), (.pointer (some ⟨h21.length, 0, none⟩)), (.pointer (some ⟨h25.length, 0, none⟩)), (.pointer (some ⟨h21.length, 0, none⟩))] h43 h47 ∧
(callW Try.prog (fn F_homographref17_Productive) [v45] h47 fun v48 h49 =>
(keptW [(.pointer (some ⟨h25.length, 0, none⟩)), (.pointer (some ⟨h21.length, 0, none⟩)), (.pointer (some ⟨h25.length, 0, none⟩)), (.pointer (some ⟨h21.length, 0, none⟩)), (.pointer (some ⟨h25.length, 0, none⟩)), (.pointer (some ⟨h21.length, 0, none⟩))] h47 h49 ∧
(callW Try.prog (fn F_homographref17_Bools) [v46, v48] h49 fun v50 h51 =>
(keptW [(.pointer (some ⟨h25.length, 0, none⟩)), (.pointer (some ⟨h21.length, 0, none⟩)), (.pointer (some ⟨h25.length, 0, none⟩)), (.pointer (some ⟨h21.length, 0, none⟩)), (.pointer (some ⟨h25.length, 0, none⟩)), (.pointer (some ⟨h21.length, 0, none⟩))] h49 h51 ∧
(bW v50
(oW (ldW true 5 h51 x18) fun v52 =>
(oW (ldW true 5 h51 x18) fun v53 =>
(callW Try.prog (fn F_sets_Nullable) [v52] h51 fun v54 h55 =>
(keptW [x18, x18, (.pointer (some ⟨h25.length, 0, none⟩)), (.pointer (some ⟨h21.length, 0, none⟩)), (.pointer (some ⟨h25.length, 0, none⟩)), (.pointer (some ⟨h21.length, 0, none⟩)), (.pointer (some ⟨h25.length, 0, none⟩)), (.pointer (some ⟨h21.length, 0, none⟩))] h51 h55 ∧
(callW Try.prog (fn F_homographlaw17_plain) [v53] h55 fun v56 h57 =>
(keptW [x18, x18, (.pointer (some ⟨h25.length, 0, none⟩)), (.pointer (some ⟨h21.length, 0, none⟩)), (.pointer (some ⟨h25.length, 0, none⟩)), (.pointer (some ⟨h21.length, 0, none⟩)), (.pointer (some ⟨h25.length, 0, none⟩)), (.pointer (some ⟨h21.length, 0, none⟩))] h55 h57 ∧
(callW Try.prog (fn F_homographref17_Nullable) [v56] h57 fun v58 h59 =>
(keptW [x18, x18, (.pointer (some ⟨h25.length, 0, none⟩)), (.pointer (some ⟨h21.length, 0, none⟩)), (.pointer (some ⟨h25.length, 0, none⟩)), (.pointer (some ⟨h21.length, 0, none⟩)), (.pointer (some ⟨h25.length, 0, none⟩)), (.pointer (some ⟨h21.length, 0, none⟩))] h57 h59 ∧
(callW Try.prog (fn F_homographref17_Bools) [v54, v58] h59 fun v60 h61 =>
(keptW [x18, x18, (.pointer (some ⟨h25.length, 0, none⟩)), (.pointer (some ⟨h21.length, 0, none⟩)), (.pointer (some ⟨h25.length, 0, none⟩)), (.pointer (some ⟨h21.length, 0, none⟩)), (.pointer (some ⟨h25.length, 0, none⟩)), (.pointer (some ⟨h21.length, 0, none⟩))] h59 h61 ∧
(bW v60
(oW (ldW true 5 h61 x18) fun v62 =>
(oW (ldW true 5 h61 x18) fun v63 =>
(callW Try.prog (fn F_sets_Reached) [v62] h61 fun v64 h65 =>
(keptW [x18, x18, x18, x18, (.pointer (some ⟨h25.length, 0, none⟩)), (.pointer (some ⟨h21.length, 0, none⟩)), (.pointer (some ⟨h25.length, 0, none⟩)), (.pointer (some ⟨h21.length, 0, none⟩)), (.pointer (some ⟨h25.length, 0, none⟩)), (.pointer (some ⟨h21.length, 0, none⟩))] h61 h65 ∧
(callW Try.prog (fn F_homographlaw17_plain) [v63] h65 fun v66 h67 =>
(keptW [x18, x18, x18, x18, (.pointer (some ⟨h25.length, 0, none⟩)), (.pointer (some ⟨h21.length, 0, none⟩)), (.pointer (some ⟨h25.length, 0, none⟩)), (.pointer (some ⟨h21.length, 0, none⟩)), (.pointer (some ⟨h25.length, 0, none⟩)), (.pointer (some ⟨h21.length, 0, none⟩))] h65 h67 ∧
(callW Try.prog (fn F_homographref17_Reached) [v66] h67 fun v68 h69 =>
(keptW [x18, x18, x18, x18, (.pointer (some ⟨h25.length, 0, none⟩)), (.pointer (some ⟨h21.length, 0, none⟩)), (.pointer (some ⟨h25.length, 0, none⟩)), (.pointer (some ⟨h21.length, 0, none⟩)), (.pointer (some ⟨h25.length, 0, none⟩)), (.pointer (some ⟨h21.length, 0, none⟩))] h67 h69 ∧
(callW Try.prog (fn F_homographref17_Bools) [v64, v68] h69 fun v70 h71 =>
(keptW [x18, x18, x18, x18, (.pointer (some ⟨h25.length, 0, none⟩)), (.pointer (some ⟨h21.length, 0, none⟩)), (.pointer (some ⟨h25.length, 0, none⟩)), (.pointer (some ⟨h21.length, 0, none⟩)), (.pointer (some ⟨h25.length, 0, none⟩)), (.pointer (some ⟨h21.length, 0, none⟩))] h69 h71 ∧
(gcV h Q v70 h71)))))))))))
(gcV h Q (.bool false) h61))))))))))))
(gcV h Q (.bool false) h51))))))))))
(gcV h Q (.bool false) h43))))))))))
(gcV h Q (.bool false) h35)))))))))))))))))))))
theorem W_homographlaw17_SetsTell_eq (a0 a1 : Value) (h : Heap) (Q : Value → Heap → Prop) : fW Try.prog ⟨[], [(6, [0, 3])]⟩ Try.f7 [a0, a1] h Q = W_homographlaw17_SetsTell a0 a1 h Q := by kernel_rfl
theorem W_homographlaw17_SetsTell_ok {a0 a1 : Value} {h : Heap} {Q : Value → Heap → Prop} (e : W_homographlaw17_SetsTell a0 a1 h Q) : acall Try.prog F_homographlaw17_SetsTell [a0, a1] h Q :=
  by refine acall_of_fW mixed ⟨[], [(6, [0, 3])]⟩ Try.func7 (by kernel_rfl) ?_; rw [W_homographlaw17_SetsTell_eq]; exact e

/-- homograph/homographlaw17.plain: loops {}; joins {} -/
def W_homographlaw17_plain (a0 : Value) (h : Heap) (Q : Value → Heap → Prop) : Prop :=
(hW (boxA h a0) fun v1 h2 =>
(letH (h2 ++ [.row [(.slice none 0 0), (.int .i64 0), (.slice none 0 0), (.slice none 0 0), (.int .i64 0)] .exact]) fun h3 =>
(oW (faW 0 1 v1) fun v4 =>
(oW (ldW false 1 h3 v4) fun v5 =>
(oW (faW 1 1 v1) fun v6 =>
(oW (ldW false 1 h3 v6) fun v7 =>
(oW (faW 2 1 v1) fun v8 =>
(oW (ldW false 1 h3 v8) fun v9 =>
(oW (faW 3 1 v1) fun v10 =>
(oW (ldW false 1 h3 v10) fun v11 =>
(oW (faW 4 1 v1) fun v12 =>
(oW (ldW false 1 h3 v12) fun v13 =>
(oW (bldW [(.slice none 0 0), (.int .i64 0), (.slice none 0 0), (.slice none 0 0), (.int .i64 0)] [(0, 1, v5), (1, 1, v7), (2, 1, v9), (3, 1, v11), (4, 1, v13)]) fun v14 =>
(sW (stW 5 h3 (.pointer (some ⟨h2.length, 0, none⟩)) v14) fun h15 =>
(oW (ldP true 5 h15 (.pointer (some ⟨h2.length, 0, none⟩))) fun v16 =>
(gcV h Q v16 h15))))))))))))))))
theorem W_homographlaw17_plain_eq (a0 : Value) (h : Heap) (Q : Value → Heap → Prop) : fW Try.prog ⟨[], []⟩ Try.f34 [a0] h Q = W_homographlaw17_plain a0 h Q := by kernel_rfl
theorem W_homographlaw17_plain_ok {a0 : Value} {h : Heap} {Q : Value → Heap → Prop} (e : W_homographlaw17_plain a0 h Q) : acall Try.prog F_homographlaw17_plain [a0] h Q :=
  by refine acall_of_fW mixed ⟨[], []⟩ Try.func34 (by kernel_rfl) ?_; rw [W_homographlaw17_plain_eq]; exact e

end Go.Ax
