/- SetsTell: the walk. -/
import Derived.Test.YthhknneomcleoaaV1
import Derived.Test.YthhknneomcleoaaW4
namespace Go.Ax
open Go Go.Proofs Go.RowKit

theorem gr_cl {g : Gr} : Cl g.enc := by
  refine .agg _ fun x hx => ?_
  simp at hx
  rcases hx with rfl | rfl | rfl | rfl | rfl
  · exact Cl.lit' fun e he x hx => by
      obtain ⟨b, _, rfl⟩ := List.mem_map.1 he
      simp at hx; subst hx; exact .str _
  · exact .int _ _
  · exact cl_il
  · exact cl_rows
  · exact .int _ _
theorem plain17_spec {g : Gr} {h : Heap} {Q : Value → Heap → Prop} (hq : Q g.enc h) : acall Try.prog F_homographlaw17_plain [g.enc] h Q := by
  apply W_homographlaw17_plain_ok
  unfold W_homographlaw17_plain
  rw [box_gr, hW_some, letH_eq]
  have ga : GAt (h ++ [grow g] ++ [AObj.row [(.slice none 0 0), (.int .i64 0), (.slice none 0 0), (.slice none 0 0), (.int .i64 0)] .exact]) h.length g := GAt.box.app
  refine ga.names (ga.terms (ga.tokens (ga.rules (ga.start ?_))))
  rw [show bldW [(.slice none 0 0), (.int .i64 0), (.slice none 0 0), (.slice none 0 0), (.int .i64 0)] [(0, 1, lit (g.names.map .string)), (1, 1, .int .i64 g.terms), (2, 1, ints g.tokens), (3, 1, lit (g.rules.map ints)), (4, 1, .int .i64 g.start)] = some g.enc from rfl, oW_some]
  refine boxG ?_
  rw [ldP_agg, row_app0]
  show oW (some g.enc) _
  rw [oW_some, List.append_assoc]
  exact gcV_box gr_cl hq

theorem eqNil_spec {h : Heap} {Q : Value → Heap → Prop} (hq : Q (.bool true) h) : acall Try.prog F_homographref17_Bools [.slice none 0 0, .slice none 0 0] h Q := by
  apply W_homographref17_Bools_ok
  unfold W_homographref17_Bools
  have l0 : lenS (.slice none 0 0) = some (.int .i64 (0 : Int)) := rfl
  rw [l0, oW_some, oW_some, n_neq, oW_some, bW_dec]
  refine ⟨fun q => absurd rfl q, fun _ => ?_⟩
  refine ⟨fun k vs g => vs = [.slice none 0 0, .slice none 0 0, .int .i64 0] ∧ g = h, 0, gcL_same ⟨rfl, rfl⟩, ?_⟩
  rintro k x8 x9 x10 g ⟨hv, rfl⟩
  simp only [List.cons.injEq, and_true] at hv
  obtain ⟨rfl, rfl, rfl⟩ := hv
  rw [l0, oW_some, n_lss, oW_some, bW_dec]
  exact ⟨fun q => absurd q (by omega), fun _ => gcV_same hq⟩
theorem eqRes_spec {g : Gr} {l : List Bool} (hl : l.length = g.n) {h : Heap} {Q : Value → Heap → Prop} (hq : Q (.bool true) h) : acall Try.prog F_homographref17_Bools [g.res l, g.res l] h Q := by
  by_cases ok : g.ok
  · rw [Gr.res_ok ok]
    have := ok.nn
    refine eqBools_spec (by omega) ?_
    rw [decide_eq_true rfl]; exact hq
  · unfold Gr.res
    rw [if_neg ok]
    exact eqNil_spec hq
theorem nullL_num {g : Gr} : g.nullL.length = g.n := by unfold Gr.nullL; simp
theorem prodL_num {g : Gr} : g.prodL.length = g.n := by unfold Gr.prodL; simp
theorem reachL_num {g : Gr} : g.reachL.length = g.n := by unfold Gr.reachL; simp

theorem setsTell_walk {code : ByteArray} {g : Gr} (hcs : code.size ≤ 1000000000000000) (fin : g.Fin) {h : Heap} :
    acall Try.prog F_homographlaw17_SetsTell [.string code, g.enc] h fun v _ => v = .bool true := by
  apply W_homographlaw17_SetsTell_ok
  unfold W_homographlaw17_SetsTell
  rw [box_gr, hW_some]
  have hl0 : (h ++ [grow g]).length = h.length + 1 := by simp
  have ga : GAt (h ++ [grow g]) h.length g := GAt.box
  refine callW_plain.2 (awake17_spec ?_)
  rw [u_not, oW_some, bW_bool]
  refine ⟨(fun q => by cases q), fun _ => ?_⟩
  refine ⟨fun vs H => vs = [.string code, .pointer (some ⟨h.length, 0, none⟩)] ∧ H = h ++ [grow g] ∧ code.size ≤ 80, ?_, ?_⟩
  · rw [lenStr_str, oW_some, n_gtr, oW_some, bW_dec]
    constructor
    · intro _
      rw [bW_true]
      exact gcV_same rfl
    intro hc
    refine ga.names ?_
    rw [lenN, oW_some, n_gtr, oW_some, bW_dec]
    constructor
    · intro _
      rw [bW_true]
      exact gcV_same rfl
    intro _
    refine ga.rules ?_
    rw [lenR, oW_some, n_gtr, oW_some, bW_dec]
    constructor
    · intro _
      exact gcV_same rfl
    intro _
    exact gcL_same ⟨rfl, rfl, by omega⟩
  rintro x17 x18 h19 ⟨hv, rfl, hc⟩
  simp only [List.cons.injEq, and_true] at hv
  obtain ⟨rfl, rfl⟩ := hv
  have ok := mkG_ok (bs := bytesN code)
  refine callW_plain.2 (made17_spec (by omega) ?_)
  rw [letH_eq]
  refine boxG ?_
  refine callW_plain.2 (make16_spec (by omega) ?_)
  generalize mkG (bytesN code) = w at *
  rw [letH_eq]
  refine boxG ?_
  have fin2 := ok.fin
  have hw := ok.nn
  have g0 : GAt (h ++ [grow g] ++ [grow w] ++ [grow w]) h.length g := ga.app.app
  have g1 : GAt (h ++ [grow g] ++ [grow w] ++ [grow w]) (h ++ [grow g]).length w := GAt.box.app
  have g2 : GAt (h ++ [grow g] ++ [grow w] ++ [grow w]) (h ++ [grow g] ++ [grow w]).length w := GAt.box
  generalize h ++ [grow g] ++ [grow w] ++ [grow w] = H at *
  have cmp : ∀ {l : List Bool} {K : Value → Heap → Prop}, l.length = w.n → K (.bool true) H → callW Try.prog (fn F_homographref17_Bools) [w.res l, w.res l] H K := fun hl k => callW_plain.2 (eqRes_spec hl k)
  have cmp0 : ∀ {l : List Bool} {K : Value → Heap → Prop}, l.length = g.n → K (.bool true) H → callW Try.prog (fn F_homographref17_Bools) [g.res l, g.res l] H K := fun hl k => callW_plain.2 (eqRes_spec hl k)
  rw [g1.ld, oW_some, g2.ld, oW_some]
  refine callW_plain.2 (nullable_spec fin2 ⟨kept_same, callW_plain.2 (refNullable_spec fin2 ⟨kept_same, cmp nullL_num ⟨kept_same, ?_⟩⟩)⟩)
  rw [bW_true, g1.ld, oW_some, g2.ld, oW_some]
  refine callW_plain.2 (reached_spec fin2 ⟨kept_same, callW_plain.2 (refReached_spec fin2 ⟨kept_same, cmp reachL_num ⟨kept_same, ?_⟩⟩)⟩)
  rw [bW_true, g1.ld, oW_some, g2.ld, oW_some]
  refine callW_plain.2 (productive_spec fin2 ⟨kept_same, callW_plain.2 (refProductive_spec fin2 ⟨kept_same, cmp prodL_num ⟨kept_same, ?_⟩⟩)⟩)
  rw [bW_true, g0.ld, oW_some, oW_some]
  refine callW_plain.2 (nullable_spec fin ⟨kept_same, callW_plain.2 (plain17_spec ⟨kept_same, callW_plain.2 (refNullable_spec fin ⟨kept_same, cmp0 nullL_num ⟨kept_same, ?_⟩⟩)⟩)⟩)
  rw [bW_true, g0.ld, oW_some, oW_some]
  refine callW_plain.2 (reached_spec fin ⟨kept_same, callW_plain.2 (plain17_spec ⟨kept_same, callW_plain.2 (refReached_spec fin ⟨kept_same, cmp0 reachL_num ⟨kept_same, ?_⟩⟩)⟩)⟩)
  exact gcV_same rfl

end Go.Ax
