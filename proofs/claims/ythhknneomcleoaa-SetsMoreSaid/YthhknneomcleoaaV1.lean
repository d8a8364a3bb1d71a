/- SetsFollow: the walk. -/
import Derived.Test.YthhknneomcleoaaU3
namespace Go.Ax
open Go Go.Proofs Go.RowKit

theorem boxG {H : Heap} {g : Gr} {K : Heap → Prop} (k : K (H ++ [grow g])) : sW (stW 5 (H ++ [.row [(.slice none 0 0), (.int .i64 0), (.slice none 0 0), (.slice none 0 0), (.int .i64 0)] .exact]) (.pointer (some ⟨H.length, 0, none⟩)) g.enc) K := by
  rw [stW_agg, row_app0]
  refine ⟨H ++ [grow g], ?_, k⟩
  show (some (_, Md.exact)).bind _ = _
  rw [Option.bind_some, if_pos (by simp [okCell]), set_app0]; rfl
theorem mkG_n5 {bs : List Nat} : (mkG bs).n ≤ 5 := by
  have := mkG_n (bs := bs)
  have : mkN bs = mkCnt bs 0 := rfl
  have := mkCnt_le (bs := bs) (a := 0)
  omega
theorem firstL_len {g : Gr} (hn : g.n ≤ 1000) : g.firstL.length ≤ 1000000000 := by unfold Gr.firstL; rw [List.length_map, List.length_range]; omega
theorem followL_len {g : Gr} (hn : g.n ≤ 1000) : g.followL.length ≤ 1000000000 := by unfold Gr.followL; rw [List.length_map, List.length_range]; omega
theorem firstL_row {g : Gr} (hn : g.n ≤ 1000) : ∀ r ∈ g.firstL, r.length ≤ 1000000000 := fun r hr => by
  unfold Gr.firstL at hr
  obtain ⟨s, _, rfl⟩ := List.mem_map.1 hr
  have := riseL_len (n := g.n + 1) (S := g.first s)
  omega
theorem followL_row {g : Gr} (hn : g.n ≤ 1000) : ∀ r ∈ g.followL, r.length ≤ 1000000000 := fun r hr => by
  unfold Gr.followL at hr
  obtain ⟨s, _, rfl⟩ := List.mem_map.1 hr
  have := riseL_len (n := g.n + 1) (S := g.follow s)
  omega
theorem Gr.resF_ok {g : Gr} (ok : g.ok) {l : List (List Int)} : g.resF l = lit (l.map ints) := by unfold Gr.resF; rw [if_pos ok]
theorem Gr.res_ok {g : Gr} (ok : g.ok) {l : List Bool} : g.res l = bools l := by unfold Gr.res; rw [if_pos ok]
open Classical in
theorem Gr.resR_ok {g : Gr} (ok : g.ok) {l : List Int} : g.resR l = .tuple #[ints (g.rowL l), .bool (decide (g.rowE l))] := by unfold Gr.resR; rw [if_pos ok]

theorem setsFollow_walk {code : ByteArray} {l : List Int} (hcs : code.size ≤ 1000000000000000) (hi : ∀ x ∈ l, inI x) (hll : l.length ≤ 9223372036854775807) {h : Heap} :
    acall Try.prog F_homographlaw17_SetsFollow [.string code, ints l] h fun v _ => v = .bool true := by
  classical
  apply W_homographlaw17_SetsFollow_ok
  unfold W_homographlaw17_SetsFollow
  refine callW_plain.2 (awake17_spec ?_)
  rw [u_not, oW_some, bW_bool]
  refine ⟨(fun q => by cases q), fun _ => ?_⟩
  rw [lenStr_str, oW_some, n_gtr, oW_some, bW_dec]
  constructor
  · intro _
    rw [bW_true]
    exact gcV_same rfl
  intro hc
  rw [lenI, oW_some, n_gtr, oW_some, bW_dec]
  constructor
  · intro _
    exact gcV_same rfl
  intro hl
  refine callW_plain.2 (made17_spec (by omega) ?_)
  have ok := mkG_ok (bs := bytesN code)
  have hn := mkG_n5 (bs := bytesN code)
  have fin := ok.fin
  rw [letH_eq]
  refine boxG ?_
  refine callW_plain.2 (make16_spec (by omega) ?_)
  generalize mkG (bytesN code) = g at *
  rw [letH_eq]
  refine boxG ?_
  have g1 : GAt (h ++ [grow g] ++ [grow g]) h.length g := GAt.box.app
  have g2 : GAt (h ++ [grow g] ++ [grow g]) (h ++ [grow g]).length g := GAt.box
  generalize hH : h ++ [grow g] ++ [grow g] = H at *
  rw [g1.ld, oW_some]
  refine callW_plain.2 (row_spec17 fin (by omega) ?_)
  rw [Gr.resR_ok ok, exA, oW_some, exB, oW_some, g2.ld, oW_some]
  refine callW_plain.2 (refRow17_spec fin (by omega) ?_)
  rw [Gr.resR_ok ok, exA, oW_some, exB, oW_some, g1.ld, oW_some, g2.ld, oW_some]
  refine callW_plain.2 (first_spec fin ⟨kept_same, callW_plain.2 (refFirst_spec fin ⟨kept_same, ?_⟩)⟩)
  rw [Gr.resF_ok ok]
  refine callW_plain.2 (sameR_spec (firstL_len (by omega)) (firstL_row (by omega)) ⟨kept_same, ?_⟩)
  rw [decide_eq_true rfl, bW_true, g1.ld, oW_some, g2.ld, oW_some]
  refine callW_plain.2 (follow_spec17 fin ⟨kept_same, callW_plain.2 (refFollow_spec fin ⟨kept_same, ?_⟩)⟩)
  rw [Gr.resF_ok ok]
  refine callW_plain.2 (sameR_spec (followL_len (by omega)) (followL_row (by omega)) ⟨kept_same, ?_⟩)
  have hr := riseL_len (n := g.n + 1) (S := g.rowF l)
  rw [decide_eq_true rfl, bW_true]
  refine callW_plain.2 (same_spec (by unfold Gr.rowL; omega) (by unfold Gr.rowL; omega) ⟨kept_same, ?_⟩)
  rw [decide_eq_true rfl, bW_true, eqB_bool, oW_some, ← hH, List.append_assoc]
  exact gcV_box (.bool _) (by simp)

end Go.Ax
