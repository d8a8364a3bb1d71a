/- CountForest: the walk. -/
import Derived.Test.YtoaohmmdhmefpaaB6
namespace Go.Ax
open Go Go.Proofs Go.RowKit

theorem least_one {K : List (List (List Nat))} {W : Nat} (ok : KOk K W) (h : ∀ i, i < K.length → ∃ s, SizT K i s) {i : Nat} (hi : i < K.length) : 0 < (leastR K).getD i 0 := (leastR_pos ok hi).2 (h i hi)

/-- A forest, or none: each knot has a tree. -/
structure FrG (g : Gr) (F : List Kt) : Prop where
  ok : TOk g F 3
  tree : ∀ i, i < (kidsK g F).length → ∃ s, SizT (kidsK g F) i s
theorem FrG.fert {g : Gr} {F : List Kt} (a : FrG g F) : fertR (kidsK g F) = kidsK g F := fertR_all a.ok.kok a.tree
theorem FrG.none {g : Gr} (m : GMk g) : FrG g [] := by
  have hk : kidsK g [] = [] := rfl
  refine ⟨⟨⟨by simp, by simp, by simp, by simp, by have := m.rl; omega, fun r hr => by have := m.head hr; omega⟩, ?_, ?_, ?_⟩, ?_⟩
  · rw [hk]; exact ⟨by simp, by simp, by decide⟩
  · rw [hk]; exact ⟨by simp, by simp, by simp⟩
  · rw [hk]; exact fun i hi => by simp at hi
  · rw [hk]; exact fun i hi => by simp at hi
theorem FrG.len {g : Gr} {F : List Kt} : (kidsK g F).length = F.length := kidsK_len
theorem forestG {s : ByteArray} (hs : s.size ≤ 1000) {n : Nat} (hn : n ≤ 7) {h : Heap} {Q : Value → Heap → Prop} (hq : ∀ F, (F.length ≤ 30 → FrG (mkG (bytesN s)) F) → Q (knots F) h) : acall Try.prog F_homographlaw28_forest [.string s, natV n] h Q :=
  forest_spec hs hn (fun _ _ _ => hq [] fun _ => .none mkG_mk) fun l ks a => hq _ fun hl => ⟨a.base.tok3 (by rw [List.length_map] at hl; exact hl), a.tree⟩

theorem countForest_walk {code : ByteArray} {many : Nat} (hcs : code.size ≤ 1000000000000000) (hm : many < 256) {h : Heap} : acall Try.prog F_homographlaw28_CountForest [.string code, byte many] h fun v _ => v = .bool true := by
  apply W_homographlaw28_CountForest_ok
  unfold W_homographlaw28_CountForest
  repeat' first | ((with_reducible apply s_call))
  refine awake_spec ?_
  repeat' first | ((with_reducible apply s_not)) | ((with_reducible apply s_brB) <;> intro hb <;> try contradiction)
  rw [lenStr_str, oW_some]
  repeat' first | ((with_reducible apply s_gtr)) | ((with_reducible apply s_br) <;> intro hb <;> try (exfalso; omega))
  · exact gcV_same rfl
  have hcl : code.size ≤ 24 := by omega
  refine s_remB (c := 5) rfl (by decide) ?_
  have hr : many % 5 < 5 := Nat.mod_lt _ (by decide)
  generalize many % 5 = n at hr
  refine s_cvB (by omega) ?_
  repeat' first | ((with_reducible apply s_call))
  refine forestG (by omega) (by omega) fun F hF => ?_
  repeat' first | ((with_reducible apply s_gtr)) | ((with_reducible apply s_br) <;> intro hb <;> try (exfalso; omega)) | ((with_reducible apply s_lenM)) | ((with_reducible apply s_call))
  · exact gcV_same rfl
  have a := hF (by omega)
  refine made_spec (by omega) ?_
  repeat' first | ((with_reducible apply s_call)) | ((with_reducible apply s_let)) | ((with_reducible apply s_stA); (· rfl); (· rfl); (· rfl))
  refine make16_spec (by omega) ?_
  generalize mkG (bytesN code) = g at a
  clear hF
  repeat' first | ((with_reducible apply s_rowA); (· first | assumption | exact row_last | exact getRow_app (by first | assumption | exact row_last | exact getRow_app (by first | assumption | exact row_last))); (· rfl)) | ((with_reducible apply s_call)) | ((with_reducible apply s_let)) | ((with_reducible apply s_stA); (· rfl); (· rfl); (· rfl))
  have ok := a.ok
  have hfert := a.fert
  have htree := a.tree
  have hKl : (kidsK g F).length = F.length := FrG.len
  refine cLoops_spec ok fun lp hlp hon => ?_
  have r1 : getRow (h ++ [AObj.row g.cells .exact] ++ [AObj.row g.cells .exact]) h.length = some (g.cells, .exact) := getRow_app row_last
  have r2 : getRow (h ++ [AObj.row g.cells .exact] ++ [AObj.row g.cells .exact]) (h ++ [AObj.row g.cells .exact]).length = some (g.cells, .exact) := row_last
  have hH : ∃ t, h ++ [AObj.row g.cells .exact] ++ [AObj.row g.cells .exact] = h ++ t := ⟨_, List.append_assoc ..⟩
  change ∃ (I23 : Nat → List Value → Heap → Prop) (k24 : Nat), gcL h (I23 k24) [knots F, .pointer (some ⟨h.length, 0, none⟩), .pointer (some ⟨(h ++ [AObj.row g.cells .exact]).length, 0, none⟩), bools lp, .bool false, .int .i64 0] (h ++ [AObj.row g.cells .exact] ++ [AObj.row g.cells .exact]) ∧ _
  generalize h ++ [AObj.row g.cells .exact] ++ [AObj.row g.cells .exact] = H0 at r1 r2 hH ⊢
  generalize (h ++ [AObj.row g.cells .exact]).length = p2 at r2 ⊢
  generalize h.length = p1 at r1 ⊢
  refine ⟨fun m vs H => ∃ (i : Nat) (any : Bool), vs = [knots F, .pointer (some ⟨p1, 0, none⟩), .pointer (some ⟨p2, 0, none⟩), bools lp, .bool any, natV i] ∧ H = H0 ∧ (any = true ↔ ∃ j, j < i ∧ onL lp j) ∧ i ≤ F.length ∧ m = F.length - i, _,
    gcL_same ⟨0, false, rfl, rfl, ⟨fun q => (by cases q), fun ⟨j, q, _⟩ => by omega⟩, by omega, rfl⟩, ?_⟩
  rintro m x0 x1 x2 x3 x4 x5 H ⟨i, any, hv, rfl, hany, hi, rfl⟩
  replace hv := hv.symm
  simp only [List.cons.injEq, and_true] at hv
  obtain ⟨rfl, rfl, rfl, rfl, rfl, rfl⟩ := hv
  repeat' first | ((with_reducible apply s_lss)) | ((with_reducible apply s_br) <;> intro hb <;> try (exfalso; omega)) | ((with_reducible apply s_lenM)) | ((with_reducible apply s_rowA); (· first | assumption | exact row_last | exact getRow_app (by first | assumption | exact row_last | exact getRow_app (by first | assumption | exact row_last))); (· rfl)) | ((with_reducible apply s_call))
  · have hil : i < F.length := by omega
    have hilp : i < lp.length := by omega
    have hoi : onL lp i ↔ lp[i] = true := by unfold onL; rw [getD_at hilp]
    have nx1 : any = true → (true = true ↔ ∃ j, j < i + 1 ∧ onL lp j) := fun q => ⟨fun _ => by obtain ⟨j, h1, h2⟩ := hany.1 q; exact ⟨j, by omega, h2⟩, fun _ => rfl⟩
    have nx2 : any = false → (lp[i] = true ↔ ∃ j, j < i + 1 ∧ onL lp j) := fun q => ⟨fun w => ⟨i, by omega, hoi.2 w⟩, fun ⟨j, h1, h2⟩ => by
      by_cases e : j = i
      · subst e; exact hoi.1 h2
      · have := hany.2 ⟨j, by omega, h2⟩; rw [q] at this; cases this⟩
    have hls := least_one ok.kok htree (i := i) (by omega)
    have hflen := ok.fok.len
    by_cases he : endP (kidsK g F) i
    · refine cTrees_spec ok hil (fun _ => ?_) fun q => absurd (hfert.symm ▸ he) q
      repeat' first | ((with_reducible apply s_rowA); (· first | assumption | exact row_last | exact getRow_app (by first | assumption | exact row_last | exact getRow_app (by first | assumption | exact row_last))); (· rfl)) | ((with_reducible apply s_e20)) | ((with_reducible apply s_e21)) | ((with_reducible apply s_call))
      refine rTrees_spec ok hil (fun _ => ?_) fun q => absurd (hfert.symm ▸ he) q
      repeat' first | ((with_reducible apply s_neq)) | ((with_reducible apply s_not)) | ((with_reducible apply s_brF)) | ((with_reducible apply s_br) <;> intro hb <;> try (exfalso; omega)) | ((with_reducible apply s_brB) <;> intro hb <;> try contradiction) | ((with_reducible refine s_ix (by omega) ?_ ?_); (· rfl)) | ((with_reducible apply s_ld1); (· rfl)) | ((with_reducible apply s_rowA); (· first | assumption | exact row_last | exact getRow_app (by first | assumption | exact row_last | exact getRow_app (by first | assumption | exact row_last))); (· rfl)) | ((with_reducible apply s_e20)) | ((with_reducible apply s_e21)) | ((with_reducible apply s_neB)) | ((with_reducible apply s_call))
      · refine cLeast_spec ok hil ?_
        repeat' first | ((with_reducible apply s_inc); (· omega)) | ((with_reducible apply s_lss)) | ((with_reducible apply s_br) <;> intro hb <;> try (exfalso; omega)) | ((with_reducible apply s_brB) <;> intro hb <;> try contradiction) | ((with_reducible refine s_ix (by omega) ?_ ?_); (· rfl)) | ((with_reducible apply s_ld1); (· rfl))
        · refine ⟨_, ?_, gcL_same ⟨i + 1, true, rfl, rfl, nx1 (by assumption), by omega, rfl⟩⟩
          omega
        · refine ⟨_, ?_, gcL_same ⟨i + 1, lp[i], rfl, rfl, nx2 (by assumption), by omega, rfl⟩⟩
          omega
      · refine cLeast_spec ok hil ?_
        repeat' first | ((with_reducible apply s_inc); (· omega)) | ((with_reducible apply s_lss)) | ((with_reducible apply s_br) <;> intro hb <;> try (exfalso; omega)) | ((with_reducible apply s_brB) <;> intro hb <;> try contradiction) | ((with_reducible refine s_ix (by omega) ?_ ?_); (· rfl)) | ((with_reducible apply s_ld1); (· rfl))
        · refine ⟨_, ?_, gcL_same ⟨i + 1, true, rfl, rfl, nx1 (by assumption), by omega, rfl⟩⟩
          omega
        · refine ⟨_, ?_, gcL_same ⟨i + 1, lp[i], rfl, rfl, nx2 (by assumption), by omega, rfl⟩⟩
          omega
    · refine cTrees_spec ok hil (fun q => absurd (hfert ▸ q) he) fun _ m t => ?_
      repeat' first | ((with_reducible apply s_rowA); (· first | assumption | exact row_last | exact getRow_app (by first | assumption | exact row_last | exact getRow_app (by first | assumption | exact row_last))); (· rfl)) | ((with_reducible apply s_e20)) | ((with_reducible apply s_e21)) | ((with_reducible apply s_call))
      refine rTrees_spec ok hil (fun q => absurd (hfert ▸ q) he) fun _ m' t' => ?_
      have := t.uniq t'
      subst this
      rw [hfert] at t
      have hm1 := tot_all ok.kok.kid htree (by omega) t
      have hc1 : 0 < capN m := capN_pos.2 hm1
      have hct := capN_le (n := m)
      have hnl : lp[i] = false := by
        cases e : lp[i] with
        | false => rfl
        | true => exact absurd ⟨i, .inl rfl, (hon i).1 (hoi.2 e)⟩ he
      repeat' first | ((with_reducible apply s_lss)) | ((with_reducible apply s_neq)) | ((with_reducible apply s_not)) | ((with_reducible apply s_brT)) | ((with_reducible apply s_brF)) | ((with_reducible apply s_br) <;> intro hb <;> try (exfalso; omega)) | ((with_reducible apply s_brB) <;> intro hb <;> try contradiction) | ((with_reducible refine s_ix (by omega) ?_ ?_); (· rfl)) | ((with_reducible apply s_ld1); (· rfl)) | ((with_reducible apply s_rowA); (· first | assumption | exact row_last | exact getRow_app (by first | assumption | exact row_last | exact getRow_app (by first | assumption | exact row_last))); (· rfl)) | ((with_reducible apply s_e20)) | ((with_reducible apply s_e21)) | ((with_reducible apply s_neB)) | ((with_reducible apply s_call))
      · exact absurd (hnl.symm.trans ‹lp[i] = true›) (by decide)
      · refine cLeast_spec ok hil ?_
        repeat' first | ((with_reducible apply s_inc); (· omega)) | ((with_reducible apply s_lss)) | ((with_reducible apply s_br) <;> intro hb <;> try (exfalso; omega)) | ((with_reducible apply s_brB) <;> intro hb <;> try contradiction) | ((with_reducible refine s_ix (by omega) ?_ ?_); (· rfl)) | ((with_reducible apply s_ld1); (· rfl))
        · refine ⟨_, ?_, gcL_same ⟨i + 1, true, rfl, rfl, nx1 (by assumption), by omega, rfl⟩⟩
          omega
        · refine ⟨_, ?_, gcL_same ⟨i + 1, lp[i], rfl, rfl, nx2 (by assumption), by omega, rfl⟩⟩
          omega
  · have e : i = F.length := by omega
    subst e
    refine cCycle_spec ok fun b hb => ?_
    refine bestV_len ?_
    repeat' first | ((with_reducible apply s_gtr)) | ((with_reducible apply s_eqB))
    obtain ⟨t, ht⟩ := hH
    refine gcV_frz (v2 := .bool true) ⟨t, ht⟩ (fun fr r _ => ?_) rfl
    have : (any == decide (0 < (bestN b : Int))) = true := by
      have h1 : any = true ↔ 0 < bestN b := by
        rw [hany]
        constructor
        · rintro ⟨j, h1, h2⟩
          exact hb.pos (hb.iff.2 ⟨j, h1, (hon j).1 h2⟩)
        · intro q
          obtain ⟨j, h1, h2⟩ := hb.iff.1 (by cases b with
            | none => exact absurd q (by decide)
            | some l => rfl)
          exact ⟨j, h1, (hon j).2 h2⟩
      by_cases q : 0 < bestN b
      · rw [h1.2 q, decide_eq_true (by omega)]; rfl
      · have : any = false := by
          cases e : any with
          | false => rfl
          | true => exact absurd (h1.1 e) q
        rw [this, decide_eq_false (by omega)]; rfl
    rw [this]; exact .cl (.bool _)

end Go.Ax
