/- Count: the reference's kids of a way, and of all. -/
import Derived.Test.YtoaohmmdhmefpaaB2
import Derived.Test.YtoaohmmdhmefpaaC6
import Derived.Test.YtoaohmmdhmefpaaC7
namespace Go.Ax
open Go Go.Proofs Go.RowKit

theorem rkids_spec {g : Gr} {f : List Kt} (ok : FOk g f) {i : Nat} (hi : i < f.length) {way : Nat} (hw : way < f[i].ways.length) {h : Heap} {Q : Value → Heap → Prop}
    (hq : Q (.tuple #[nats (kidN g.rules (f.map Kt.fct) f[i].sym f[i].ways[way]), .bool true]) h) : acall Try.prog F_homographref28_Kids [g.enc, knots f, natV i, natV way] h Q := by
  have hk : f[i] ∈ f := List.getElem_mem hi
  have hwl := ok.wlen _ hk
  have hnr := ok.nr
  have hfl := ok.len
  apply W_homographref28_Kids_ok
  unfold W_homographref28_Kids
  rw [box_gr, hW_some]
  have hB0 : ∃ t, h ++ [grow g] ++ [krow f[i]] ++ [.row [.int .i64 f[i].ways[way].rule, ints f[i].ways[way].at_] .exact] = h ++ t := ⟨_, by rw [List.append_assoc, List.append_assoc]⟩
  repeat' first | ((with_reducible apply s_eql)) | ((with_reducible apply s_br) <;> intro hb <;> try (exfalso; omega)) | ((with_reducible refine s_ix (by omega) ?_ ?_); (· rfl)) | ((with_reducible apply s_lda); (· rfl); (· rfl)) | ((with_reducible apply s_fld); (· first | assumption | exact row_last | exact getRow_app (by first | assumption | exact row_last | exact getRow_app (by first | assumption | exact row_last))); (· rfl)) | ((with_reducible apply s_let)) | ((with_reducible apply s_stA); (· rfl); (· rfl); (· rfl))
  · refine gcV_frz hB0 (fun fr r hf => .tup2 (.lit0 _ _) (.cl (.bool _))) ?_
    unfold kidN at hq
    rw [kidsF_neg (by omega)] at hq
    exact hq
  obtain ⟨rn, hrn, hwr, hpos, hhd, hat, hkf⟩ := ok.rule hk (List.getElem_mem hw) hb
  have hkin : ∀ x ∈ kidsF g.rules f[i].sym f[i].ways[way], x ∈ f.map Kt.fct := ((ok.ways _ hk _ (List.getElem_mem hw)).resolve_left hb).2
  have hkl := kidsF_len ok (sym := f[i].sym) (w := f[i].ways[way])
  have ag : getRow (h ++ [grow g] ++ [krow f[i]] ++ [.row [.int .i64 f[i].ways[way].rule, ints f[i].ways[way].at_] .exact]) h.length = some (g.cells, .exact) := getRow_app (getRow_app row_last)
  have ak : getRow (h ++ [grow g] ++ [krow f[i]] ++ [.row [.int .i64 f[i].ways[way].rule, ints f[i].ways[way].at_] .exact]) (h ++ [grow g]).length = some (kr f[i], .exact) := getRow_app row_last
  have ar : getRow (h ++ [grow g] ++ [krow f[i]] ++ [.row [.int .i64 f[i].ways[way].rule, ints f[i].ways[way].at_] .exact]) (h ++ [grow g] ++ [krow f[i]]).length = some ([.int .i64 f[i].ways[way].rule, ints f[i].ways[way].at_], .exact) := row_last
  have hl1 := getRow_lt ag
  have hl2 := getRow_lt ak
  have hl3 := getRow_lt ar
  generalize (h ++ [grow g] ++ [krow f[i]]).length = pr at ar hl3 ⊢
  generalize (h ++ [grow g]).length = pk at ak hl2 ⊢
  generalize h ++ [grow g] ++ [krow f[i]] ++ [AObj.row [.int .i64 f[i].ways[way].rule, ints f[i].ways[way].at_] .exact] = B at ag ak ar hB0 hl1 hl2 hl3
  refine ⟨fun vs H => vs = [knots f, natV way, .pointer (some ⟨h.length, 0, none⟩), .pointer (some ⟨pk, 0, none⟩)] ∧ H = B, ?_, ?_⟩
  · have hg0 : g.rules[rn].getD 0 0 = g.rules[rn][0] := getD_at hpos
    rw [hwr] at ar
    repeat' first | ((with_reducible apply s_lss)) | ((with_reducible apply s_geq)) | ((with_reducible apply s_eql)) | ((with_reducible apply s_neq)) | ((with_reducible apply s_br) <;> intro hb <;> try (exfalso; omega)) | ((with_reducible apply s_lenM)) | ((with_reducible refine s_ix (by omega) ?_ ?_); (· rfl)) | ((with_reducible refine s_ix0 (by omega) ?_ ?_); (· rfl)) | ((with_reducible apply s_ld1); (· rfl)) | ((with_reducible apply s_fld); (· first | assumption | exact row_last | exact getRow_app (by first | assumption | exact row_last | exact getRow_app (by first | assumption | exact row_last))); (· rfl))
    exact gcL_same ⟨rfl, rfl⟩
  rintro x54 x55 x56 x57 h58 ⟨hv, rfl⟩
  replace hv := hv.symm
  simp only [List.cons.injEq, and_true] at hv
  obtain ⟨rfl, rfl, rfl, rfl⟩ := hv
  repeat' first | ((with_reducible apply s_rowA); (· first | assumption | exact row_last | exact getRow_app (by first | assumption | exact row_last | exact getRow_app (by first | assumption | exact row_last))); (· rfl)) | ((with_reducible apply s_call))
  refine kids27_spec (k := f[i]) hw (by omega) (by omega) (fun r hr => by have := ok.rl r hr; omega) ?_
  unfold kidN at hq
  generalize hK : kidsF g.rules f[i].sym f[i].ways[way] = K at hq hkin hkl
  refine ⟨fun m vs H => ∃ (q : Nat) (v : Value) (g' : Heap), vs = [knots f, facts K, v, natV q] ∧ H = h58 ++ g' ∧ Acc 1 h58.length (h58 ++ g') v (((K.take q).map fun x => (f.map Kt.fct).idxOf x).map natV) ∧ q ≤ K.length ∧ m = K.length - q, _,
    gcL_same ⟨0, _, [], rfl, (List.append_nil _).symm, .nil, by omega, rfl⟩, ?_⟩
  rintro m x0 x1 x2 x3 H ⟨q, v, g', hv, rfl, a, hqK, rfl⟩
  replace hv := hv.symm
  simp only [List.cons.injEq, and_true] at hv
  obtain ⟨rfl, rfl, rfl, rfl⟩ := hv
  repeat' first | ((with_reducible apply s_lss)) | ((with_reducible apply s_br) <;> intro hb <;> try (exfalso; omega)) | ((with_reducible apply s_lenM)) | ((with_reducible refine s_ix (by omega) ?_ ?_); (· rfl)) | ((with_reducible apply s_fap); (· rfl)) | ((with_reducible apply s_call))
  · have hql : q < K.length := by omega
    have hin := hkin _ (List.getElem_mem hql)
    have hfk : findK f K[q] = ((f.map Kt.fct).idxOf K[q] : Int) := by unfold findK; rw [if_pos hin]
    refine find_spec (s := K[q].1) (a := K[q].2.1) (b := K[q].2.2) (by omega) ?_
    rw [hfk]
    repeat' first | ((with_reducible apply s_lss)) | ((with_reducible apply s_br) <;> intro hb <;> try (exfalso; omega))
    refine tNat.push (x := (f.map Kt.fct).idxOf K[q]) (by omega) a rfl rfl (by rw [List.length_map, List.length_take]; omega) (by rw [List.length_map, List.length_take]; omega) fun v' g2 a2 _ _ _ => ?_
    repeat' first | ((with_reducible apply s_inc); (· omega))
    refine ⟨_, ?_, gcL_same ⟨q + 1, v', g2, rfl, rfl, by rw [take_succ' hql, List.map_append]; exact a2, by omega, rfl⟩⟩
    omega
  · have e : q = K.length := by omega
    subst e
    rw [List.take_length] at a
    exact gcV_frz (by obtain ⟨t, rfl⟩ := hB0; exact ⟨t ++ g', List.append_assoc _ _ _⟩) (fun fr r hf => .tup2 (a.gvF tNat (by omega) (by omega) hf) (.cl (.bool _))) hq

end Go.Ax

namespace Go.Ax
open Go Go.Proofs Go.RowKit

/-- The kids of each way, of each knot. -/
def kidsOf (g : Gr) (f : List Kt) (k : Kt) : List (List Nat) := k.ways.map fun w => kidN g.rules (f.map Kt.fct) k.sym w
def kidsK (g : Gr) (f : List Kt) : List (List (List Nat)) := f.map (kidsOf g f)
abbrev wnats (l : List (List Nat)) : Value := lit (l.map nats)
abbrev knV (K : List (List (List Nat))) : Value := lit (K.map wnats)
theorem tW : Things 1 wnats := tLit tNats

theorem rkidsAll_spec {g : Gr} {f : List Kt} (ok : FOk g f) {h : Heap} {Q : Value → Heap → Prop} (hq : Q (knV (kidsK g f)) h) : acall Try.prog F_homographref28_kids [g.enc, knots f] h Q := by
  have hfl := ok.len
  apply W_homographref28_kids_ok
  unfold W_homographref28_kids
  rw [box_gr, hW_some]
  have ag : getRow (h ++ [grow g]) h.length = some (g.cells, .exact) := row_last
  repeat' first | refine s_mks (by omega) (by omega) ?_ | ((with_reducible apply s_lenM))
  have a0 := acc_mks (N := f.length) (h := h ++ [grow g]) (z := .slice none 0 0) rfl
  have ag := getRow_app (t := [.row (List.replicate f.length (.slice none 0 0)) .exact]) ag
  rw [List.append_assoc] at ag a0 ⊢
  refine ⟨fun m vs H => ∃ (i : Nat) (v : Value) (g' : Heap), vs = [knots f, plit g.cells, v, natV i] ∧ H = h ++ g' ∧ Acc 1 h.length (h ++ g') v (((f.take i).map (kidsOf g f)).map wnats ++ List.replicate (f.length - i) (.slice none 0 0)) ∧ i ≤ f.length ∧ m = f.length - i, f.length,
    gcL_acc1 (sz := 1) (es2 := ((f.take 0).map (kidsOf g f)).map wnats ++ List.replicate (f.length - 0) (.slice none 0 0)) (a0.low (by simp)) (fun x hx => by rw [(List.mem_replicate.1 hx).2]; rfl) (fun x hx => by simp at hx; rw [hx.2]; rfl) (by simp) (fun fr r _ k p q => ?_) (fun fr r v' g' hfr gv a' =>
      ⟨[knots f, plit g.cells, v', natV 0], ⟨.cl tKt.clL, .box (hfr _ (by simp) fun ⟨_, _, _, q⟩ => by simp at q) ag grow_cl, gv, .cl (.int _ _), trivial⟩, 0, v', g', rfl, rfl, a', by omega, rfl⟩), ?_⟩
  · simp only [List.take_zero, List.map_nil, List.nil_append, List.getElem_replicate]
    exact ⟨.cl .nilS, trivial⟩
  clear a0 ag
  rintro m x0 x1 x2 x3 H ⟨i, v, g', hv, rfl, a, hi, rfl⟩
  replace hv := hv.symm
  simp only [List.cons.injEq, and_true] at hv
  obtain ⟨rfl, rfl, rfl, rfl⟩ := hv
  repeat' first | ((with_reducible apply s_lss)) | ((with_reducible apply s_br) <;> intro hb <;> try (exfalso; omega)) | ((with_reducible apply s_lenM))
  rotate_left
  · have e : i = f.length := by omega
    subst e
    rw [List.take_length, Nat.sub_self, List.replicate_zero, List.append_nil] at a
    exact tW.done (by omega) a rfl ⟨[], (List.append_nil _).symm⟩ hq
  have hil : i < f.length := by omega
  have hwl := ok.wlen _ (List.getElem_mem hil)
  obtain ⟨k, hk⟩ : ∃ k, f.length - i = k + 1 := ⟨f.length - i - 1, by omega⟩
  rw [hk] at a
  have G := Grid.start (f := nats) (sz := 1) a
  refine ⟨fun m vs H => ∃ (w : Nat) (cur : Value) (g' : Heap), vs = [knots f, plit g.cells, v, natV i, natV w] ∧ H = h ++ g' ∧ Grid 1 nats h.length (h ++ g') v ((f.take i).map (kidsOf g f)) cur ((f[i].ways.take w).map fun w => kidN g.rules (f.map Kt.fct) f[i].sym w) k ∧ w ≤ f[i].ways.length ∧ m = f[i].ways.length - w, _,
    gcL_same ⟨0, _, g', rfl, rfl, G, by omega, rfl⟩, ?_⟩
  clear G a
  rintro m x0 x1 x2 x3 x4 H ⟨w, cur, g', hv, rfl, G, hw, rfl⟩
  replace hv := hv.symm
  simp only [List.cons.injEq, and_true] at hv
  obtain ⟨rfl, rfl, rfl, rfl, rfl⟩ := hv
  repeat' first | ((with_reducible apply s_inc); (· omega)) | ((with_reducible apply s_lss)) | ((with_reducible apply s_br) <;> intro hb <;> try (exfalso; omega)) | ((with_reducible apply s_lenM)) | ((with_reducible refine s_ix (by omega) ?_ ?_); (· rfl)) | ((with_reducible apply s_fap); (· rfl)) | ((with_reducible apply s_ldA); (· rfl)) | ((with_reducible apply s_call))
  · have hwl2 : w < f[i].ways.length := by omega
    refine rkids_spec ok hil hwl2 ?_
    repeat' first | ((with_reducible apply s_brT)) | ((with_reducible apply s_e20)) | ((with_reducible apply s_e21))
    refine G.push tNats (by omega) rfl (by simp; omega) rfl (by rw [List.length_map, List.length_take]; omega) (by rw [List.length_map, List.length_take]; omega) fun cur' g2 G2 _ _ => ?_
    repeat' first | ((with_reducible apply s_inc); (· omega))
    refine ⟨_, ?_, gcL_same ⟨w + 1, cur', g2, rfl, rfl, by rw [take_succ' hwl2, List.map_append]; exact G2, by omega, rfl⟩⟩
    omega
  · have e : w = f[i].ways.length := by omega
    subst e
    rw [List.take_length] at G
    have e2 : (f.take i).map (kidsOf g f) ++ [kidsOf g f f[i]] = (f.take (i + 1)).map (kidsOf g f) := by rw [take_succ' hil, List.map_append]; rfl
    refine ⟨f.length - (i + 1), by omega, G.next tNats (by omega) fun fr r v' g' hfr gv a' => ⟨[knots f, plit g.cells, v', natV (i + 1)], ⟨.cl tKt.clL, .cl (.plit' grow_cl), gv, .cl (.int _ _), trivial⟩, i + 1, v', g', rfl, rfl, ?_, by omega, rfl⟩⟩
    rw [← e2, show f.length - (i + 1) = k by omega]
    exact a'

end Go.Ax

namespace Go.Ax
open Go Go.Proofs Go.RowKit

theorem encF_cl {E : List (Fct × Int)} : ∀ p ∈ encF E, Cl p.2 := fun p hp => by
  obtain ⟨q, _, rfl⟩ := List.mem_map.1 hp; exact .int _ _
theorem of_spec {g : Gr} {f : List Kt} (ok : FOk g f) {h : Heap} {Q : Value → Heap → Prop} (hq : Q (knV (kidsK g f)) h) : acall Try.prog F_count_of [g.enc, knots f] h Q := by
  have hfl := ok.len
  apply W_count_of_ok
  unfold W_count_of
  rw [box_gr, hW_some]
  have ag : getRow (h ++ [grow g]) h.length = some (g.cells, .exact) := row_last
  repeat' first | ((with_reducible apply s_lenM)) | ((with_reducible apply s_let))
  refine ⟨fun m vs H => ∃ (i : Nat) (T : Heap), vs = [knots f, .pointer (some ⟨h.length, 0, none⟩), .map (some (h ++ [grow g]).length), knots f, natV f.length, natV i] ∧ H = (h ++ [grow g]) ++ (.map (encF (atE f i)) :: T) ∧ i ≤ f.length ∧ m = f.length - i, _, gcL_same ⟨0, [], rfl, rfl, by omega, rfl⟩, ?_⟩
  rintro m x0 x1 x2 x3 x4 x5 H ⟨i, T, hv, rfl, hi, rfl⟩
  replace hv := hv.symm
  simp only [List.cons.injEq, and_true] at hv
  obtain ⟨rfl, rfl, rfl, rfl, rfl, rfl⟩ := hv
  have am : getMap ((h ++ [grow g]) ++ (.map (encF (atE f i)) :: T)) (h ++ [grow g]).length = some (encF (atE f i)) := by rw [map_app0]; rfl
  repeat' first | ((with_reducible apply s_lss)) | ((with_reducible apply s_br) <;> intro hb <;> try (exfalso; omega)) | ((with_reducible apply s_lenM)) | ((with_reducible refine s_ix (by omega) ?_ ?_); (· rfl)) | ((with_reducible apply s_lda); (· rfl); (· rfl)) | ((with_reducible apply s_fld); (· first | assumption | exact row_last | exact getRow_app (by first | assumption | exact row_last | exact getRow_app (by first | assumption | exact row_last))); (· rfl)) | ((with_reducible apply s_rowA); (· first | assumption | exact row_last | exact getRow_app (by first | assumption | exact row_last | exact getRow_app (by first | assumption | exact row_last))); (· rfl)) | ((with_reducible apply s_let)) | ((with_reducible apply s_stA); (· rfl); (· rfl); (· rfl)) | ((with_reducible apply s_bld3))
  · have hil : i < f.length := by omega
    have hinf := ok.inf _ (List.getElem_mem hil)
    have hinE : ∀ p ∈ atE f i, inF p.1 := atE_inF fun x hx => ok.inf x hx
    have hs := atE_succ hil
    refine lk_fct (E := atE f i) (k := f[i].fct) (getMap_app (getMap_app am)) hinE hinf ?_
    repeat' first | ((with_reducible apply s_inc); (· omega)) | ((with_reducible apply s_not)) | ((with_reducible apply s_brB) <;> intro hb <;> try contradiction) | ((with_reducible apply s_rowA); (· first | assumption | exact row_last | exact getRow_app (by first | assumption | exact row_last | exact getRow_app (by first | assumption | exact row_last))); (· rfl)) | ((with_reducible apply s_e20)) | ((with_reducible apply s_e21))
    · rw [if_neg (by simpa using hb)] at hs
      refine up_fct (E := atE f i) (k := f[i].fct) (v := i) (getMap_app (getMap_app am)) hinE hinf (by simpa using hb) ?_
      repeat' first | ((with_reducible apply s_inc); (· omega))
      refine ⟨_, ?_, gcL_same ⟨i + 1, T ++ _, rfl, by rw [List.append_assoc, List.append_assoc, set_app0, hs]; simp; rfl, by omega, rfl⟩⟩
      omega
    · rw [if_pos (by simpa using hb)] at hs
      refine ⟨_, ?_, gcL_same ⟨i + 1, T ++ _, rfl, by rw [hs]; simp; rfl, by omega, rfl⟩⟩
      omega
  have e : i = f.length := by omega
  subst e
  repeat' first | refine s_mks (by omega) (by omega) ?_ | ((with_reducible apply s_lenM))
  have a0 := acc_mks (N := f.length) (h := h ++ [grow g] ++ (.map (encF (atE f f.length)) :: T)) (z := .slice none 0 0) rfl
  have ag0 := getRow_app (t := [.row (List.replicate f.length (.slice none 0 0)) .exact]) (getRow_app (t := .map (encF (atE f f.length)) :: T) ag)
  have am0 := getMap_app (t := [.row (List.replicate f.length (.slice none 0 0)) .exact]) am
  have hml : h.length ≤ (h ++ [grow g]).length := by simp
  have hvl : h.length ≠ (h ++ [grow g] ++ AObj.map (encF (atE f f.length)) :: T).length := by simp
  have hgm : h.length ≠ (h ++ [grow g]).length := by simp
  generalize (h ++ [grow g]).length = mi at am0 hml hgm ⊢
  rw [List.append_assoc, List.append_assoc] at a0 ag0 am0 ⊢
  refine ⟨fun m vs H => ∃ (i : Nat) (v : Value) (mi : Nat) (g' : Heap), vs = [plit g.cells, .map (some mi), v, knots f, natV f.length, natV i] ∧ H = h ++ g' ∧ Acc 1 h.length (h ++ g') v (((f.take i).map (kidsOf g f)).map wnats ++ List.replicate (f.length - i) (.slice none 0 0)) ∧
      getMap (h ++ g') mi = some (encF (atE f f.length)) ∧ h.length ≤ mi ∧ i ≤ f.length ∧ m = f.length - i, f.length,
    gcL_acc1m (sz := 1) (es2 := ((f.take 0).map (kidsOf g f)).map wnats ++ List.replicate (f.length - 0) (.slice none 0 0)) (a0.low (by simp)) (fun x hx => by rw [(List.mem_replicate.1 hx).2]; rfl) (fun x hx => by simp at hx; rw [hx.2]; rfl) (by simp) am0 hml encF_cl (fun fr r _ k p q => ?_) (fun fr r v' mi' g' hfr gv gm a' m' ml' =>
      ⟨[plit g.cells, .map (some mi'), v', knots f, natV f.length, natV 0], ⟨.box (hfr _ (Nat.le_refl _) (fun ⟨_, _, _, q⟩ => by simp at q) hgm) ag0 grow_cl, gm, gv, .cl tKt.clL, .cl (.int _ _), .cl (.int _ _), trivial⟩, 0, v', mi', g', rfl, rfl, a', m', ml', by omega, rfl⟩), ?_⟩
  · simp only [List.take_zero, List.map_nil, List.nil_append, List.getElem_replicate]
    exact ⟨.cl .nilS, trivial⟩
  clear a0 ag0 am0 hml hvl hgm hi am ag
  rintro m x0 x1 x2 x3 x4 x5 H ⟨i, v, mi, g', hv, rfl, a, am, hml, hi, rfl⟩
  replace hv := hv.symm
  simp only [List.cons.injEq, and_true] at hv
  obtain ⟨rfl, rfl, rfl, rfl, rfl, rfl⟩ := hv
  repeat' first | ((with_reducible apply s_lss)) | ((with_reducible apply s_br) <;> intro hb <;> try (exfalso; omega)) | ((with_reducible apply s_lenM)) | ((with_reducible refine s_ix (by omega) ?_ ?_); (· rfl)) | ((with_reducible apply s_lda); (· rfl); (· rfl)) | ((with_reducible apply s_fld); (· first | assumption | exact row_last | exact getRow_app (by first | assumption | exact row_last | exact getRow_app (by first | assumption | exact row_last))); (· rfl)) | ((with_reducible apply s_let)) | ((with_reducible apply s_stA); (· rfl); (· rfl); (· rfl))
  rotate_left
  · have e : i = f.length := by omega
    subst e
    rw [List.take_length, Nat.sub_self, List.replicate_zero, List.append_nil] at a
    exact tW.done (by omega) a rfl ⟨[], (List.append_nil _).symm⟩ hq
  have hil : i < f.length := by omega
  have hwl := ok.wlen _ (List.getElem_mem hil)
  obtain ⟨k, hk⟩ : ∃ k, f.length - i = k + 1 := ⟨f.length - i - 1, by omega⟩
  rw [hk] at a
  have ak : getRow (h ++ g' ++ [krow f[i]]) (h ++ g').length = some (kr f[i], .exact) := row_last
  have am := getMap_app (t := [krow f[i]]) am
  have G := Grid.start (f := nats) (sz := 1) (a.appR (t := [krow f[i]]))
  have hvp : ∀ j, lies v j → j < (h ++ g').length := fun j hj => a.ltA hj
  generalize (h ++ g').length = pk at ak hvp ⊢
  rw [List.append_assoc] at ak am ⊢
  refine ⟨fun m vs H => ∃ (w : Nat) (cur : Value) (g' : Heap), vs = [plit g.cells, .map (some mi), v, natV i, .pointer (some ⟨pk, 0, none⟩), knots f, natV f.length, natV i, natV f[i].ways.length, natV w] ∧ H = h ++ g' ∧
    Grid 1 nats h.length (h ++ g') v ((f.take i).map (kidsOf g f)) cur ((f[i].ways.take w).map fun w => kidN g.rules (f.map Kt.fct) f[i].sym w) k ∧ getMap (h ++ g') mi = some (encF (atE f f.length)) ∧ getRow (h ++ g') pk = some (kr f[i], .exact) ∧ (∀ j, lies cur j → pk < j) ∧ w ≤ f[i].ways.length ∧ m = f[i].ways.length - w, _,
    gcL_same ⟨0, _, _, rfl, rfl, G, am, ak, (fun j ⟨_, _, _, q⟩ => by cases q), by omega, rfl⟩, ?_⟩
  clear G a am ak
  rintro m x0 x1 x2 x3 x4 x5 x6 x7 x8 x9 H ⟨w, cur, g', hv, rfl, G, am, ak, hcp, hw, rfl⟩
  replace hv := hv.symm
  simp only [List.cons.injEq, and_true] at hv
  obtain ⟨rfl, rfl, rfl, rfl, rfl, rfl, rfl, rfl, rfl, rfl⟩ := hv
  repeat' first | ((with_reducible apply s_inc); (· omega)) | ((with_reducible apply s_lss)) | ((with_reducible apply s_br) <;> intro hb <;> try (exfalso; omega)) | ((with_reducible apply s_ldA); (· rfl)) | ((with_reducible apply s_rowA); (· first | assumption | exact row_last | exact getRow_app (by first | assumption | exact row_last | exact getRow_app (by first | assumption | exact row_last))); (· rfl)) | ((with_reducible apply s_call))
  · have hwl2 : w < f[i].ways.length := by omega
    refine ckids_spec ok (List.getElem_mem hil) hwl2 am ?_
    repeat' first | ((with_reducible apply s_brT)) | ((with_reducible apply s_e20)) | ((with_reducible apply s_e21))
    refine G.push tNats (by omega) rfl (by simp; omega) rfl (by rw [List.length_map, List.length_take]; omega) (by rw [List.length_map, List.length_take]; omega) fun cur' g2 G2 fr2 nw2 => ?_
    have hpl := getRow_lt ak
    have hml2 := getMap_lt am
    repeat' first | ((with_reducible apply s_inc); (· omega))
    refine ⟨_, ?_, gcL_same ⟨w + 1, cur', g2, rfl, rfl, by rw [take_succ' hwl2, List.map_append]; exact G2, (getMap_same (fr2 mi hml2 (fun q => lies_row G.out q am) fun q => lies_row G.acc q am)).trans am, (getRow_same (fr2 pk hpl (fun q => by have := hvp _ q; omega) fun q => by have := hcp _ q; omega)).trans ak, fun j hj => (nw2 j hj).elim (hcp j) fun q => by omega, by omega, rfl⟩⟩
    omega
  · have e : w = f[i].ways.length := by omega
    subst e
    rw [List.take_length] at G
    have e2 : (f.take i).map (kidsOf g f) ++ [kidsOf g f f[i]] = (f.take (i + 1)).map (kidsOf g f) := by rw [take_succ' hil, List.map_append]; rfl
    refine ⟨f.length - (i + 1), by omega, G.nextM tNats (by omega) am hml encF_cl fun fr r v' mi' g' hfr gv gm a' m' ml' => ⟨[plit g.cells, .map (some mi'), v', knots f, natV f.length, natV (i + 1)], ⟨.cl (.plit' grow_cl), gm, gv, .cl tKt.clL, .cl (.int _ _), .cl (.int _ _), trivial⟩, i + 1, v', mi', g', rfl, rfl, ?_, m', ml', by omega, rfl⟩⟩
    rw [← e2, show f.length - (i + 1) = k by omega]
    exact a'

end Go.Ax

namespace Go.Ax
open Go Go.Proofs Go.RowKit

theorem addN_of {a b : Nat} (h : a + b ≤ topN) : addN a b = a + b := by unfold addN; rw [if_neg (by omega)]
theorem sumL_succ {out l : List Nat} {j : Nat} (hj : j < l.length) : sumL out (l.take (j + 1)) = sumL out (l.take j) + out.getD l[j] 0 := by
  unfold sumL; rw [take_succ' hj, List.map_append, List.sum_append]; simp
theorem sumL_take {out l : List Nat} {j : Nat} : sumL out (l.take j) ≤ sumL out l := by
  unfold sumL
  conv => rhs; rw [← List.take_append_drop j l, List.map_append, List.sum_append]
  omega
theorem all_take {p : Nat → Prop} {l : List Nat} {j : Nat} (hj : j < l.length) : (∀ x ∈ l.take (j + 1), p x) ↔ (∀ x ∈ l.take j, p x) ∧ p l[j] := by
  rw [take_succ' hj]
  constructor
  · exact fun h => ⟨fun x hx => h x (List.mem_append.2 (.inl hx)), h _ (List.mem_append.2 (.inr (List.mem_singleton.2 rfl)))⟩
  · rintro ⟨h1, h2⟩ x hx
    rcases List.mem_append.1 hx with hx | hx
    · exact h1 x hx
    · rw [List.mem_singleton.1 hx]; exact h2
/-- Sizes for the walk. -/
structure KSz (k : List (List (List Nat))) : Prop where
  len : k.length ≤ 1000000
  ways : ∀ i (h : i < k.length), k[i].length ≤ 1000000000
  kids : ∀ i, ∀ l ∈ k.getD i [], l.length ≤ 1000000000

/-- A size is told: a store. -/
theorem s_upd {n i s : Nat} {B g : Heap} {v : Value} {out : List Nat} {K : Heap → Prop} (a : Acc 1 n (B ++ g) v (out.map natV)) (hB : B.length = n) (hi : i < out.length)
    (q : ∀ g', Acc 1 n (B ++ g') v ((out.set i s).map natV) → (∀ j, ¬ lies v j → (B ++ g')[j]? = (B ++ g)[j]?) → K (B ++ g')) : oW (iaS 1 v (natV i)) fun p => sW (stW 1 (B ++ g) p (natV s)) K :=
  Acc.set hB a (by omega) tNat.lens rfl rfl rfl (by simpa using hi) fun g' a' f => q g' (by rw [List.map_set]; exact a') f

theorem rleast_spec {k : List (List (List Nat))} {W : Nat} (ok : KOk k W) (sz : KSz k) {h : Heap} {Q : Value → Heap → Prop} (hq : Q (nats (leastR k)) h) : acall Try.prog F_homographref28_least [knV k] h Q := by
  have hkl := sz.len
  apply W_homographref28_least_ok
  unfold W_homographref28_least
  repeat' first | refine s_mks (by omega) (by omega) ?_ | ((with_reducible apply s_lenM))
  have a0 := acc_mks (N := k.length) (h := h) (z := natV 0) rfl
  have e0 : (List.replicate k.length 0).map natV = List.replicate k.length (natV 0) := List.map_replicate
  generalize hv : Value.slice (some ⟨h.length, 0, none⟩) k.length k.length = v at a0
  refine ⟨fun m vs H => ∃ (n : Nat) (out : List Nat) (g : Heap), vs = [knV k, v, natV n] ∧ H = h ++ g ∧ Acc 1 h.length (h ++ g) v (out.map natV) ∧ LOk k W out ∧ out = itr (roundL k) n (List.replicate k.length 0) ∧ n ≤ k.length + 1 ∧ m = k.length + 1 - n, _,
    gcL_same ⟨0, _, _, rfl, rfl, by rw [e0]; exact a0, .zero, rfl, by omega, rfl⟩, ?_⟩
  clear a0 hv
  rintro m x0 x1 x2 H ⟨n, out, g, hv, rfl, a, o, ho, hn, rfl⟩
  replace hv := hv.symm
  simp only [List.cons.injEq, and_true] at hv
  obtain ⟨rfl, rfl, rfl⟩ := hv
  repeat' first | ((with_reducible apply s_leq)) | ((with_reducible apply s_br) <;> intro hb <;> try (exfalso; omega)) | ((with_reducible apply s_lenM))
  rotate_left
  · have e : n = k.length + 1 := by omega
    subst e
    exact tNat.done (by omega) a rfl ⟨[], (List.append_nil _).symm⟩ (by rw [ho]; exact hq)
  refine ⟨fun m vs H => ∃ (i : Nat) (o2 : List Nat) (g : Heap), vs = [knV k, v, natV n, natV i] ∧ H = h ++ g ∧ Acc 1 h.length (h ++ g) v (o2.map natV) ∧ LOk k W o2 ∧ o2 = (List.range i).foldl (knotL k) out ∧ i ≤ k.length ∧ m = k.length - i, _, gcL_same ⟨0, out, g, rfl, rfl, a, o, rfl, by omega, rfl⟩, ?_⟩
  clear a
  rintro m x0 x1 x2 x3 H ⟨i, o2, g, hv, rfl, a, ok2, ho2, hi, rfl⟩
  replace hv := hv.symm
  simp only [List.cons.injEq, and_true] at hv
  obtain ⟨rfl, rfl, rfl, rfl⟩ := hv
  repeat' first | ((with_reducible apply s_inc); (· omega)) | ((with_reducible apply s_lss)) | ((with_reducible apply s_br) <;> intro hb <;> try (exfalso; omega)) | ((with_reducible apply s_lenM))
  rotate_left
  · have e : i = k.length := by omega
    subst e
    refine ⟨_, ?_, gcL_same ⟨n + 1, o2, g, rfl, rfl, a, ok2, by rw [itr_succ, ← ho]; exact ho2, by omega, rfl⟩⟩
    omega
  have hil : i < k.length := by omega
  have hkg : k.getD i [] = k[i] := getD_at hil
  have hwl := sz.ways i hil
  refine ⟨fun m vs H => ∃ (w : Nat) (o3 : List Nat) (g : Heap), vs = [knV k, v, natV n, natV i, natV w] ∧ H = h ++ g ∧ Acc 1 h.length (h ++ g) v (o3.map natV) ∧ LOk k W o3 ∧ o3 = (k[i].take w).foldl (updL i) o2 ∧ w ≤ k[i].length ∧ m = k[i].length - w, _, gcL_same ⟨0, o2, g, rfl, rfl, a, ok2, rfl, by omega, rfl⟩, ?_⟩
  clear a
  rintro m x0 x1 x2 x3 x4 H ⟨w, o3, g, hv, rfl, a, ok3, ho3, hw, rfl⟩
  replace hv := hv.symm
  simp only [List.cons.injEq, and_true] at hv
  obtain ⟨rfl, rfl, rfl, rfl, rfl⟩ := hv
  repeat' first | ((with_reducible apply s_inc); (· omega)) | ((with_reducible apply s_lss)) | ((with_reducible apply s_br) <;> intro hb <;> try (exfalso; omega)) | ((with_reducible apply s_lenM)) | ((with_reducible refine s_ix (by omega) ?_ ?_); (· rfl)) | ((with_reducible apply s_ld1); (· rfl))
  rotate_left
  · have e : w = k[i].length := by omega
    subst e
    rw [List.take_length] at ho3
    refine ⟨_, ?_, gcL_same ⟨i + 1, o3, g, rfl, rfl, a, ok3, by rw [List.range_succ, List.foldl_append, ← ho2]; show o3 = knotL k o2 i; unfold knotL; rw [hkg]; exact ho3, by omega, rfl⟩⟩
    omega
  have hwk : w < k[i].length := by omega
  have hml : k[i][w] ∈ k.getD i [] := by rw [hkg]; exact List.getElem_mem hwk
  have hkid := ok.kid i _ hml
  have hll := sz.kids i _ hml
  have hst := ok3.sum_top ok hml
  have hto := ok3.top ok
  obtain ⟨u1, _, _⟩ := updL_ok ok ok3 hil hml
  have hu : updL i o3 k[i][w] = if (∀ x ∈ k[i][w], 0 < o3.getD x 0) ∧ (o3.getD i 0 = 0 ∨ 1 + sumL o3 k[i][w] < o3.getD i 0) then o3.set i (1 + sumL o3 k[i][w]) else o3 := rfl
  have hft : (k[i].take (w + 1)).foldl (updL i) o2 = updL i o3 k[i][w] := by rw [fold_take hwk, ← ho3]
  have hol := ok3.len
  obtain ⟨l, hle⟩ : ∃ l, k[i][w] = l := ⟨_, rfl⟩
  have hle2 : k[i][w].length = l.length := by rw [hle]
  rw [hle] at hkid hll hst u1 hu hft
  refine ⟨fun m vs H => ∃ (j : Nat) (b : Bool), vs = [knV k, v, natV n, natV i, natV w, natV (1 + sumL o3 (l.take j)), .bool b, natV j] ∧ H = h ++ g ∧ (b = true ↔ ∀ x ∈ l.take j, 0 < o3.getD x 0) ∧ j ≤ l.length ∧ m = l.length - j, _, gcL_same ⟨0, true, rfl, rfl, by simp, by omega, rfl⟩, ?_⟩
  rintro m x0 x1 x2 x3 x4 x5 x6 x7 H ⟨j, b, hv, rfl, hb2, hj, rfl⟩
  replace hv := hv.symm
  simp only [List.cons.injEq, and_true] at hv
  obtain ⟨rfl, rfl, rfl, rfl, rfl, rfl, rfl, rfl⟩ := hv
  repeat' first | ((with_reducible apply s_inc); (· omega)) | ((with_reducible apply s_lss)) | ((with_reducible apply s_brF)) | ((with_reducible apply s_br) <;> intro hb <;> try (exfalso; omega)) | ((with_reducible apply s_brB) <;> intro hb <;> try contradiction) | ((with_reducible apply s_lenM)) | ((with_reducible refine s_ix (by omega) ?_ ?_); (· rfl)) | ((with_reducible apply s_ld1); (· rfl))
  · have hjl : j < l.length := by omega
    simp only [hle]
    have hlj := hkid _ (List.getElem_mem hjl)
    refine tNat.at1 (by omega) (fun _ => rfl) a (j := l[j]) (by omega) ?_
    rw [show o3[l[j]] = o3.getD l[j] 0 from (getD_at (by omega)).symm]
    have hsj := sumL_succ (out := o3) hjl
    have hsl := sumL_take (out := o3) (l := l) (j := j + 1)
    have hto := hto l[j]
    have htop : topN = 9223372036854775807 := rfl
    have had : addN (1 + sumL o3 (l.take j)) (o3.getD l[j] 0) = 1 + sumL o3 (l.take (j + 1)) := by rw [addN_of (by omega)]; omega
    have hal := all_take (p := fun x => 0 < o3.getD x 0) hjl
    repeat' first | ((with_reducible apply s_gtr)) | ((with_reducible apply s_brB) <;> intro hb <;> try contradiction) | ((with_reducible apply s_call))
    · refine refAdd_spec (by omega) hto ?_
      rw [had]
      repeat' first | ((with_reducible apply s_inc); (· omega))
      refine ⟨_, ?_, gcL_same ⟨j + 1, decide ((0 : Int) < (o3.getD l[j] 0 : Int)), rfl, rfl, (by rw [hal, decide_eq_true_eq]; exact ⟨fun q => ⟨hb2.1 hb, by omega⟩, fun q => by have := q.2; omega⟩), by omega, rfl⟩⟩
      omega
    · refine refAdd_spec (by omega) hto ?_
      rw [had]
      repeat' first | ((with_reducible apply s_inc); (· omega))
      refine ⟨_, ?_, gcL_same ⟨j + 1, false, rfl, rfl, (by rw [hal]; exact ⟨fun q => (by cases q), fun q => (by rw [hb2.2 q.1] at hb; cases hb)⟩), by omega, rfl⟩⟩
      omega
  · have e : j = l.length := by omega
    subst e
    rw [List.take_length] at hb2 ⊢
    have hbt : b = true := by assumption
    have hal := hb2.1 hbt
    refine tNat.at1 (by omega) (fun _ => rfl) a (j := i) (by omega) ?_
    rw [show o3[i] = o3.getD i 0 from (getD_at (by omega)).symm]
    repeat' first | ((with_reducible apply s_eql)) | ((with_reducible apply s_brT)) | ((with_reducible apply s_br) <;> intro hb <;> try (exfalso; omega))
    · rw [if_pos ⟨hal, .inl (by omega)⟩] at hu
      refine s_upd a rfl (by omega) fun g' a' _ => ?_
      rw [← hu] at a'
      repeat' first | ((with_reducible apply s_inc); (· omega))
      refine ⟨_, ?_, gcL_same ⟨w + 1, _, g', rfl, rfl, a', u1, hft.symm, by omega, rfl⟩⟩
      omega
    · refine tNat.at1 (by omega) (fun _ => rfl) a (j := i) (by omega) ?_
      rw [show o3[i] = o3.getD i 0 from (getD_at (by omega)).symm]
      repeat' first | ((with_reducible apply s_inc); (· omega)) | ((with_reducible apply s_lss)) | ((with_reducible apply s_br) <;> intro hb <;> try (exfalso; omega))
      · rw [if_pos ⟨hal, .inr (by omega)⟩] at hu
        refine s_upd a rfl (by omega) fun g' a' _ => ?_
        rw [← hu] at a'
        repeat' first | ((with_reducible apply s_inc); (· omega))
        refine ⟨_, ?_, gcL_same ⟨w + 1, _, g', rfl, rfl, a', u1, hft.symm, by omega, rfl⟩⟩
        omega
      · rw [if_neg fun q => by have := q.2; omega] at hu
        refine ⟨_, ?_, gcL_same ⟨w + 1, o3, g, rfl, rfl, a, ok3, by rw [hft, hu], by omega, rfl⟩⟩
        omega
  · have e : j = l.length := by omega
    subst e
    rw [List.take_length] at hb2
    have hbt : b = false := by assumption
    rw [if_neg fun q => by rw [hb2.2 q.1] at hbt; cases hbt] at hu
    refine ⟨_, ?_, gcL_same ⟨w + 1, o3, g, rfl, rfl, a, ok3, by rw [hft, hu], by omega, rfl⟩⟩
    omega

end Go.Ax

namespace Go.Ax
open Go Go.Proofs Go.RowKit

/-- The sizes so far; where they lie; what tells a way's size. -/
abbrev lhS (h : Heap) (N : Nat) : Value := .slice (some ⟨h.length, 0, none⟩) N N
abbrev lhF (h : Heap) : Value := .func (.func F_count_knots_least_D1) #[] #[.pointer (some ⟨h.length + 1, 0, none⟩)]
def LH (h : Heap) (N : Nat) (out : List Nat) : Heap := h ++ [.row (out.map natV) .exact, .row [lhS h N] .exact, .row [lhF h] .exact]
section
variable {h : Heap} {N : Nat} {out : List Nat}
theorem LH.acc (hN : out.length = N) : Acc 1 h.length (LH h N out) (lhS h N) (out.map natV) := by
  refine .inr ⟨h.length, N, out.map natV, .exact, Nat.le_refl _, by simp [hN], by unfold LH; rw [row_app0]; rfl, .inr rfl, by simp [hN], by simp [hN], ?_⟩
  rw [List.take_of_length_le (by simp), flat_one]
  intro e he; obtain ⟨b, _, rfl⟩ := List.mem_map.1 he; rfl
theorem LH.r1 : getRow (LH h N out) (h.length + 1) = some ([lhS h N], .exact) := by unfold LH; rw [row_app]; rfl
theorem LH.r2 : getRow (LH h N out) (h.length + 2) = some ([lhF h], .exact) := by unfold LH; rw [row_app]; rfl
theorem LH.get (hN : out.length = N) {x : Nat} (hx : x < N) {K : Value → Prop} (k : K (natV (out.getD x 0))) : oW (iaS 1 (lhS h N) (natV x)) fun p => oW (ldW false 1 (LH h N out) p) K := by
  refine tNat.at1 (by omega) (fun _ => rfl) (LH.acc hN) (j := x) (by omega) ?_
  rw [getD_at (by omega)] at k; exact k
theorem LH.set (hN : out.length = N) {x s : Nat} (hx : x < N) {K : Heap → Prop} (k : K (LH h N (out.set x s))) : oW (iaS 1 (lhS h N) (natV x)) fun p => sW (stW 1 (LH h N out) p (natV s)) K := by
  rw [iaS_slice hx, oW_some, st1 (c := out.map natV) (m := .exact) (by unfold LH; rw [row_app0]; rfl) (by simp) rfl rfl rfl (by simp; omega), sW_some]
  unfold LH at *
  rw [set_app0, List.set_cons_zero, Nat.zero_add, Nat.mul_one, ← List.map_set]
  exact k
end
def sizeL (out l : List Nat) : Nat := if ∀ x ∈ l, 0 < out.getD x 0 then 1 + sumL out l else 0
theorem size_spec {h : Heap} {N : Nat} {out l : List Nat} (hN : out.length = N) (hk : ∀ x ∈ l, x < N) (hs : 1 + sumL out l ≤ topN) (hl : l.length ≤ 1000000000) {Q : Value → Heap → Prop} (hq : Q (natV (sizeL out l)) (LH h N out)) :
    acall Try.prog F_count_knots_least_D1 [nats l, .pointer (some ⟨h.length + 1, 0, none⟩)] (LH h N out) Q := by
  have htop : topN = 9223372036854775807 := rfl
  apply W_count_knots_least_D1_ok
  unfold W_count_knots_least_D1
  have r1 := LH.r1 (h := h) (N := N) (out := out)
  repeat' first | ((with_reducible apply s_lenM))
  refine ⟨fun m vs H => ∃ j : Nat, vs = [.pointer (some ⟨h.length + 1, 0, none⟩), natV (1 + sumL out (l.take j)), nats l, natV l.length, natV j] ∧ H = LH h N out ∧ (∀ x ∈ l.take j, 0 < out.getD x 0) ∧ j ≤ l.length ∧ m = l.length - j, _, gcL_same ⟨0, rfl, rfl, by simp, by omega, rfl⟩, ?_⟩
  rintro m x0 x1 x2 x3 x4 H ⟨j, hv, rfl, hp, hj, rfl⟩
  replace hv := hv.symm
  simp only [List.cons.injEq, and_true] at hv
  obtain ⟨rfl, rfl, rfl, rfl, rfl⟩ := hv
  repeat' first | ((with_reducible apply s_lss)) | ((with_reducible apply s_br) <;> intro hb <;> try (exfalso; omega)) | ((with_reducible refine s_ix (by omega) ?_ ?_); (· rfl)) | ((with_reducible apply s_ld1); (· rfl)) | ((with_reducible apply s_row); (· first | assumption | exact row_last | exact getRow_app (by first | assumption | exact row_last | exact getRow_app (by first | assumption | exact row_last))); (· rfl))
  · have hjl : j < l.length := by omega
    have hsj := sumL_succ (out := out) hjl
    have hsl := sumL_take (out := out) (l := l) (j := j + 1)
    refine LH.get hN (hk _ (List.getElem_mem hjl)) ?_
    repeat' first | ((with_reducible apply s_eql)) | ((with_reducible apply s_br) <;> intro hb <;> try (exfalso; omega)) | ((with_reducible apply s_row); (· first | assumption | exact row_last | exact getRow_app (by first | assumption | exact row_last | exact getRow_app (by first | assumption | exact row_last))); (· rfl))
    · refine gcV_same ?_
      unfold sizeL at hq
      rw [if_neg fun q => by have := q _ (List.getElem_mem hjl); omega] at hq
      exact hq
    · refine LH.get hN (hk _ (List.getElem_mem hjl)) ?_
      repeat' first | ((with_reducible apply s_call))
      refine addC_spec (by omega) (by omega) ?_
      rw [addN_of (by omega), show 1 + sumL out (l.take j) + out.getD l[j] 0 = 1 + sumL out (l.take (j + 1)) by omega]
      repeat' first | ((with_reducible apply s_inc); (· omega))
      refine ⟨_, ?_, gcL_same ⟨j + 1, rfl, rfl, (all_take (p := fun x => 0 < out.getD x 0) hjl).2 ⟨hp, by omega⟩, by omega, rfl⟩⟩
      omega
  · have e : j = l.length := by omega
    subst e
    rw [List.take_length] at hp ⊢
    refine gcV_same ?_
    unfold sizeL at hq
    rw [if_pos hp] at hq
    exact hq

/-- How far the sizes are from the end. -/
def muL (out : List Nat) : Nat := (out.map fun x => if x = 0 then topN + 1 else x).sum
theorem mu_set : ∀ {out : List Nat} {i v : Nat}, i < out.length → 0 < v → v ≤ topN → (out.getD i 0 = 0 ∨ v < out.getD i 0) → muL (out.set i v) < muL out
  | x :: out, 0, v, _, h1, h2, h3 => by
    unfold muL
    simp only [List.set_cons_zero, List.map_cons, List.sum_cons]
    simp at h3
    rcases h3 with h3 | h3
    · rw [if_pos h3, if_neg (by omega)]; omega
    · rw [if_neg (by omega), if_neg (by omega)]; omega
  | x :: out, i + 1, v, h0, h1, h2, h3 => by
    have := mu_set (out := out) (i := i) (v := v) (by simpa using h0) h1 h2 (by simpa using h3)
    unfold muL at *
    simp only [List.set_cons_succ, List.map_cons, List.sum_cons]; omega

theorem grows_spec {k : List (List (List Nat))} {W : Nat} (ok : KOk k W) (sz : KSz k) {h : Heap} {out : List Nat} (o : LOk k W out) {i : Nat} (hi : i < k.length) {Q : Value → Heap → Prop}
    (hq : ∀ b, (b = false → knotL k out i = out) → (b = true → muL (knotL k out i) < muL out) → LOk k W (knotL k out i) → Q (.bool b) (LH h k.length (knotL k out i))) :
    acall Try.prog F_count_knots_least_D2 [natV i, wnats k[i], .pointer (some ⟨h.length + 2, 0, none⟩), .pointer (some ⟨h.length + 1, 0, none⟩)] (LH h k.length out) Q := by
  have htop : topN = 9223372036854775807 := rfl
  have hkl := sz.len
  have hkg : k.getD i [] = k[i] := getD_at hi
  have hwl := sz.ways i hi
  apply W_count_knots_least_D2_ok
  unfold W_count_knots_least_D2
  repeat' first | ((with_reducible apply s_lenM))
  refine ⟨fun m vs H => ∃ (w : Nat) (b : Bool) (o2 : List Nat), vs = [natV i, .pointer (some ⟨h.length + 2, 0, none⟩), .pointer (some ⟨h.length + 1, 0, none⟩), .bool b, wnats k[i], natV k[i].length, natV w] ∧ H = LH h k.length o2 ∧ LOk k W o2 ∧ o2 = (k[i].take w).foldl (updL i) out ∧
    (b = false → o2 = out) ∧ (b = true → muL o2 < muL out) ∧ w ≤ k[i].length ∧ m = k[i].length - w, _, gcL_same ⟨0, false, out, rfl, rfl, o, rfl, fun _ => rfl, (fun q => by cases q), by omega, rfl⟩, ?_⟩
  rintro m x0 x1 x2 x3 x4 x5 x6 H ⟨w, b, o2, hv, rfl, ok2, ho2, hb1, hb2, hw, rfl⟩
  replace hv := hv.symm
  simp only [List.cons.injEq, and_true] at hv
  obtain ⟨rfl, rfl, rfl, rfl, rfl, rfl, rfl⟩ := hv
  have r1 := LH.r1 (h := h) (N := k.length) (out := o2)
  have r2 := LH.r2 (h := h) (N := k.length) (out := o2)
  repeat' first | ((with_reducible apply s_lss)) | ((with_reducible apply s_br) <;> intro hb <;> try (exfalso; omega)) | ((with_reducible refine s_ix (by omega) ?_ ?_); (· rfl)) | ((with_reducible apply s_ld1); (· rfl)) | ((with_reducible apply s_row); (· first | assumption | exact row_last | exact getRow_app (by first | assumption | exact row_last | exact getRow_app (by first | assumption | exact row_last))); (· rfl))
  rotate_left
  · have e : w = k[i].length := by omega
    subst e
    rw [List.take_length] at ho2
    have e2 : o2 = knotL k out i := by unfold knotL; rw [hkg]; exact ho2
    subst e2
    exact gcV_same (hq b hb1 hb2 ok2)
  have hwk : w < k[i].length := by omega
  have hml : k[i][w] ∈ k.getD i [] := by rw [hkg]; exact List.getElem_mem hwk
  have hkid := ok.kid i _ hml
  have hll := sz.kids i _ hml
  have hst := ok2.sum_top ok hml
  obtain ⟨u1, _, _⟩ := updL_ok ok ok2 hi hml
  have hu : updL i o2 k[i][w] = if (∀ x ∈ k[i][w], 0 < o2.getD x 0) ∧ (o2.getD i 0 = 0 ∨ 1 + sumL o2 k[i][w] < o2.getD i 0) then o2.set i (1 + sumL o2 k[i][w]) else o2 := rfl
  have hft : (k[i].take (w + 1)).foldl (updL i) out = updL i o2 k[i][w] := by rw [fold_take hwk, ← ho2]
  have hol := ok2.len
  have hsz : 0 < sizeL o2 k[i][w] ↔ ∀ x ∈ k[i][w], 0 < o2.getD x 0 := by
    unfold sizeL; split
    · rename_i q; exact ⟨fun _ => q, fun _ => by omega⟩
    · rename_i q; exact ⟨fun z => by omega, fun z => absurd z q⟩
  refine s_callC (size_spec hol hkid hst hll ?_)
  obtain ⟨b', hb'⟩ : ∃ b' : Bool, b' = b := ⟨b, rfl⟩
  have same : ¬ ((∀ x ∈ k[i][w], 0 < o2.getD x 0) ∧ (o2.getD i 0 = 0 ∨ 1 + sumL o2 k[i][w] < o2.getD i 0)) → updL i o2 k[i][w] = o2 := fun q => by rw [hu, if_neg q]
  have turn : ((∀ x ∈ k[i][w], 0 < o2.getD x 0) ∧ (o2.getD i 0 = 0 ∨ 1 + sumL o2 k[i][w] < o2.getD i 0)) → updL i o2 k[i][w] = o2.set i (sizeL o2 k[i][w]) ∧ muL (updL i o2 k[i][w]) < muL out := fun q => by
    rw [hu, if_pos q]
    have e : sizeL o2 k[i][w] = 1 + sumL o2 k[i][w] := by unfold sizeL; rw [if_pos q.1]
    rw [e]
    have h1 := mu_set (out := o2) (i := i) (v := 1 + sumL o2 k[i][w]) (by omega) (by omega) hst q.2
    refine ⟨rfl, ?_⟩
    cases b with
    | true => have := hb2 rfl; omega
    | false => rw [hb1 rfl] at h1 ⊢; exact h1
  repeat' first | ((with_reducible apply s_inc); (· omega)) | ((with_reducible apply s_gtr)) | ((with_reducible apply s_brF)) | ((with_reducible apply s_br) <;> intro hb <;> try (exfalso; omega)) | ((with_reducible apply s_row); (· first | assumption | exact row_last | exact getRow_app (by first | assumption | exact row_last | exact getRow_app (by first | assumption | exact row_last))); (· rfl))
  · have hal := hsz.1 (by omega)
    have e : sizeL o2 k[i][w] = 1 + sumL o2 k[i][w] := by unfold sizeL; rw [if_pos hal]
    refine LH.get hol hi ?_
    repeat' first | ((with_reducible apply s_eql)) | ((with_reducible apply s_brT)) | ((with_reducible apply s_br) <;> intro hb <;> try (exfalso; omega)) | ((with_reducible apply s_row); (· first | assumption | exact row_last | exact getRow_app (by first | assumption | exact row_last | exact getRow_app (by first | assumption | exact row_last))); (· rfl))
    · obtain ⟨t1, t2⟩ := turn ⟨hal, .inl (by omega)⟩
      refine LH.set hol hi ?_
      rw [← t1]
      repeat' first | ((with_reducible apply s_inc); (· omega))
      refine ⟨_, ?_, gcL_same ⟨w + 1, true, _, rfl, rfl, u1, hft.symm, (fun q => by cases q), fun _ => t2, by omega, rfl⟩⟩
      omega
    · refine LH.get hol hi ?_
      repeat' first | ((with_reducible apply s_inc); (· omega)) | ((with_reducible apply s_lss)) | ((with_reducible apply s_br) <;> intro hb <;> try (exfalso; omega)) | ((with_reducible apply s_row); (· first | assumption | exact row_last | exact getRow_app (by first | assumption | exact row_last | exact getRow_app (by first | assumption | exact row_last))); (· rfl))
      · obtain ⟨t1, t2⟩ := turn ⟨hal, .inr (by omega)⟩
        refine LH.set hol hi ?_
        rw [← t1]
        repeat' first | ((with_reducible apply s_inc); (· omega))
        refine ⟨_, ?_, gcL_same ⟨w + 1, true, _, rfl, rfl, u1, hft.symm, (fun q => by cases q), fun _ => t2, by omega, rfl⟩⟩
        omega
      · have t1 := same fun q => by have := q.2; omega
        refine ⟨_, ?_, gcL_same ⟨w + 1, b, o2, rfl, rfl, ok2, by rw [hft, t1], hb1, hb2, by omega, rfl⟩⟩
        omega
  · have t1 := same fun q => by have := hsz.2 q.1; omega
    refine ⟨_, ?_, gcL_same ⟨w + 1, b, o2, rfl, rfl, ok2, by rw [hft, t1], hb1, hb2, by omega, rfl⟩⟩
    omega

end Go.Ax

namespace Go.Ax
open Go Go.Proofs Go.RowKit

abbrev growF (h : Heap) : Value := .func (.func F_count_knots_least_D2) #[] #[.pointer (some ⟨h.length + 2, 0, none⟩), .pointer (some ⟨h.length + 1, 0, none⟩)]
theorem until_spec {k : List (List (List Nat))} {W : Nat} (ok : KOk k W) (sz : KSz k) {h : Heap} {out : List Nat} (o : LOk k W out) {Q : Value → Heap → Prop} (hq : Q (.tuple #[]) (LH h k.length (leastR k))) :
    acall Try.prog F_count_until_int [knV k, growF h] (LH h k.length out) Q := by
  have hkl := sz.len
  apply W_count_until_int_ok
  unfold W_count_until_int
  refine ⟨fun m vs H => ∃ (b : Bool) (out : List Nat), vs = [knV k, growF h, .bool b] ∧ H = LH h k.length out ∧ LOk k W out ∧ (b = false → roundL k out = out) ∧ m = if b = true then muL out + 1 else 0, _, gcL_same ⟨true, out, rfl, rfl, o, (fun q => by cases q), rfl⟩, ?_⟩
  generalize LH h k.length out = H0
  clear o out
  rintro m x0 x1 x2 H ⟨b, out, hv, rfl, o, hb0, rfl⟩
  replace hv := hv.symm
  simp only [List.cons.injEq, and_true] at hv
  obtain ⟨rfl, rfl, rfl⟩ := hv
  repeat' first | ((with_reducible apply s_brB) <;> intro hb <;> try contradiction) | ((with_reducible apply s_lenM))
  rotate_left
  · have e := hb0 (by assumption)
    rw [leastR_fix ok o e]
    exact gcV_same hq
  have hbt : b = true := by assumption
  rw [if_pos hbt]
  refine ⟨fun m vs H => ∃ (i : Nat) (b : Bool) (o2 : List Nat), vs = [knV k, growF h, .bool b, knV k, natV k.length, natV i] ∧ H = LH h k.length o2 ∧ LOk k W o2 ∧ o2 = (List.range i).foldl (knotL k) out ∧ (b = false → o2 = out) ∧ (b = true → muL o2 < muL out) ∧ i ≤ k.length ∧ m = k.length - i, _,
    gcL_same ⟨0, false, out, rfl, rfl, o, rfl, fun _ => rfl, (fun q => by cases q), by omega, rfl⟩, ?_⟩
  rintro m x0 x1 x2 x3 x4 x5 H ⟨i, b, o2, hv, rfl, ok2, ho2, hb1, hb2, hi, rfl⟩
  replace hv := hv.symm
  simp only [List.cons.injEq, and_true] at hv
  obtain ⟨rfl, rfl, rfl, rfl, rfl, rfl⟩ := hv
  repeat' first | ((with_reducible apply s_lss)) | ((with_reducible apply s_br) <;> intro hb <;> try (exfalso; omega)) | ((with_reducible refine s_ix (by omega) ?_ ?_); (· rfl)) | ((with_reducible apply s_ld1); (· rfl))
  · have hil : i < k.length := by omega
    refine s_callC2 (grows_spec ok sz ok2 hil fun b' h1 h2 h3 => ?_)
    have e : knotL k o2 i = (List.range (i + 1)).foldl (knotL k) out := by rw [List.range_succ, List.foldl_append, ← ho2]; rfl
    repeat' first | ((with_reducible apply s_inc); (· omega)) | ((with_reducible apply s_brB) <;> intro hb <;> try contradiction)
    · have h4 : muL (knotL k o2 i) < muL out := by
        have := h2 hb
        cases b with
        | true => have := hb2 rfl; omega
        | false => rw [hb1 rfl] at this ⊢; exact this
      refine ⟨_, ?_, gcL_same ⟨i + 1, true, _, rfl, rfl, h3, e, (fun q => by cases q), fun _ => h4, by omega, rfl⟩⟩
      omega
    · rw [h1 hb] at e h3 ⊢
      refine ⟨_, ?_, gcL_same ⟨i + 1, b, o2, rfl, rfl, h3, e, hb1, hb2, by omega, rfl⟩⟩
      omega
  · have e : i = k.length := by omega
    subst e
    have e2 : o2 = roundL k out := ho2
    refine ⟨_, ?_, gcL_same ⟨b, o2, rfl, rfl, ok2, fun q => by rw [hb1 q] at e2 ⊢; exact e2.symm, rfl⟩⟩
    cases b with
    | false => simp
    | true => have := hb2 rfl; simp; omega

theorem cleast_spec {k : List (List (List Nat))} {W : Nat} (ok : KOk k W) (sz : KSz k) {h : Heap} {Q : Value → Heap → Prop} (hq : Q (nats (leastR k)) h) : acall Try.prog F_count_knots_least [knV k] h Q := by
  have hkl := sz.len
  apply W_count_knots_least_ok
  unfold W_count_knots_least
  repeat' first | refine s_mks (by omega) (by omega) ?_ | ((with_reducible apply s_lenM)) | ((with_reducible apply s_call)) | ((with_reducible apply s_let)) | ((with_reducible apply s_stV); (· rfl); (· rfl); (· rfl))
  have e : h ++ [AObj.row (List.replicate k.length (.int .i64 0)) .exact] ++ [AObj.row [.slice (some ⟨h.length, 0, none⟩) k.length k.length] .exact] ++
      [AObj.row [.func (.func F_count_knots_least_D1) #[] #[.pointer (some ⟨(h ++ [AObj.row (List.replicate k.length (.int .i64 0)) .exact]).length, 0, none⟩)]] .exact] = LH h k.length (List.replicate k.length 0) := by
    unfold LH; simp
  have l1 : (h ++ [AObj.row (List.replicate k.length (.int .i64 0)) .exact]).length = h.length + 1 := by simp
  have l2 : (h ++ [AObj.row (List.replicate k.length (.int .i64 0)) .exact] ++ [AObj.row [.slice (some ⟨h.length, 0, none⟩) k.length k.length] .exact]).length = h.length + 2 := by simp
  rw [e, l1, l2]
  refine until_spec ok sz .zero ?_
  have r1 := LH.r1 (h := h) (N := k.length) (out := leastR k)
  have a := LH.acc (h := h) (N := k.length) (out := leastR k) (itrL_ok ok).len
  repeat' first | ((with_reducible apply s_row); (· first | assumption | exact row_last | exact getRow_app (by first | assumption | exact row_last | exact getRow_app (by first | assumption | exact row_last))); (· rfl))
  exact gcV_frz ⟨_, rfl⟩ (fun fr r hf => a.gvF tNat (by omega) (Nat.le_refl _) hf) hq

end Go.Ax

namespace Go.Ax
open Go Go.Proofs Go.RowKit

def okWay (ls l : List Nat) : Bool := decide (∀ x ∈ l, 0 < ls.getD x 0)
def fertR (k : List (List (List Nat))) : List (List (List Nat)) := k.map fun ws => ws.filter (okWay (leastR k))
theorem filter_take {α : Type} {p : α → Bool} {l : List α} {j : Nat} (hj : j < l.length) : (l.take (j + 1)).filter p = (l.take j).filter p ++ if p l[j] = true then [l[j]] else [] := by
  rw [take_succ' hj, List.filter_append]
  congr 1
  by_cases q : p l[j] = true
  · rw [if_pos q, List.filter_cons, if_pos q]; rfl
  · rw [if_neg q, List.filter_cons, if_neg q]; rfl
theorem filter_len {α : Type} {p : α → Bool} {l : List α} {j : Nat} : ((l.take j).filter p).length ≤ j := Nat.le_trans (List.length_filter_le ..) (by rw [List.length_take]; omega)

theorem rfert_spec {k : List (List (List Nat))} {W : Nat} (ok : KOk k W) (sz : KSz k) {h : Heap} {Q : Value → Heap → Prop} (hq : Q (knV (fertR k)) h) : acall Try.prog F_homographref28_fertile [knV k] h Q := by
  have hkl := sz.len
  apply W_homographref28_fertile_ok
  unfold W_homographref28_fertile
  repeat' first | ((with_reducible apply s_call))
  refine rleast_spec ok sz ?_
  have hll : (leastR k).length = k.length := (itrL_ok ok).len
  have hfe : fertR k = k.map fun ws => ws.filter (okWay (leastR k)) := rfl
  generalize leastR k = ls at hll hfe ⊢
  repeat' first | refine s_mks (by omega) (by omega) ?_ | ((with_reducible apply s_lenM))
  refine ⟨fun m vs H => ∃ (i : Nat) (v : Value) (g' : Heap), vs = [knV k, nats ls, v, natV i] ∧ H = h ++ g' ∧ Acc 1 h.length (h ++ g') v (((k.take i).map fun ws => ws.filter (okWay ls)).map wnats ++ List.replicate (k.length - i) (.slice none 0 0)) ∧ i ≤ k.length ∧ m = k.length - i, _,
    gcL_same ⟨0, _, _, rfl, rfl, acc_mks rfl, by omega, rfl⟩, ?_⟩
  rintro m x0 x1 x2 x3 H ⟨i, v, g', hv, rfl, a, hi, rfl⟩
  replace hv := hv.symm
  simp only [List.cons.injEq, and_true] at hv
  obtain ⟨rfl, rfl, rfl, rfl⟩ := hv
  repeat' first | ((with_reducible apply s_lss)) | ((with_reducible apply s_br) <;> intro hb <;> try (exfalso; omega)) | ((with_reducible apply s_lenM))
  rotate_left
  · have e : i = k.length := by omega
    subst e
    rw [List.take_length, Nat.sub_self, List.replicate_zero, List.append_nil, ← hfe] at a
    exact tW.done (by omega) a rfl ⟨[], (List.append_nil _).symm⟩ hq
  have hil : i < k.length := by omega
  have hwl := sz.ways i hil
  have hkg : k.getD i [] = k[i] := getD_at hil
  obtain ⟨r, hr⟩ : ∃ r, k.length - i = r + 1 := ⟨k.length - i - 1, by omega⟩
  rw [hr] at a
  have G := Grid.start (f := nats) (sz := 1) a
  have hdl : ((k.take i).map fun ws => ws.filter (okWay ls)).length = i := by simp; omega
  have hdn : ((k.take i).map fun ws => ws.filter (okWay ls)) ++ [k[i].filter (okWay ls)] = (k.take (i + 1)).map fun ws => ws.filter (okWay ls) := by rw [take_succ' hil, List.map_append]; rfl
  generalize ((k.take i).map fun ws => ws.filter (okWay ls)) = done at G hdl hdn
  refine ⟨fun m vs H => ∃ (w : Nat) (cur : Value) (g' : Heap), vs = [knV k, nats ls, v, natV i, natV w] ∧ H = h ++ g' ∧ Grid 1 nats h.length (h ++ g') v done cur ((k[i].take w).filter (okWay ls)) r ∧ w ≤ k[i].length ∧ m = k[i].length - w, _,
    gcL_same ⟨0, _, g', rfl, rfl, G, by omega, rfl⟩, ?_⟩
  clear G a
  rintro m x0 x1 x2 x3 x4 H ⟨w, cur, g', hv, rfl, G, hw, rfl⟩
  replace hv := hv.symm
  simp only [List.cons.injEq, and_true] at hv
  obtain ⟨rfl, rfl, rfl, rfl, rfl⟩ := hv
  repeat' first | ((with_reducible apply s_inc); (· omega)) | ((with_reducible apply s_lss)) | ((with_reducible apply s_br) <;> intro hb <;> try (exfalso; omega)) | ((with_reducible apply s_lenM)) | ((with_reducible refine s_ix (by omega) ?_ ?_); (· rfl)) | ((with_reducible apply s_ld1); (· rfl))
  rotate_left
  · have e : w = k[i].length := by omega
    subst e
    rw [List.take_length] at G
    refine ⟨k.length - (i + 1), by omega, G.next tNats (by omega) fun fr r' v' g' hfr gv a' => ⟨[knV k, nats ls, v', natV (i + 1)], ⟨.cl tW.clL, .cl tNat.clL, gv, .cl (.int _ _), trivial⟩, i + 1, v', g', rfl, rfl, ?_, by omega, rfl⟩⟩
    rw [← hdn, show k.length - (i + 1) = r by omega]
    exact a'
  have hwk : w < k[i].length := by omega
  have hml : k[i][w] ∈ k.getD i [] := by rw [hkg]; exact List.getElem_mem hwk
  have hkid := ok.kid i _ hml
  have hlw := sz.kids i _ hml
  have hft := filter_take (p := okWay ls) hwk
  have hfl := filter_len (p := okWay ls) (l := k[i]) (j := w)
  refine ⟨fun m vs H => ∃ (j : Nat) (b : Bool), vs = [knV k, nats ls, v, natV i, natV w, .bool b, natV j] ∧ H = h ++ g' ∧ (b = true ↔ ∀ x ∈ k[i][w].take j, 0 < ls.getD x 0) ∧ j ≤ k[i][w].length ∧ m = k[i][w].length - j, _, gcL_same ⟨0, true, rfl, rfl, by simp, by omega, rfl⟩, ?_⟩
  rintro m x0 x1 x2 x3 x4 x5 x6 H ⟨j, b, hv, rfl, hb2, hj, rfl⟩
  replace hv := hv.symm
  simp only [List.cons.injEq, and_true] at hv
  obtain ⟨rfl, rfl, rfl, rfl, rfl, rfl, rfl⟩ := hv
  repeat' first | ((with_reducible apply s_inc); (· omega)) | ((with_reducible apply s_lss)) | ((with_reducible apply s_br) <;> intro hb <;> try (exfalso; omega)) | ((with_reducible apply s_brB) <;> intro hb <;> try contradiction) | ((with_reducible apply s_lenM)) | ((with_reducible refine s_ix (by omega) ?_ ?_); (· rfl)) | ((with_reducible apply s_ld1); (· rfl))
  · have hjl : j < k[i][w].length := by omega
    have hlj := hkid _ (List.getElem_mem hjl)
    have hal := all_take (p := fun x => 0 < ls.getD x 0) hjl
    repeat' first | ((with_reducible apply s_inc); (· omega)) | ((with_reducible apply s_gtr)) | ((with_reducible refine s_ix (by omega) ?_ ?_); (· rfl)) | ((with_reducible apply s_ld1); (· rfl))
    have e : ls[k[i][w][j]] = ls.getD k[i][w][j] 0 := (getD_at (by omega)).symm
    rw [e]
    refine ⟨_, ?_, gcL_same ⟨j + 1, decide ((0 : Int) < (ls.getD k[i][w][j] 0 : Int)), rfl, rfl, (by rw [hal, decide_eq_true_eq]; exact ⟨fun q => ⟨hb2.1 (by assumption), by omega⟩, fun q => by have := q.2; omega⟩), by omega, rfl⟩⟩
    omega
  · have hjl : j < k[i][w].length := by omega
    have hal := all_take (p := fun x => 0 < ls.getD x 0) hjl
    have hbt : b = false := by assumption
    refine ⟨_, ?_, gcL_same ⟨j + 1, false, rfl, rfl, (by rw [hal]; exact ⟨fun q => (by cases q), fun q => (by rw [hb2.2 q.1] at hbt; cases hbt)⟩), by omega, rfl⟩⟩
    omega
  · have e : j = k[i][w].length := by omega
    subst e
    rw [List.take_length] at hb2
    rw [if_pos (by unfold okWay; rw [decide_eq_true_eq]; exact hb2.1 (by assumption))] at hft
    refine G.read hdl fun p o hp => ?_
    repeat' first | ((with_reducible refine s_ix (by omega) ?_ ?_); (· rfl)) | ((with_reducible apply s_ld1); (· rfl))
    refine G.write tNats (by omega) rfl hdl rfl (by omega) (by omega) (by repeat first | exact keptB_nil | (with_reducible refine keptB_other rfl ?_) | refine keptB_other rfl ?_ | refine keptB_ptr (by first | omega | (simp; done) | (simp; omega)) ?_) (by repeat first | exact keptB_nil | (with_reducible refine keptB_other rfl ?_) | refine keptB_other rfl ?_ | refine keptB_ptr (by first | omega | (simp; done) | (simp; omega)) ?_) fun cur' g2 G2 _ _ => ?_
    repeat' first | ((with_reducible apply s_inc); (· omega))
    refine ⟨_, ?_, gcL_same ⟨w + 1, cur', g2, rfl, rfl, by rw [hft]; exact G2, by omega, rfl⟩⟩
    omega
  · have e : j = k[i][w].length := by omega
    subst e
    rw [List.take_length] at hb2
    have hbt : b = false := by assumption
    rw [if_neg (by unfold okWay; rw [decide_eq_true_eq]; intro q; rw [hb2.2 q] at hbt; cases hbt), List.append_nil] at hft
    refine ⟨_, ?_, gcL_same ⟨w + 1, cur, g', rfl, rfl, by rw [hft]; exact G, by omega, rfl⟩⟩
    omega

/-- Is there one of size 0? -/
theorem ixf_spec {h : Heap} {ls l : List Nat} (hk : ∀ x ∈ l, x < ls.length) (hl : l.length ≤ 1000000000) {Q : Value → Heap → Prop}
    (hq : ∀ n : Int, (0 ≤ n ↔ okWay ls l = false) → Q (.int .i64 n) h) : acall Try.prog F_slices_IndexFunc_int_int [nats l, .func (.func F_count_knots_fertile_D1) #[] #[plit [nats ls]]] h Q := by
  apply W_slices_IndexFunc_int_int_ok
  unfold W_slices_IndexFunc_int_int
  repeat' first | ((with_reducible apply s_lenM))
  refine ⟨fun m vs H => ∃ (j : Nat), vs = [nats l, .func (.func F_count_knots_fertile_D1) #[] #[plit [nats ls]], natV l.length, natV j] ∧ H = h ∧ (∀ x ∈ l.take j, 0 < ls.getD x 0) ∧ j ≤ l.length ∧ m = l.length - j, _, gcL_same ⟨0, rfl, rfl, by simp, by omega, rfl⟩, ?_⟩
  rintro m x0 x1 x2 x3 H ⟨j, hv, rfl, ha, hj, rfl⟩
  replace hv := hv.symm
  simp only [List.cons.injEq, and_true] at hv
  obtain ⟨rfl, rfl, rfl, rfl⟩ := hv
  repeat' first | ((with_reducible apply s_lss)) | ((with_reducible apply s_br) <;> intro hb <;> try (exfalso; omega)) | ((with_reducible refine s_ix (by omega) ?_ ?_); (· rfl)) | ((with_reducible apply s_ld1); (· rfl))
  · have hjl : j < l.length := by omega
    have hlj := hk _ (List.getElem_mem hjl)
    refine s_callC ?_
    apply W_count_knots_fertile_D1_ok
    unfold W_count_knots_fertile_D1
    repeat' first | ((with_reducible apply s_eql)) | ((with_reducible refine s_ix (by omega) ?_ ?_); (· rfl)) | ((with_reducible apply s_ld1); (· rfl))
    have e : ls[l[j]] = ls.getD l[j] 0 := (getD_at (by omega)).symm
    rw [e]
    refine gcV_same ?_
    repeat' first | ((with_reducible apply s_inc); (· omega)) | ((with_reducible apply s_br) <;> intro hb <;> try (exfalso; omega))
    · refine gcV_same (hq _ ⟨fun _ => ?_, fun _ => by omega⟩)
      unfold okWay
      rw [decide_eq_false_iff_not]
      intro q
      have := q _ (List.getElem_mem hjl)
      omega
    · refine ⟨_, ?_, gcL_same ⟨j + 1, rfl, rfl, (all_take (p := fun x => 0 < ls.getD x 0) hjl).2 ⟨ha, by omega⟩, by omega, rfl⟩⟩
      omega
  · have e : j = l.length := by omega
    subst e
    rw [List.take_length] at ha
    refine gcV_same (hq _ ⟨fun q => by omega, fun q => ?_⟩)
    unfold okWay at q
    rw [decide_eq_false_iff_not] at q
    exact absurd ha q
theorem ctf_spec {h : Heap} {ls l : List Nat} (hk : ∀ x ∈ l, x < ls.length) (hl : l.length ≤ 1000000000) {Q : Value → Heap → Prop}
    (hq : Q (.bool (!okWay ls l)) h) : acall Try.prog F_slices_ContainsFunc_int_int [nats l, .func (.func F_count_knots_fertile_D1) #[] #[plit [nats ls]]] h Q := by
  apply W_slices_ContainsFunc_int_int_ok
  unfold W_slices_ContainsFunc_int_int
  repeat' first | ((with_reducible apply s_call))
  refine ixf_spec hk hl fun n hn => ?_
  repeat' first | ((with_reducible apply s_geq))
  refine gcV_same ?_
  have e : decide ((0 : Int) ≤ n) = !okWay ls l := by
    cases q : okWay ls l with
    | false => rw [decide_eq_true (hn.2 q)]; rfl
    | true => rw [decide_eq_false fun z => by rw [hn.1 z] at q; cases q]; rfl
  rw [e]; exact hq

theorem fertR_len {k : List (List (List Nat))} : (fertR k).length = k.length := by simp [fertR]
theorem cfert_spec {k : List (List (List Nat))} {W : Nat} (ok : KOk k W) (sz : KSz k) {h : Heap} {Q : Value → Heap → Prop} (hq : Q (knV (fertR k)) h) : acall Try.prog F_count_knots_fertile [knV k] h Q := by
  have hkl := sz.len
  apply W_count_knots_fertile_ok
  unfold W_count_knots_fertile
  repeat' first | ((with_reducible apply s_call))
  refine cleast_spec ok sz ?_
  have hll : (leastR k).length = k.length := (itrL_ok ok).len
  have hfe : fertR k = k.map fun ws => ws.filter (okWay (leastR k)) := rfl
  generalize leastR k = ls at hll hfe ⊢
  repeat' first | refine s_mks (by omega) (by omega) ?_ | ((with_reducible apply s_lenM)) | ((with_reducible apply s_let)) | ((with_reducible apply s_stV); (· rfl); (· rfl); (· rfl))
  have a0 := acc_mks (N := k.length) (h := h ++ [.row [nats ls] .exact]) (z := .slice none 0 0) rfl
  have ab : getRow (h ++ [.row [nats ls] .exact] ++ [.row (List.replicate k.length (.slice none 0 0)) .exact]) h.length = some ([nats ls], .exact) := getRow_app row_last
  rw [List.append_assoc] at a0 ab ⊢
  refine ⟨fun m vs H => ∃ (i : Nat) (v : Value) (g' : Heap), vs = [plit [nats ls], v, knV k, natV k.length, natV i] ∧ H = h ++ g' ∧ Acc 1 h.length (h ++ g') v (((k.take i).map fun ws => ws.filter (okWay ls)).map wnats ++ List.replicate (k.length - i) (.slice none 0 0)) ∧ i ≤ k.length ∧ m = k.length - i, k.length,
    gcL_acc1 (sz := 1) (es2 := ((k.take 0).map fun ws => ws.filter (okWay ls)).map wnats ++ List.replicate (k.length - 0) (.slice none 0 0)) (a0.low (by simp)) (fun x hx => by rw [(List.mem_replicate.1 hx).2]; rfl) (fun x hx => by simp at hx; rw [hx.2]; rfl) (by simp) (fun fr r _ k p q => ?_) (fun fr r v' g' hfr gv a' =>
      ⟨[plit [nats ls], v', knV k, natV k.length, natV 0], ⟨.box (hfr _ (by simp) fun ⟨_, _, _, q⟩ => by simp at q) ab (by intro x hx; rw [List.mem_singleton.1 hx]; exact tNat.clL), gv, .cl tW.clL, .cl (.int _ _), .cl (.int _ _), trivial⟩, 0, v', g', rfl, rfl, a', by omega, rfl⟩), ?_⟩
  · simp only [List.take_zero, List.map_nil, List.nil_append, List.getElem_replicate]
    exact ⟨.cl .nilS, trivial⟩
  clear a0 ab
  rintro m x0 x1 x2 x3 x4 H ⟨i, v, g', hv, rfl, a, hi, rfl⟩
  replace hv := hv.symm
  simp only [List.cons.injEq, and_true] at hv
  obtain ⟨rfl, rfl, rfl, rfl, rfl⟩ := hv
  repeat' first | ((with_reducible apply s_lss)) | ((with_reducible apply s_br) <;> intro hb <;> try (exfalso; omega)) | ((with_reducible apply s_lenM)) | ((with_reducible refine s_ix (by omega) ?_ ?_); (· rfl)) | ((with_reducible apply s_ld1); (· rfl))
  rotate_left
  · have e : i = k.length := by omega
    subst e
    rw [List.take_length, Nat.sub_self, List.replicate_zero, List.append_nil, ← hfe] at a
    exact tW.done (by omega) a rfl ⟨[], (List.append_nil _).symm⟩ hq
  have hil : i < k.length := by omega
  have hwl := sz.ways i hil
  have hkg : k.getD i [] = k[i] := getD_at hil
  obtain ⟨r, hr⟩ : ∃ r, k.length - i = r + 1 := ⟨k.length - i - 1, by omega⟩
  rw [hr] at a
  have G := Grid.start (f := nats) (sz := 1) a
  have hdl : ((k.take i).map fun ws => ws.filter (okWay ls)).length = i := by simp; omega
  have hdn : ((k.take i).map fun ws => ws.filter (okWay ls)) ++ [k[i].filter (okWay ls)] = (k.take (i + 1)).map fun ws => ws.filter (okWay ls) := by rw [take_succ' hil, List.map_append]; rfl
  generalize ((k.take i).map fun ws => ws.filter (okWay ls)) = done at G hdl hdn
  refine ⟨fun m vs H => ∃ (w : Nat) (cur : Value) (g' : Heap), vs = [plit [nats ls], v, natV i, knV k, natV k.length, natV i, wnats k[i], natV k[i].length, natV w] ∧ H = h ++ g' ∧ Grid 1 nats h.length (h ++ g') v done cur ((k[i].take w).filter (okWay ls)) r ∧ w ≤ k[i].length ∧ m = k[i].length - w, _,
    gcL_same ⟨0, _, g', rfl, rfl, G, by omega, rfl⟩, ?_⟩
  clear G a
  rintro m x0 x1 x2 x3 x4 x5 x6 x7 x8 H ⟨w, cur, g', hv, rfl, G, hw, rfl⟩
  replace hv := hv.symm
  simp only [List.cons.injEq, and_true] at hv
  obtain ⟨rfl, rfl, rfl, rfl, rfl, rfl, rfl, rfl, rfl⟩ := hv
  repeat' first | ((with_reducible apply s_inc); (· omega)) | ((with_reducible apply s_lss)) | ((with_reducible apply s_br) <;> intro hb <;> try (exfalso; omega)) | ((with_reducible refine s_ix (by omega) ?_ ?_); (· rfl)) | ((with_reducible apply s_ld1); (· rfl)) | ((with_reducible apply s_call))
  · have hwk : w < k[i].length := by omega
    have hml : k[i][w] ∈ k.getD i [] := by rw [hkg]; exact List.getElem_mem hwk
    have hkid := ok.kid i _ hml
    have hlw := sz.kids i _ hml
    have hft := filter_take (p := okWay ls) hwk
    have hfl := filter_len (p := okWay ls) (l := k[i]) (j := w)
    refine ctf_spec (fun x hx => by rw [hll]; exact hkid x hx) hlw ?_
    repeat' first | ((with_reducible apply s_inc); (· omega)) | ((with_reducible apply s_not)) | ((with_reducible apply s_brB) <;> intro hb <;> try contradiction)
    · have q : okWay ls k[i][w] = true := by simpa using hb
      rw [if_pos q] at hft
      refine G.push tNats (by omega) rfl hdl rfl (by omega) (by omega) fun cur' g2 G2 _ _ => ?_
      repeat' first | ((with_reducible apply s_inc); (· omega))
      refine ⟨_, ?_, gcL_same ⟨w + 1, cur', g2, rfl, rfl, by rw [hft]; exact G2, by omega, rfl⟩⟩
      omega
    · have q : okWay ls k[i][w] = false := by simpa using hb
      rw [if_neg (by rw [q]; decide), List.append_nil] at hft
      refine ⟨_, ?_, gcL_same ⟨w + 1, cur, g', rfl, rfl, by rw [hft]; exact G, by omega, rfl⟩⟩
      omega
  · have e : w = k[i].length := by omega
    subst e
    rw [List.take_length] at G
    refine ⟨k.length - (i + 1), by omega, G.next tNats (by omega) fun fr r' v' g' hfr gv a' => ⟨[plit [nats ls], v', knV k, natV k.length, natV (i + 1)], ⟨.cl (.plit' (by intro x hx; rw [List.mem_singleton.1 hx]; exact tNat.clL)), gv, .cl tW.clL, .cl (.int _ _), .cl (.int _ _), trivial⟩, i + 1, v', g', rfl, rfl, ?_, by omega, rfl⟩⟩
    rw [← hdn, show k.length - (i + 1) = r by omega]
    exact a'

end Go.Ax

namespace Go.Ax
open Go.RowKit
/-- The numbers that are marked. -/
def onL (l : List Bool) (i : Nat) : Prop := l.getD i false = true
instance (l : List Bool) (i : Nat) : Decidable (onL l i) := by unfold onL; infer_instance
theorem on_lt {l : List Bool} {i : Nat} (h : onL l i) : i < l.length := by
  unfold onL at h
  by_cases hi : i < l.length
  · exact hi
  · rw [List.getD_eq_getElem?_getD, List.getElem?_eq_none (by omega)] at h; cases h
theorem on_iff {l : List Bool} {i : Nat} (h : i < l.length) : onL l i ↔ l[i] = true := by unfold onL; simp [h]
end Go.Ax
namespace Go.Ax
open Go Go.Proofs Go.RowKit
def onT (T : List (List Bool)) (s t : Nat) : Prop := onL (T.getD s []) t
instance (T : List (List Bool)) (s t : Nat) : Decidable (onT T s t) := by unfold onT; infer_instance
theorem onT_iff {T : List (List Bool)} {s t : Nat} (h : s < T.length) : onT T s t ↔ onL T[s] t := by unfold onT; rw [List.getD_eq_getElem?_getD, List.getElem?_eq_getElem h]; rfl
theorem onT_lt {T : List (List Bool)} {s t : Nat} (h : onT T s t) : s < T.length := by
  apply Classical.byContradiction
  intro hn
  unfold onT at h
  rw [List.getD_eq_getElem?_getD, List.getElem?_eq_none (by omega)] at h
  have := on_lt h
  simp at this
abbrev rowV (c j : Nat) : Value := .slice (some ⟨j, 0, none⟩) c c
/-- A table of bools: a row of rows, all of one length. -/
structure TabAt (c n0 : Nat) (H : Heap) (v : Value) (ms : List Nat) (T : List (List Bool)) : Prop where
  acc : Acc 1 n0 H v (ms.map (rowV c))
  len : ms.length = T.length
  nd : ms.Nodup
  ge : ∀ j ∈ ms, n0 ≤ j ∧ ¬ lies v j
  row : ∀ i (p : i < ms.length) (q : i < T.length), getRow H ms[i] = some (T[i].map .bool, .exact)
  wid : ∀ r ∈ T, r.length = c
theorem rowV_len {c : Nat} {l : List Nat} : ∀ x ∈ l.map (rowV c), (cellsOf x).length = 1 := fun x hx => by
  obtain ⟨n, _, rfl⟩ := List.mem_map.1 hx; rfl
theorem rowV_flat {c : Nat} {ms : List Nat} : (ms.map (rowV c)).flatMap cellsOf = ms.map (rowV c) := flat_one fun e he => by obtain ⟨n, _, rfl⟩ := List.mem_map.1 he; rfl
theorem TabAt.nil {c n0 : Nat} {H : Heap} : TabAt c n0 H (.slice none 0 0) [] [] := ⟨Acc.nil, rfl, .nil, by simp, by simp, by simp⟩
section
variable {c n0 : Nat} {H : Heap} {v : Value} {ms : List Nat} {T : List (List Bool)} (a : TabAt c n0 H v ms T)
include a
theorem TabAt.app {t : Heap} : TabAt c n0 (H ++ t) v ms T := ⟨a.acc.app, a.len, a.nd, a.ge, fun i p q => getRow_app (a.row i p q), a.wid⟩
theorem TabAt.congr {H' : Heap} (e : ∀ j, n0 ≤ j → j < H.length → H'[j]? = H[j]?) : TabAt c n0 H' v ms T :=
  ⟨a.acc.congr fun j hj => e j (a.acc.ge hj) (a.acc.lt hj), a.len, a.nd, a.ge, fun i p q => by
    have h := a.row i p q
    rw [getRow_same (e _ (a.ge _ (List.getElem_mem p)).1 (getRow_lt h))]; exact h, a.wid⟩
/-- A row is loaded. -/
theorem TabAt.get {x : Int} (hx : inR T.length x) {K : Value → Value → Prop} (k : ∀ p, K p (rowV c (ms[x.toNat]'(by rw [a.len]; unfold inR at hx; omega)))) : oW (iaS 1 v (.int .i64 x)) fun p => oW (ldW false 1 H p) fun w => K p w := by
  unfold inR at hx
  have hl : x.toNat < ms.length := by rw [a.len]; omega
  rcases a.acc with ⟨rfl, e⟩ | ⟨q, cap, cc, m, h1, rfl, h3, h4, h5, h6, h7⟩
  · have := congrArg List.length e; simp at this; subst this; simp at hl
  · rw [iaS_slice' hx.1 (by rw [List.length_map, a.len]; exact hx.2), oW_some]
    refine ⟨rowV c ms[x.toNat], ?_, k _⟩
    rw [ldW_one, h3, Option.bind_some]
    rw [rowV_flat] at h7
    simp only [List.length_map, Nat.mul_one] at h7
    have := get_take h7 hl
    rw [Nat.zero_add, Nat.mul_one, this]
    simp [hl]
/-- A cell is loaded. -/
theorem TabAt.cell {i : Nat} (p : i < ms.length) {t : Int} (ht : inR c t) {K : Value → Prop} (k : K (.bool (decide (onT T i t.toNat)))) : oW (iaS 1 (rowV c ms[i]) (.int .i64 t)) fun q => oW (ldW false 1 H q) K := by
  unfold inR at ht
  have q : i < T.length := by rw [← a.len]; exact p
  have hw := a.wid _ (List.getElem_mem q)
  have hl : t.toNat < T[i].length := by omega
  rw [iaS_slice' ht.1 ht.2, oW_some]
  refine ⟨.bool T[i][t.toNat], by rw [ldW_one, a.row i p q, Option.bind_some, Nat.zero_add, Nat.mul_one, List.getElem?_map, List.getElem?_eq_getElem hl]; rfl, ?_⟩
  have : decide (onT T i t.toNat) = T[i][t.toNat] := by rw [Bool.eq_iff_iff, decide_eq_true_eq, onT_iff q, on_iff hl]
  rwa [this] at k
/-- A cell is stored. -/
theorem TabAt.put {i : Nat} (p : i < ms.length) {t : Int} (ht : inR c t) {b : Bool} {K : Heap → Prop}
    (k : ∀ H' T', TabAt c n0 H' v ms T' → T'.length = T.length → (∀ s u, onT T' s u ↔ if s = i ∧ u = t.toNat then b = true else onT T s u) → (∀ j, j < n0 → H'[j]? = H[j]?) → H'.length = H.length → K H') :
    oW (iaS 1 (rowV c ms[i]) (.int .i64 t)) fun q => sW (stW 1 H q (.bool b)) K := by
  unfold inR at ht
  have q : i < T.length := by rw [← a.len]; exact p
  have hw := a.wid _ (List.getElem_mem q)
  have hl : t.toNat < T[i].length := by omega
  have hr := a.row i p q
  have hge := a.ge _ (List.getElem_mem p)
  rw [iaS_slice' ht.1 ht.2, oW_some, st1 hr (by simp) rfl rfl rfl (by simp; omega), sW_some]
  have hon : ∀ u, onL (T[i].set t.toNat b) u ↔ if u = t.toNat then b = true else onL T[i] u := fun u => by
    unfold onL
    rw [List.getD_eq_getElem?_getD, List.getD_eq_getElem?_getD, List.getElem?_set]
    by_cases e : t.toNat = u
    · subst e; simp [hl]
    · rw [if_neg e, if_neg (Ne.symm e)]
  refine k _ (T.set i (T[i].set t.toNat b)) ⟨a.acc.congr fun j hj => ?_, by simp [a.len], a.nd, a.ge, fun j pj qj => ?_, fun r hr2 => ?_⟩ (by simp) (fun s u => ?_) (fun j hj => ?_) (by simp)
  · rw [List.getElem?_set_ne fun e => hge.2 (by rw [e]; exact hj)]
  · by_cases e : j = i
    · subst e
      rw [List.getElem_set_self, getRow_set hr]
      simp [List.map_set]
    · have qj' : j < T.length := by simpa using qj
      rw [List.getElem_set_ne (Ne.symm e), getRow_same (List.getElem?_set_ne fun z => e ((List.getElem_inj a.nd).1 z).symm)]
      exact a.row j pj qj'
  · rcases List.mem_or_eq_of_mem_set hr2 with z | rfl
    · exact a.wid r z
    · rw [List.length_set]; exact hw
  · by_cases e : s = i
    · subst e
      rw [onT_iff (by simpa using q), List.getElem_set_self, hon, onT_iff q]
      by_cases eu : u = t.toNat <;> simp [eu]
    · unfold onT
      rw [List.getD_eq_getElem?_getD, List.getElem?_set_ne (Ne.symm e), ← List.getD_eq_getElem?_getD]
      simp [e]
  · rw [List.getElem?_set_ne (by omega)]
end
/-- One row more. -/
theorem TabAt.push {c n0 : Nat} {B g : Heap} {v : Value} {ms : List Nat} {T : List (List Bool)} (hB : B.length = n0) (a : TabAt c n0 (B ++ g) v ms T) {j : Nat} {r : List Bool} (hr : getRow (B ++ g) j = some (r.map .bool, .exact)) (hw : r.length = c) (hj : n0 ≤ j) (hnew : j ∉ ms) (hnl : ¬ lies v j) (hbig : T.length ≤ 1000000)
    {K : Value → Heap → Prop} (k : ∀ v' g', TabAt c n0 (B ++ g') v' (ms ++ [j]) (T ++ [r]) → K v' (B ++ g')) :
    hW (bslW (B ++ g) 1 [(.slice none 0 0)] [(0, 1, rowV c j)]) fun v1 h1 => hW (apW 1 24 h1 v v1) K := by
  have hl := a.len
  refine Acc.push hB a.acc (by omega) rowV_len (e := rowV c j) rfl rfl rfl rfl (by simp; omega) (by simp; omega) fun v' g' a2 q1 q2 q3 => k v' g' ?_
  have keep : ∀ q cc, ¬ lies v q → getRow (B ++ g) q = some cc → getRow (B ++ g') q = some cc := fun q cc hq he => by
    rw [getRow_same (q1 q (getRow_lt he) hq)]; exact he
  refine ⟨by rw [List.map_append]; exact a2, by simp [hl], ?_, fun q hq => ?_, fun i p q => ?_, fun x hx => ?_⟩
  · rw [List.nodup_append]
    exact ⟨a.nd, by simp, fun x hx y hy e => hnew (by rw [List.mem_singleton.1 hy] at e; rw [← e]; exact hx)⟩
  · rcases List.mem_append.1 hq with z | z
    · refine ⟨(a.ge q z).1, fun w => ?_⟩
      rcases q2 q w with w | w
      · exact (a.ge q z).2 w
      · obtain ⟨i, hi, rfl⟩ := List.mem_iff_getElem.1 z
        have := getRow_lt (a.row i hi (by rw [← hl]; exact hi))
        omega
    · have := List.mem_singleton.1 z
      subst this
      refine ⟨hj, fun w => ?_⟩
      rcases q2 q w with w | w
      · exact hnl w
      · have := getRow_lt hr
        omega
  · by_cases hi : i < ms.length
    · rw [List.getElem_append_left hi, List.getElem_append_left (by omega)]
      exact keep _ _ (a.ge _ (List.getElem_mem hi)).2 (a.row i hi (by omega))
    · have hie : i = ms.length := by simp at p; omega
      subst hie
      rw [List.getElem_append_right (by omega), List.getElem_append_right (by omega)]
      simp only [hl, Nat.sub_self, List.getElem_singleton]
      exact keep _ _ hnl hr
  · rcases List.mem_append.1 hx with z | z
    · exact a.wid x z
    · rw [List.mem_singleton.1 z]; exact hw
/-- A table that is frozen with all else. -/
theorem TabAt.gv {c n0 : Nat} {h0 H : Heap} {v : Value} {ms : List Nat} {T : List (List Bool)} (hn : h0.length ≤ n0) (a : TabAt c n0 H v ms T) : Gv (frOf h0.length []) (rOf h0.length []) H (lit (T.map bools)) v := by
  have hl := a.len
  have hge := a.ge
  have hrow := a.row
  have hwid := a.wid
  have hacc := a.acc
  rcases hacc with ⟨rfl, e⟩ | ⟨q, cap, cc, m, h1, rfl, h3, h4, h5, h6, h7⟩
  · have : T = [] := by
      have := congrArg List.length e
      simp at this
      subst this
      exact List.eq_nil_of_length_eq_zero hl.symm
    subst this
    exact .lit0 _ _
  · rw [rowV_flat] at h7
    simp only [List.length_map, Nat.mul_one] at h7 h6 h5 ⊢
    have hfr : ∀ j, n0 ≤ j → frOf h0.length [] j := fun j hj => ⟨by omega, by simp⟩
    have := Gv.frzS (fr := frOf h0.length []) (r := rOf h0.length []) (h := H) (T.map bools).toArray q 0 1 cap cc m (hfr q h1) (getRow_eq h3) (by omega) (fun k p => by simp) (by simp; omega) fun k j p p2 p3 => ?_
    · simpa [hl] using this
    · have hk : k < T.length := by simpa using p
      have hkm : k < ms.length := by omega
      have hj0 : j = 0 := by simp at p2; exact p2
      subst hj0
      have hc : cc[0 + (k * 1 + 0)] = rowV c ms[k] := by
        have h8 := get_take h7 hkm
        rw [List.getElem?_map, List.getElem?_eq_getElem hkm] at h8
        have h9 := List.getElem?_eq_getElem p3
        have e0 : 0 + (k * 1 + 0) = k := by omega
        have h10 : cc[0 + (k * 1 + 0)]? = some (rowV c ms[k]) := by rw [e0]; exact h8
        exact Option.some.inj (h9.symm.trans h10)
      rw [hc]
      have e2 : (cellsOf (T.map bools).toArray[k])[0]'p2 = bools T[k] := by simp
      rw [e2]
      have hw := hwid _ (List.getElem_mem hk)
      exact Gv.frz1 (fr := frOf h0.length []) (r := rOf h0.length []) (h := H) (es := T[k].map .bool) (i := ms[k]) (cap := c) (len := c) (m := .exact) (hfr _ (hge _ (List.getElem_mem hkm)).1) (getRow_eq (hrow k hkm hk)) (by simp [hw]) (fun e he => by obtain ⟨b, _, rfl⟩ := List.mem_map.1 he; exact ⟨rfl, .bool _⟩)
/-- At the end of a call: frozen. -/
theorem TabAt.done {c n0 : Nat} {h0 B g : Heap} {v : Value} {ms : List Nat} {T : List (List Bool)} {Q : Value → Heap → Prop} (hB : B.length = n0) (hB0 : ∃ t, B = h0 ++ t) (a : TabAt c n0 (B ++ g) v ms T) (hq : Q (lit (T.map bools)) h0) : gcV h0 Q v (B ++ g) := by
  obtain ⟨t, rfl⟩ := hB0
  have hn : h0.length ≤ n0 := by rw [← hB]; simp
  have := a.gv hn
  rw [List.append_assoc] at this ⊢
  exact gcV_end this hq
end Go.Ax
namespace Go.Ax
open Go Go.Proofs Go.RowKit
theorem onT_lt2 {T : List (List Bool)} {c i j : Nat} (hw : ∀ r ∈ T, r.length = c) (h : onT T i j) : i < T.length ∧ j < c := by
  have h1 := onT_lt h
  refine ⟨h1, ?_⟩
  rw [onT_iff h1] at h
  have := on_lt h
  rw [hw _ (List.getElem_mem h1)] at this
  exact this
end Go.Ax
namespace Go.Ax
open Go Go.Proofs Go.RowKit
theorem TabAt.lenS {c n0 : Nat} {H : Heap} {v : Value} {ms : List Nat} {T : List (List Bool)} (a : TabAt c n0 H v ms T) : Go.Ax.lenS v = some (.int .i64 (T.length : Int)) := by
  have := a.acc.len
  rw [List.length_map, a.len] at this; exact this
/-- A table between a relation and what follows from it. -/
structure ClS (c n0 : Nat) (v : Value) (ms : List Nat) (h : Heap) (R : Nat → Nat → Prop) (T : List (List Bool)) (H : Heap) : Prop where
  tab : TabAt c n0 H v ms T
  sq : T.length = c
  low : ∀ j, j < n0 → H[j]? = h[j]?
  len : H.length = h.length
  all : ∀ a b, R a b → onT T a b
  snd : ∀ a b, onT T a b → Plus R a b
end Go.Ax
namespace Go.Ax
open Go Go.Proofs Go.RowKit
def WaB (T0 T : List (List Bool)) (k i j : Nat) : Prop := ∀ i' j', (i' < i ∨ i' = i ∧ j' < j) → onT T0 i' k → onT T0 k j' → onT T i' j'
def WaI1 (c n0 : Nat) (v : Value) (ms : List Nat) (h : Heap) (R : Nat → Nat → Prop) (m : Nat) (vs : List Value) (H : Heap) : Prop :=
  ∃ (T : List (List Bool)) (k : Nat), vs = [v, .int .i64 (c : Int), .int .i64 (k : Int)] ∧ ClS c n0 v ms h R T H ∧ (∀ a b, Via R k a b → onT T a b) ∧ m = c - k ∧ k ≤ c
def WaI2 (c n0 : Nat) (v : Value) (ms : List Nat) (h : Heap) (R : Nat → Nat → Prop) (T0 : List (List Bool)) (k : Nat) (m : Nat) (vs : List Value) (H : Heap) : Prop :=
  ∃ (T : List (List Bool)) (i : Nat), vs = [v, .int .i64 (c : Int), .int .i64 (k : Int), .int .i64 (i : Int)] ∧ ClS c n0 v ms h R T H ∧ (∀ a b, onT T0 a b → onT T a b) ∧ WaB T0 T k i 0 ∧ m = c - i ∧ i ≤ c
def WaI3 (c n0 : Nat) (v : Value) (ms : List Nat) (h : Heap) (R : Nat → Nat → Prop) (T0 : List (List Bool)) (k i : Nat) (m : Nat) (vs : List Value) (H : Heap) : Prop :=
  ∃ (T : List (List Bool)) (j : Nat), vs = [v, .int .i64 (c : Int), .int .i64 (k : Int), .int .i64 (i : Int), .int .i64 (j : Int)] ∧ ClS c n0 v ms h R T H ∧ (∀ a b, onT T0 a b → onT T a b) ∧ WaB T0 T k i j ∧ m = c - j ∧ j ≤ c
end Go.Ax

namespace Go.Ax
open Go Go.Proofs Go.RowKit

theorem s_setLast {H : Heap} {N b : Nat} {r : List Bool} {K : Heap → Prop} (hr : r.length = N) (hb : b < N) (k : K (H ++ [.row ((r.set b true).map .bool) .exact])) :
    oW (iaS 1 (.slice (some ⟨H.length, 0, none⟩) N N) (natV b)) fun p => sW (stW 1 (H ++ [.row (r.map .bool) .exact]) p (.bool true)) K := by
  rw [iaS_slice hb, oW_some, st1 row_last (by simp) rfl rfl rfl (by simp; omega), sW_some, set_app0, List.set_cons_zero, Nat.zero_add, Nat.mul_one, ← List.map_set]
  exact k
theorem onL_set {r : List Bool} {b x : Nat} (hb : b < r.length) : onL (r.set b true) x ↔ onL r x ∨ x = b := by
  unfold onL
  rw [List.getD_eq_getElem?_getD, List.getElem?_set, List.getD_eq_getElem?_getD]
  by_cases q : b = x
  · rw [if_pos q, if_pos hb]; simp [q]
  · rw [if_neg q]; simp [Ne.symm q]
theorem onL_rep {N x : Nat} : ¬ onL (List.replicate N false) x := by
  unfold onL; rw [List.getD_eq_getElem?_getD, List.getElem?_replicate]; split <;> simp
theorem onT_snoc {T : List (List Bool)} {r : List Bool} {a b : Nat} : onT (T ++ [r]) a b ↔ onT T a b ∨ (a = T.length ∧ onL r b) := by
  unfold onT
  rw [List.getD_eq_getElem?_getD, List.getD_eq_getElem?_getD, List.getElem?_append]
  by_cases q : a < T.length
  · rw [if_pos q]
    exact ⟨.inl, fun z => z.elim id fun z => by omega⟩
  · rw [if_neg q, List.getElem?_eq_none (show T.length ≤ a by omega)]
    by_cases q2 : a = T.length
    · subst q2
      rw [Nat.sub_self]
      exact ⟨fun z => .inr ⟨rfl, z⟩, fun z => z.elim (fun z => by simp [onL] at z) (·.2)⟩
    · rw [List.getElem?_eq_none (by simp; omega)]
      exact ⟨.inl, fun z => z.elim id fun z => absurd z.1 q2⟩
/-- What is come to by ways of a knot. -/
def inW (ws : List (List Nat)) (x : Nat) : Prop := ∃ l ∈ ws, x ∈ l
theorem inW_take {ws : List (List Nat)} {w x : Nat} (hw : w < ws.length) : inW (ws.take (w + 1)) x ↔ inW (ws.take w) x ∨ x ∈ ws[w] := by
  unfold inW
  rw [take_succ' hw]
  simp only [List.mem_append, List.mem_singleton]
  constructor
  · rintro ⟨l, h | rfl, hx⟩
    · exact .inl ⟨l, h, hx⟩
    · exact .inr hx
  · rintro (⟨l, h, hx⟩ | hx)
    · exact ⟨l, .inl h, hx⟩
    · exact ⟨_, .inr rfl, hx⟩

theorem heap_split {h H : Heap} (hl : h.length ≤ H.length) (e : ∀ j, j < h.length → H[j]? = h[j]?) : H = h ++ H.drop h.length := by
  apply List.ext_getElem?
  intro j
  by_cases q : j < h.length
  · rw [List.getElem?_append_left q, e j q]
  · rw [List.getElem?_append_right (by omega), List.getElem?_drop]; congr 1; omega
/-- All that the table tells. -/
structure LdOk (k : List (List (List Nat))) (T : List (List Bool)) : Prop where
  len : T.length = k.length
  wid : ∀ r ∈ T, r.length = k.length
  all : ∀ i j, onT T i j ↔ Plus (stepK k) i j

theorem leads28_spec {k : List (List (List Nat))} {W : Nat} (ok : KOk k W) (sz : KSz k) {h : Heap} {Q : Value → Heap → Prop} (hq : ∀ T, LdOk k T → Q (lit (T.map bools)) h) : acall Try.prog F_homographref28_leads [knV k] h Q := by
  have hkl := sz.len
  apply W_homographref28_leads_ok
  unfold W_homographref28_leads
  repeat' first | ((with_reducible apply s_lenM))
  refine ⟨fun m vs H => ∃ (i : Nat) (v : Value) (ms : List Nat) (T : List (List Bool)) (g : Heap), vs = [knV k, natV k.length, v, natV i] ∧ H = h ++ g ∧ TabAt k.length h.length (h ++ g) v ms T ∧ T.length = i ∧ (∀ a b, onT T a b ↔ a < i ∧ stepK k a b) ∧ i ≤ k.length ∧ m = k.length - i, _,
    gcL_same ⟨0, _, [], [], [], rfl, (List.append_nil _).symm, .nil, rfl, fun a b => ⟨fun q => by simp [onT, onL] at q, fun q => by omega⟩, by omega, rfl⟩, ?_⟩
  rintro m x0 x1 x2 x3 H ⟨i, v, ms, T, g, hv, rfl, ta, htl, hon, hi, rfl⟩
  replace hv := hv.symm
  simp only [List.cons.injEq, and_true] at hv
  obtain ⟨rfl, rfl, rfl, rfl⟩ := hv
  repeat' first | ((with_reducible apply s_lss)) | ((with_reducible apply s_br) <;> intro hb <;> try (exfalso; omega))
  · have hil : i < k.length := by omega
    have hkg : k.getD i [] = k[i] := getD_at hil
    have hwl := sz.ways i hil
    refine s_mks (by omega) (by omega) ?_
    refine ⟨fun m vs H => ∃ (w : Nat) (r : List Bool), vs = [knV k, natV k.length, v, natV i, rowV k.length (h ++ g).length, natV w] ∧ H = h ++ g ++ [.row (r.map .bool) .exact] ∧ r.length = k.length ∧ (∀ x, onL r x ↔ inW (k[i].take w) x) ∧ w ≤ k[i].length ∧ m = k[i].length - w, _,
      gcL_same ⟨0, List.replicate k.length false, rfl, by rw [List.map_replicate], by simp, fun x => ⟨fun q => absurd q onL_rep, fun ⟨l, q, _⟩ => by simp at q⟩, by omega, rfl⟩, ?_⟩
    rintro m x0 x1 x2 x3 x4 x5 H ⟨w, r, hv, rfl, hr, hrn, hw, rfl⟩
    replace hv := hv.symm
    simp only [List.cons.injEq, and_true] at hv
    obtain ⟨rfl, rfl, rfl, rfl, rfl, rfl⟩ := hv
    repeat' first | ((with_reducible apply s_lss)) | ((with_reducible apply s_br) <;> intro hb <;> try (exfalso; omega)) | ((with_reducible apply s_lenM)) | ((with_reducible refine s_ix (by omega) ?_ ?_); (· rfl)) | ((with_reducible apply s_ld1); (· rfl))
    · have hwk : w < k[i].length := by omega
      have hml : k[i][w] ∈ k.getD i [] := by rw [hkg]; exact List.getElem_mem hwk
      have hkid := ok.kid i _ hml
      have hlw := sz.kids i _ hml
      refine ⟨fun m vs H => ∃ (j : Nat) (r2 : List Bool), vs = [knV k, natV k.length, v, natV i, rowV k.length (h ++ g).length, natV w, natV j] ∧ H = h ++ g ++ [.row (r2.map .bool) .exact] ∧ r2.length = k.length ∧ (∀ x, onL r2 x ↔ inW (k[i].take w) x ∨ x ∈ k[i][w].take j) ∧ j ≤ k[i][w].length ∧ m = k[i][w].length - j, _,
        gcL_same ⟨0, r, rfl, rfl, hr, fun x => by rw [hrn]; simp, by omega, rfl⟩, ?_⟩
      rintro m x0 x1 x2 x3 x4 x5 x6 H ⟨j, r2, hv, rfl, hr2, hrn2, hj, rfl⟩
      replace hv := hv.symm
      simp only [List.cons.injEq, and_true] at hv
      obtain ⟨rfl, rfl, rfl, rfl, rfl, rfl, rfl⟩ := hv
      repeat' first | ((with_reducible apply s_inc); (· omega)) | ((with_reducible apply s_lss)) | ((with_reducible apply s_br) <;> intro hb <;> try (exfalso; omega)) | ((with_reducible apply s_lenM)) | ((with_reducible refine s_ix (by omega) ?_ ?_); (· rfl)) | ((with_reducible apply s_ld1); (· rfl))
      · have hjl : j < k[i][w].length := by omega
        refine s_setLast hr2 (hkid _ (List.getElem_mem hjl)) ?_
        repeat' first | ((with_reducible apply s_inc); (· omega))
        refine ⟨_, ?_, gcL_same ⟨j + 1, _, rfl, rfl, by rw [List.length_set]; exact hr2, fun x => by rw [onL_set (by rw [hr2]; exact hkid _ (List.getElem_mem hjl)), hrn2, take_succ' hjl, List.mem_append, List.mem_singleton, or_assoc], by omega, rfl⟩⟩
        omega
      · have e : j = k[i][w].length := by omega
        subst e
        rw [List.take_length] at hrn2
        refine ⟨_, ?_, gcL_same ⟨w + 1, r2, rfl, rfl, hr2, fun x => by rw [hrn2, inW_take hwk], by omega, rfl⟩⟩
        omega
    · have e : w = k[i].length := by omega
      subst e
      rw [List.take_length] at hrn
      have hnew : (h ++ g).length ∉ ms := fun q => by
        obtain ⟨p, hp, e⟩ := List.getElem_of_mem q
        have := getRow_lt (ta.row p hp (by rw [← ta.len]; exact hp))
        omega
      have hnl : ¬ lies v (h ++ g).length := fun q => by have := ta.acc.lt q; omega
      have hrow : getRow (h ++ g ++ [.row (r.map .bool) .exact]) (h ++ g).length = some (r.map .bool, .exact) := row_last
      have ta2 := ta.app (t := [.row (r.map .bool) .exact])
      have hge : h.length ≤ (h ++ g).length := by simp
      generalize (h ++ g).length = q at hnew hnl hrow hge ⊢
      rw [List.append_assoc] at hrow ta2 ⊢
      refine ta2.push rfl hrow hr hge hnew hnl (by omega) fun v' g' ta3 => ?_
      repeat' first | ((with_reducible apply s_inc); (· omega))
      refine ⟨_, ?_, gcL_same ⟨i + 1, v', _, _, g', rfl, rfl, ta3, by rw [List.length_append, htl]; rfl, fun a b => by rw [onT_snoc, hon, htl, hrn]; exact ⟨fun z => z.elim (fun z => ⟨by omega, z.2⟩) (fun ⟨z1, l, z2, z3⟩ => ⟨by omega, l, by rw [z1, hkg]; exact z2, z3⟩), fun ⟨z1, l, z2, z3⟩ => (by by_cases e : a = i; (exact .inr ⟨e, l, by rw [e, hkg] at z2; exact z2, z3⟩); exact .inl ⟨by omega, l, z2, z3⟩)⟩, by omega, rfl⟩⟩
      omega
  have e : i = k.length := by omega
  subst e
  have hst : ∀ a b, onT T a b ↔ stepK k a b := fun a b => by
    rw [hon]
    refine ⟨fun q => q.2, fun q => ⟨?_, q⟩⟩
    obtain ⟨l, hl, _⟩ := q
    apply Classical.byContradiction
    intro hn
    rw [noway (by omega)] at hl; cases hl
  have hlt : ∀ a b, stepK k a b → b < k.length := fun a b ⟨l, hl, hx⟩ => ok.kid a l hl b hx
  clear hon hi
  have hlow0 : ∀ j, j < h.length → (h ++ g)[j]? = h[j]? := fun j hj => List.getElem?_append_left hj
  have hle0 : h.length ≤ (h ++ g).length := by simp
  generalize h ++ g = h0 at ta hlow0 hle0 ⊢
  generalize hc : k.length = c at *
  generalize hR : stepK k = R at *
  refine ⟨fun m vs H => ∃ (T : List (List Bool)) (q : Nat), vs = [natV c, v, natV q] ∧ ClS c h.length v ms h0 R T H ∧ (∀ a b, Via R q a b → onT T a b) ∧ q ≤ c ∧ m = c - q, _, gcL_same ⟨T, 0, rfl, ⟨ta, htl, fun _ _ => rfl, rfl, fun a b q => (hst a b).2 q, fun a b q => .one ((hst a b).1 q)⟩, fun a b q => (hst a b).2 q.zero, by omega, rfl⟩, ?_⟩
  clear hst ta htl
  rintro m x0 x1 x2 h9 ⟨T0, q, hv, st, hvia, hqc, rfl⟩
  replace hv := hv.symm
  simp only [List.cons.injEq, and_true] at hv
  obtain ⟨rfl, rfl, rfl⟩ := hv
  repeat' first | ((with_reducible apply s_lss)) | ((with_reducible apply s_br) <;> intro hb <;> try (exfalso; omega))
  rotate_left
  · have e : q = c := by omega
    subst e
    have hsp := heap_split (h := h) (H := h9) (by rw [st.len]; exact hle0) fun j hj => (st.low j hj).trans (hlow0 j hj)
    have ta := st.tab
    rw [hsp] at ta ⊢
    refine ta.done rfl ⟨[], (List.append_nil _).symm⟩ (hq T0 ⟨by rw [st.sq, hc], fun r hr => by rw [hc]; exact st.tab.wid r hr, fun i j => ?_⟩)
    rw [hR]
    exact ⟨st.snd i j, fun z => hvia _ _ (Via.of_plus hlt z)⟩
  have hq' : q < c := by omega
  refine ⟨fun m vs H => ∃ (T : List (List Bool)) (i : Nat), vs = [natV c, v, natV q, natV i] ∧ ClS c h.length v ms h0 R T H ∧ (∀ a b, onT T0 a b → onT T a b) ∧ WaB T0 T q i 0 ∧ i ≤ c ∧ m = c - i, _, gcL_same ⟨T0, 0, rfl, st, fun _ _ z => z, fun _ _ z => by omega, by omega, rfl⟩, ?_⟩
  have st0 := st
  clear st
  rintro m x0 x1 x2 x3 h19 ⟨T1, i, hv, st, hup, hb0, hic, rfl⟩
  replace hv := hv.symm
  simp only [List.cons.injEq, and_true] at hv
  obtain ⟨rfl, rfl, rfl, rfl⟩ := hv
  repeat' first | ((with_reducible apply s_inc); (· omega)) | ((with_reducible apply s_lss)) | ((with_reducible apply s_br) <;> intro hb <;> try (exfalso; omega))
  rotate_left
  · have e : i = c := by omega
    subst e
    refine ⟨_, ?_, gcL_same ⟨T1, q + 1, rfl, st, fun a b z => (by rcases z.split with z | ⟨z1, z2⟩; (exact hup _ _ (hvia _ _ z)); exact hb0 a b (.inl (by have := onT_lt2 st0.tab.wid (hvia _ _ z1); have := st0.sq; omega)) (hvia _ _ z1) (hvia _ _ z2)), by omega, rfl⟩⟩
    omega
  have hi' : i < c := by omega
  refine ⟨fun m vs H => ∃ (T : List (List Bool)) (j : Nat), vs = [natV c, v, natV q, natV i, natV j] ∧ ClS c h.length v ms h0 R T H ∧ (∀ a b, onT T0 a b → onT T a b) ∧ WaB T0 T q i j ∧ j ≤ c ∧ m = c - j, _, gcL_same ⟨T1, 0, rfl, st, hup, hb0, by omega, rfl⟩, ?_⟩
  clear st hup hb0
  rintro m x0 x1 x2 x3 x4 h30 ⟨T2, j, hv, st, hup, hb0, hjc, rfl⟩
  replace hv := hv.symm
  simp only [List.cons.injEq, and_true] at hv
  obtain ⟨rfl, rfl, rfl, rfl, rfl⟩ := hv
  have hsq := st.sq
  have hml := st.tab.len
  have next : ∀ (T' : List (List Bool)) (H' : Heap) (b : Bool), TabAt c h.length H' v ms T' → T'.length = T2.length → (∀ s u, onT T' s u ↔ if s = i ∧ u = j then b = true else onT T2 s u) → (∀ q, q < h.length → H'[q]? = h30[q]?) → H'.length = h30.length → j < c →
      (onT T2 i j → b = true) → (b = true → Plus R i j) → (onT T2 i q → onT T2 q j → b = true) →
      ∃ m23, m23 < c - j ∧ gcL h (fun vs H => ∃ (T : List (List Bool)) (j : Nat), vs = [natV c, v, natV q, natV i, natV j] ∧ ClS c h.length v ms h0 R T H ∧ (∀ a b, onT T0 a b → onT T a b) ∧ WaB T0 T q i j ∧ j ≤ c ∧ m23 = c - j) [natV c, v, natV q, natV i, natV (j + 1)] H' := fun T' H' b ta' hl' hon hlow hlen hjl g1 g2 g3 => by
    have up : ∀ a b, onT T2 a b → onT T' a b := fun a b z => by
      rw [hon]
      split
      · rename_i w
        obtain ⟨rfl, rfl⟩ := w
        exact g1 z
      · exact z
    refine ⟨c - (j + 1), by omega, gcL_same ⟨T', j + 1, rfl, ⟨ta', by rw [hl', hsq], fun q hq2 => (hlow q hq2).trans (st.low q hq2), hlen.trans st.len, fun a b z => up a b (st.all a b z), fun a b z => ?_⟩, fun a b z => up a b (hup a b z), fun i' j' hlt2 h1 h2 => ?_, by omega, rfl⟩⟩
    · rw [hon] at z
      split at z
      · rename_i w
        obtain ⟨rfl, rfl⟩ := w
        exact g2 z
      · exact st.snd a b z
    · by_cases z : i' = i ∧ j' = j
      · obtain ⟨rfl, rfl⟩ := z
        rw [hon, if_pos ⟨rfl, rfl⟩]
        exact g3 (hup _ _ h1) (hup _ _ h2)
      · exact up _ _ (hb0 i' j' (by omega) h1 h2)
  have ti : inR T2.length (i : Int) := by unfold inR; omega
  have tq : inR T2.length (q : Int) := by unfold inR; omega
  repeat' first | ((with_reducible apply s_inc); (· omega)) | ((with_reducible apply s_lss)) | ((with_reducible apply s_brF)) | ((with_reducible apply s_br) <;> intro hb <;> try (exfalso; omega))
  rotate_left
  · refine ⟨_, ?_, gcL_same ⟨T2, i + 1, rfl, st, hup, fun i' j' hl h1 h2 => hb0 i' j' (by have := onT_lt2 st0.tab.wid h2; omega) h1 h2, by omega, rfl⟩⟩
    omega
  have hjl : j < c := by omega
  refine st.tab.get ti fun p => ?_
  simp only [Int.toNat_natCast]
  refine st.tab.cell (by omega) (t := (q : Int)) (by unfold inR; omega) ?_
  simp only [Int.toNat_natCast]
  repeat' first | ((with_reducible apply s_inc); (· omega)) | ((with_reducible apply s_brB) <;> intro hb <;> try contradiction)
  · have hik := of_decide_eq_true hb
    refine st.tab.get ti fun p => ?_
    simp only [Int.toNat_natCast]
    refine st.tab.get ti fun p => ?_
    simp only [Int.toNat_natCast]
    refine st.tab.cell (by omega) (t := (j : Int)) (by unfold inR; omega) ?_
    simp only [Int.toNat_natCast]
    repeat' first | ((with_reducible apply s_brB) <;> intro hb <;> try contradiction)
    · refine st.tab.put (by omega) (t := (j : Int)) (by unfold inR; omega) fun H' T' ta' hl' hon hlow hlen => ?_
      simp only [Int.toNat_natCast] at hon
      repeat' first | ((with_reducible apply s_inc); (· omega))
      exact next T' H' true ta' hl' (fun s u => by rw [hon s u]; simp) hlow hlen hjl (fun _ => rfl) (fun _ => st.snd _ _ (of_decide_eq_true hb)) fun _ _ => rfl
    · refine st.tab.get tq fun p => ?_
      simp only [Int.toNat_natCast]
      refine st.tab.cell (by omega) (t := (j : Int)) (by unfold inR; omega) ?_
      simp only [Int.toNat_natCast]
      refine st.tab.put (by omega) (t := (j : Int)) (by unfold inR; omega) fun H' T' ta' hl' hon hlow hlen => ?_
      simp only [Int.toNat_natCast] at hon
      repeat' first | ((with_reducible apply s_inc); (· omega))
      exact next T' H' _ ta' hl' hon hlow hlen hjl (fun z => absurd z (of_decide_eq_false hb)) (fun z => (st.snd _ _ hik).trans (st.snd _ _ (of_decide_eq_true z))) fun _ z => decide_eq_true z
  · refine ⟨_, ?_, gcL_same ⟨T2, i + 1, rfl, st, hup, fun i' j' hl h1 h2 => (by by_cases z : i' = i; (subst z; exact absurd (hup _ _ h1) (of_decide_eq_false hb)); exact hb0 i' j' (by omega) h1 h2), by omega, rfl⟩⟩
    omega

end Go.Ax

namespace Go.Ax
open Go Go.Proofs Go.RowKit

abbrev thV (h : Heap) (N : Nat) : Value := .slice (some ⟨h.length, 0, none⟩) N N
def TH (h : Heap) (kn : List Int) : Heap := h ++ [.row (kn.map vi) .exact]
section
variable {h : Heap} {N : Nat} {kn : List Int}
theorem TH.acc (hN : kn.length = N) : Acc 1 h.length (TH h kn) (thV h N) (kn.map vi) := by
  refine .inr ⟨h.length, N, kn.map vi, .exact, Nat.le_refl _, by simp [hN], row_last, .inr rfl, by simp [hN], by simp [hN], ?_⟩
  rw [List.take_of_length_le (by simp), flat_one]
  intro e he; obtain ⟨b, _, rfl⟩ := List.mem_map.1 he; rfl
theorem TH.get (hN : kn.length = N) {x : Nat} (hx : x < N) {K : Value → Prop} (k : K (vi (kn.getD x (-1)))) : oW (iaS 1 (thV h N) (natV x)) fun p => oW (ldW false 1 (TH h kn) p) K := by
  refine tInt.at1 (by omega) (fun _ => rfl) (TH.acc hN) (j := x) (by omega) ?_
  rw [getD_at (by omega)] at k; exact k
theorem TH.set (hN : kn.length = N) {x : Nat} {s : Int} (hx : x < N) {K : Heap → Prop} (k : K (TH h (kn.set x s))) : oW (iaS 1 (thV h N) (natV x)) fun p => sW (stW 1 (TH h kn) p (vi s)) K := by
  unfold TH at *
  rw [iaS_slice hx, oW_some, st1 (c := kn.map vi) (m := .exact) row_last (by simp) rfl rfl rfl (by simp; omega), sW_some, set_app0, List.set_cons_zero, Nat.zero_add, Nat.mul_one, ← List.map_set]
  exact k
end
/-- What is known is so. -/
def KnwOk (F : List (List (List Nat))) (kn : List Int) : Prop := ∀ x, 0 ≤ kn.getD x (-1) → ∃ n, TotK F x n ∧ kn.getD x (-1) = (capN n : Int)
theorem getD_setI {out : List Int} {i j : Nat} {v : Int} (h : i < out.length) : (out.set i v).getD j (-1) = if j = i then v else out.getD j (-1) := by
  rw [List.getD_eq_getElem?_getD, List.getElem?_set]
  by_cases q : i = j
  · rw [if_pos q, if_pos h, if_pos q.symm]; rfl
  · rw [if_neg q, if_neg (Ne.symm q), List.getD_eq_getElem?_getD]
theorem prodN_snoc {l : List Nat} {x : Nat} : prodN (l ++ [x]) = prodN l * x := by
  induction l with
  | nil => show x * 1 = 1 * x; omega
  | cons a l ih => show a * prodN (l ++ [x]) = a * prodN l * x; rw [ih, Nat.mul_assoc]
theorem prod_take {f : Nat → Nat} {l : List Nat} {j : Nat} (hj : j < l.length) : prodN ((l.take (j + 1)).map f) = prodN ((l.take j).map f) * f l[j] := by
  rw [take_succ' hj, List.map_append]; exact prodN_snoc
theorem sum_take {α : Type} {f : α → Nat} {l : List α} {j : Nat} (hj : j < l.length) : ((l.take (j + 1)).map f).sum = ((l.take j).map f).sum + f l[j] := by
  rw [take_succ' hj, List.map_append, List.sum_append]; simp
/-- Knots' kids are knots. -/
def KKid (F : List (List (List Nat))) : Prop := ∀ i, ∀ l ∈ F.getD i [], ∀ x ∈ l, x < F.length

theorem rtotal_spec {F : List (List (List Nat))} (sz : KSz F) (kid : KKid F) {i m : Nat} (t : TotK F i m) : i < F.length → ∀ {h : Heap} {kn : List Int}, kn.length = F.length → KnwOk F kn → ∀ {Q : Value → Heap → Prop},
    (∀ kn', kn'.length = F.length → KnwOk F kn' → Q (.tuple #[thV h F.length, natV (capN m)]) (TH h kn')) → acall Try.prog F_homographref28_total [knV F, thV h F.length, natV i] (TH h kn) Q := by
  have hkl := sz.len
  induction t with
  | @mk i f hf ih =>
  intro hi h kn hkn ko Q hq
  have tot : TotK F i ((F.getD i []).map fun l => prodN (l.map f)).sum := .mk f hf
  have hkg : F.getD i [] = F[i] := getD_at hi
  have hwl := sz.ways i hi
  apply W_homographref28_total_ok
  unfold W_homographref28_total
  refine TH.get hkn hi ?_
  repeat' first | ((with_reducible apply s_geq)) | ((with_reducible apply s_br) <;> intro hb <;> try (exfalso; omega))
  · refine TH.get hkn hi ?_
    obtain ⟨n, t1, t2⟩ := ko i (by omega)
    have e := t1.uniq tot
    rw [t2, e]
    exact gcV_same (hq kn hkn ko)
  generalize hS : ((F.getD i []).map fun l => prodN (l.map f)).sum = S at tot hq
  refine ⟨fun m vs H => ∃ (w : Nat) (kn : List Int), vs = [knV F, thV h F.length, natV i, natV (capN ((F[i].take w).map fun l => prodN (l.map f)).sum), natV w] ∧ H = TH h kn ∧ kn.length = F.length ∧ KnwOk F kn ∧ w ≤ F[i].length ∧ m = F[i].length - w, _,
    gcL_same ⟨0, kn, rfl, rfl, hkn, ko, by omega, rfl⟩, ?_⟩
  generalize TH h kn = H0
  rintro m x0 x1 x2 x3 x4 H ⟨w, kn, hv, rfl, hkn, ko, hw, rfl⟩
  replace hv := hv.symm
  simp only [List.cons.injEq, and_true] at hv
  obtain ⟨rfl, rfl, rfl, rfl, rfl⟩ := hv
  repeat' first | ((with_reducible apply s_lss)) | ((with_reducible apply s_br) <;> intro hb <;> try (exfalso; omega)) | ((with_reducible apply s_lenM)) | ((with_reducible refine s_ix (by omega) ?_ ?_); (· rfl)) | ((with_reducible apply s_ld1); (· rfl))
  · have hwk : w < F[i].length := by omega
    have hml : F[i][w] ∈ F.getD i [] := by rw [hkg]; exact List.getElem_mem hwk
    have hkid := kid i _ hml
    have hlw := sz.kids i _ hml
    have hih := ih _ hml
    generalize hn0 : capN ((F[i].take w).map fun l => prodN (l.map f)).sum = n0
    refine ⟨fun m vs H => ∃ (j : Nat) (kn : List Int), vs = [knV F, thV h F.length, natV i, natV n0, natV w, natV (capN (prodN ((F[i][w].take j).map f))), natV j] ∧ H = TH h kn ∧ kn.length = F.length ∧ KnwOk F kn ∧ j ≤ F[i][w].length ∧ m = F[i][w].length - j, _,
      gcL_same ⟨0, kn, rfl, rfl, hkn, ko, by omega, rfl⟩, ?_⟩
    generalize TH h kn = H0
    rintro m x0 x1 x2 x3 x4 x5 x6 H ⟨j, kn, hv, rfl, hkn, ko, hj, rfl⟩
    replace hv := hv.symm
    simp only [List.cons.injEq, and_true] at hv
    obtain ⟨rfl, rfl, rfl, rfl, rfl, rfl, rfl⟩ := hv
    repeat' first | ((with_reducible apply s_lss)) | ((with_reducible apply s_br) <;> intro hb <;> try (exfalso; omega)) | ((with_reducible apply s_lenM)) | ((with_reducible refine s_ix (by omega) ?_ ?_); (· rfl)) | ((with_reducible apply s_ld1); (· rfl)) | ((with_reducible apply s_call))
    · have hjl : j < F[i][w].length := by omega
      refine hih _ (List.getElem_mem hjl) (hkid _ (List.getElem_mem hjl)) hkn ko fun kn' hkn' ko' => ?_
      repeat' first | ((with_reducible apply s_e20)) | ((with_reducible apply s_e21)) | ((with_reducible apply s_call))
      refine refMul_spec capN_le capN_le ?_
      rw [mul_cap]
      repeat' first | ((with_reducible apply s_inc); (· omega))
      refine ⟨_, ?_, gcL_same ⟨j + 1, kn', by rw [prod_take hjl], rfl, hkn', ko', by omega, rfl⟩⟩
      omega
    · have e : j = F[i][w].length := by omega
      subst e
      rw [List.take_length]
      refine refAdd_spec (by rw [← hn0]; exact capN_le) capN_le ?_
      rw [← hn0, add_cap]
      repeat' first | ((with_reducible apply s_inc); (· omega))
      refine ⟨_, ?_, gcL_same ⟨w + 1, kn, by rw [sum_take hwk], rfl, hkn, ko, by omega, rfl⟩⟩
      omega
  · have e : w = F[i].length := by omega
    subst e
    have e2 : ((F[i].take F[i].length).map fun l => prodN (l.map f)).sum = S := by rw [List.take_length, ← hkg]; exact hS
    rw [e2]
    refine TH.set hkn hi ?_
    refine gcV_same (hq _ (by rw [List.length_set]; exact hkn) fun x hx => ?_)
    rw [getD_setI (by omega)] at hx ⊢
    split
    · rename_i q; subst q; exact ⟨S, tot, rfl⟩
    · rename_i q; rw [if_neg q] at hx; exact ko x hx

end Go.Ax

namespace Go.Ax
open Go Go.Proofs Go.RowKit

def MH (h : Heap) (E : List (Int × Value)) : Heap := h ++ [.map (encE E)]
theorem MH.get {h : Heap} {E : List (Int × Value)} : getMap (MH h E) h.length = some (encE E) := by unfold MH; rw [map_app0]; rfl
theorem MH.set {h : Heap} {E E2 : List (Int × Value)} : (MH h E).set h.length (.map (encE E2)) = MH h E2 := by unfold MH; rw [set_app0]; rfl
def KmOk (F : List (List (List Nat))) (E : List (Int × Value)) : Prop := ∀ (x : Nat) v, aget E x = some v → ∃ n, TotK F x n ∧ v = natV (capN n)

theorem ctotal_spec {F : List (List (List Nat))} (sz : KSz F) (kid : KKid F) {i m : Nat} (t : TotK F i m) : i < F.length → ∀ {h : Heap} {E : List (Int × Value)}, KmOk F E → ∀ {Q : Value → Heap → Prop},
    (∀ E', KmOk F E' → Q (natV (capN m)) (MH h E')) → acall Try.prog F_count_knots_total [knV F, natV i, .map (some h.length)] (MH h E) Q := by
  have hkl := sz.len
  induction t with
  | @mk i f hf ih =>
  intro hi h E eo Q hq
  have tot : TotK F i ((F.getD i []).map fun l => prodN (l.map f)).sum := .mk f hf
  have hkg : F.getD i [] = F[i] := getD_at hi
  have hwl := sz.ways i hi
  apply W_count_knots_total_ok
  unfold W_count_knots_total
  rw [lk_int2 MH.get]
  generalize hS : ((F.getD i []).map fun l => prodN (l.map f)).sum = S at tot hq
  repeat' first | ((with_reducible apply s_brB) <;> intro hb <;> try contradiction) | ((with_reducible apply s_lenM)) | ((with_reducible refine s_ix (by omega) ?_ ?_); (· rfl)) | ((with_reducible apply s_ld1); (· rfl)) | ((with_reducible apply s_e20)) | ((with_reducible apply s_e21)) | ((with_reducible apply s_some))
  · obtain ⟨v, hv⟩ := Option.isSome_iff_exists.1 hb
    obtain ⟨n, t1, t2⟩ := eo i v hv
    rw [hv, t2, t1.uniq tot]
    exact gcV_same (hq E eo)
  refine ⟨fun m vs H => ∃ (w : Nat) (E : List (Int × Value)), vs = [knV F, natV i, .map (some h.length), natV (capN ((F[i].take w).map fun l => prodN (l.map f)).sum), wnats F[i], natV F[i].length, natV w] ∧ H = MH h E ∧ KmOk F E ∧ w ≤ F[i].length ∧ m = F[i].length - w, _,
    gcL_same ⟨0, E, rfl, rfl, eo, by omega, rfl⟩, ?_⟩
  generalize MH h E = H0
  rintro m x0 x1 x2 x3 x4 x5 x6 H ⟨w, E, hv, rfl, eo, hw, rfl⟩
  replace hv := hv.symm
  simp only [List.cons.injEq, and_true] at hv
  obtain ⟨rfl, rfl, rfl, rfl, rfl, rfl, rfl⟩ := hv
  repeat' first | ((with_reducible apply s_lss)) | ((with_reducible apply s_br) <;> intro hb <;> try (exfalso; omega)) | ((with_reducible apply s_lenM)) | ((with_reducible refine s_ix (by omega) ?_ ?_); (· rfl)) | ((with_reducible apply s_ld1); (· rfl))
  · have hwk : w < F[i].length := by omega
    have hml : F[i][w] ∈ F.getD i [] := by rw [hkg]; exact List.getElem_mem hwk
    have hkid := kid i _ hml
    have hlw := sz.kids i _ hml
    have hih := ih _ hml
    generalize hn0 : capN ((F[i].take w).map fun l => prodN (l.map f)).sum = n0
    refine ⟨fun m vs H => ∃ (j : Nat) (E : List (Int × Value)), vs = [knV F, natV i, .map (some h.length), natV n0, natV (capN (prodN ((F[i][w].take j).map f))), wnats F[i], natV F[i].length, natV w, nats F[i][w], natV F[i][w].length, natV j] ∧ H = MH h E ∧ KmOk F E ∧ j ≤ F[i][w].length ∧ m = F[i][w].length - j, _,
      gcL_same ⟨0, E, rfl, rfl, eo, by omega, rfl⟩, ?_⟩
    generalize MH h E = H0
    rintro m x0 x1 x2 x3 x4 x5 x6 x7 x8 x9 x10 H ⟨j, E, hv, rfl, eo, hj, rfl⟩
    replace hv := hv.symm
    simp only [List.cons.injEq, and_true] at hv
    obtain ⟨rfl, rfl, rfl, rfl, rfl, rfl, rfl, rfl, rfl, rfl, rfl⟩ := hv
    repeat' first | ((with_reducible apply s_lss)) | ((with_reducible apply s_br) <;> intro hb <;> try (exfalso; omega)) | ((with_reducible refine s_ix (by omega) ?_ ?_); (· rfl)) | ((with_reducible apply s_ld1); (· rfl)) | ((with_reducible apply s_call))
    · have hjl : j < F[i][w].length := by omega
      refine hih _ (List.getElem_mem hjl) (hkid _ (List.getElem_mem hjl)) eo fun E' eo' => ?_
      repeat' first | ((with_reducible apply s_call))
      refine mulC_spec capN_le capN_le ?_
      rw [mul_cap]
      repeat' first | ((with_reducible apply s_inc); (· omega))
      refine ⟨_, ?_, gcL_same ⟨j + 1, E', by rw [prod_take hjl], rfl, eo', by omega, rfl⟩⟩
      omega
    · have e : j = F[i][w].length := by omega
      subst e
      rw [List.take_length]
      refine addC_spec (by rw [← hn0]; exact capN_le) capN_le ?_
      rw [← hn0, add_cap]
      repeat' first | ((with_reducible apply s_inc); (· omega))
      refine ⟨_, ?_, gcL_same ⟨w + 1, E, by rw [sum_take hwk], rfl, eo, by omega, rfl⟩⟩
      omega
  · have e : w = F[i].length := by omega
    subst e
    have e2 : ((F[i].take F[i].length).map fun l => prodN (l.map f)).sum = S := by rw [List.take_length, ← hkg]; exact hS
    rw [e2, up_int MH.get, MH.set]
    refine sW_some.2 (gcV_same (hq _ fun x v hx => ?_))
    rw [aget_aset] at hx
    split at hx
    · rename_i q
      have : x = i := by omega
      subst this
      cases hx; exact ⟨S, tot, rfl⟩
    · exact eo x v hx

end Go.Ax

namespace Go.Ax
open Go Go.Proofs Go.RowKit

theorem clone_spec {l : List Nat} (hl : l.length ≤ 1000000000) {h : Heap} {Q : Value → Heap → Prop} (hq : ∀ v g, Acc 1 h.length (h ++ g) v (l.map natV) → Q v (h ++ g)) : acall Try.prog F_slices_Clone_int_int [nats l] h Q := by
  have mk : ∀ {es : List Nat} {x : Value}, es.length ≤ 1000000000 → srcA (h ++ [.row [] .exact]) 1 x = some ((es.map natV).length, (es.map natV).flatMap cellsOf) → (∀ v g, Acc 1 h.length (h ++ g) v (es.map natV) → Q v (h ++ g)) →
      hW (bslW h 0 [] []) fun v2 h3 => hW (apW 1 8 h3 v2 x) fun v4 h5 => gcV h Q v4 h5 := fun {es x} hel hs hq => by
    refine ⟨.slice (some ⟨h.length, 0, none⟩) 0 0, h ++ [.row [] .exact], rfl, ?_⟩
    have a0 : Acc 1 h.length (h ++ [.row [] .exact]) (.slice (some ⟨h.length, 0, none⟩) 0 0) [] := .inr ⟨h.length, 0, [], .exact, Nat.le_refl _, rfl, row_last, .inr rfl, rfl, Nat.le_refl _, rfl⟩
    refine Acc.more (B := h) (g := [.row [] .exact]) rfl a0 (by omega) (by simp) tNat.lens tNat.oks hs (by simp; omega) (by simp; omega) fun v' g' a' _ _ _ => ?_
    exact gcV_same (hq v' g' (by simpa using a'))
  cases l with
  | nil =>
    refine acall_lit0 (a := []) (b := []) ?_ ?_
    · apply W_slices_Clone_int_int_ok
      unfold W_slices_Clone_int_int
      refine ⟨.bool true, rfl, bW_true.2 (gcV_same ?_)⟩
      have := hq (.slice none 0 0) [] .nil
      rwa [List.append_nil] at this
    · apply W_slices_Clone_int_int_ok
      unfold W_slices_Clone_int_int
      refine ⟨.bool false, rfl, bW_false.2 (mk (es := []) (by simp) rfl hq)⟩
  | cons x l =>
    apply W_slices_Clone_int_int_ok
    unfold W_slices_Clone_int_int
    refine ⟨.bool false, by rw [show nats (x :: l) = lit (natV x :: l.map natV) from rfl, nilS_lit]; rfl, bW_false.2 (mk hl tNat.src hq)⟩

abbrev brow2 (mk : List Bool) : AObj := .row (mk.map .bool) .exact
abbrev bhV (h : Heap) (N : Nat) : Value := .slice (some ⟨h.length, 0, none⟩) N N
theorem bh_get {h g : Heap} {N x : Nat} {mk : List Bool} (hN : mk.length = N) (hx : x < N) {K : Value → Prop} (k : K (.bool (decide (onL mk x)))) : oW (iaS 1 (bhV h N) (natV x)) fun p => oW (ldW false 1 (h ++ [brow2 mk] ++ g) p) K := by
  rw [iaS_slice hx, oW_some]
  have hr : getRow (h ++ [brow2 mk] ++ g) h.length = some (mk.map .bool, .exact) := getRow_app row_last
  refine s_row hr (v := .bool mk[x]) (by rw [Nat.zero_add, Nat.mul_one, List.getElem?_map, List.getElem?_eq_getElem (by omega)]; rfl) ?_
  have : decide (onL mk x) = mk[x] := by
    have hh : onL mk x ↔ mk[x] = true := by unfold onL; rw [getD_at (by omega)]
    cases e : mk[x] with
    | true => exact decide_eq_true (hh.2 e)
    | false => exact decide_eq_false fun q => by rw [hh.1 q] at e; cases e
  rw [this] at k; exact k
theorem bh_set {h g : Heap} {N x : Nat} {mk : List Bool} (hN : mk.length = N) (hx : x < N) {K : Heap → Prop} (k : K (h ++ [brow2 (mk.set x true)] ++ g)) : oW (iaS 1 (bhV h N) (natV x)) fun p => sW (stW 1 (h ++ [brow2 mk] ++ g) p (.bool true)) K := by
  have hr : getRow (h ++ [brow2 mk] ++ g) h.length = some (mk.map .bool, .exact) := getRow_app row_last
  rw [iaS_slice hx, oW_some, st1 hr (by simp) rfl rfl rfl (by simp; omega), sW_some]
  rw [List.append_assoc, set_app0, Nat.zero_add, Nat.mul_one, ← List.map_set]
  rw [List.append_assoc] at k; exact k
/-- Where each one steps. -/
def stepS' (S : List (List Nat)) (a b : Nat) : Prop := b ∈ S.getD a []
def muB (S : List (List Nat)) (mk : List Bool) : Nat := sumN S.length fun x => if onL mk x then 0 else (S.getD x []).length + 1
theorem muB_set {S : List (List Nat)} {mk : List Bool} {x : Nat} (hx : x < S.length) (hm : mk.length = S.length) (hn : ¬ onL mk x) : muB S (mk.set x true) + ((S.getD x []).length + 1) = muB S mk := by
  have key : ∀ n, n ≤ S.length → sumN n (fun y => if onL (mk.set x true) y then 0 else (S.getD y []).length + 1) + (if x < n then (S.getD x []).length + 1 else 0) = sumN n fun y => if onL mk y then 0 else (S.getD y []).length + 1 := by
    intro n
    induction n with
    | zero => intro _; simp [sumN]
    | succ n ih =>
      intro hle
      have ih := ih (by omega)
      rw [sumN_succ, sumN_succ]
      by_cases q : n = x
      · subst q
        rw [if_neg (by omega)] at ih
        rw [if_pos ((onL_set (show n < mk.length by omega)).2 (.inr rfl)), if_neg hn, if_pos (show n < n + 1 by omega)]
        omega
      · have e : (onL (mk.set x true) n) ↔ onL mk n := by rw [onL_set (by omega)]; exact ⟨fun z => z.resolve_right q, .inl⟩
        have e2 : (if onL (mk.set x true) n then 0 else (S.getD n []).length + 1) = if onL mk n then 0 else (S.getD n []).length + 1 := by
          by_cases z : onL mk n
          · rw [if_pos z, if_pos (e.2 z)]
          · rw [if_neg z, if_neg fun w => z (e.1 w)]
        rw [e2]
        have e3 : (if x < n + 1 then (S.getD x []).length + 1 else 0) = if x < n then (S.getD x []).length + 1 else 0 := by
          by_cases z : x < n
          · rw [if_pos z, if_pos (by omega)]
          · rw [if_neg z, if_neg (by omega)]
        rw [e3]; omega
  have := key S.length (Nat.le_refl _)
  rw [if_pos hx] at this
  exact this
theorem muB_le {S : List (List Nat)} {mk : List Bool} {b : Nat} (hb : ∀ x, (S.getD x []).length ≤ b) : muB S mk ≤ S.length * (b + 1) := by
  unfold muB
  have : ∀ n, sumN n (fun x => if onL mk x then 0 else (S.getD x []).length + 1) ≤ n * (b + 1) := by
    intro n
    induction n with
    | zero => simp [sumN]
    | succ n ih =>
      rw [sumN_succ, Nat.succ_mul]
      have := hb n
      split <;> omega
  exact this _

theorem behind_spec {S : List (List Nat)} (hN : S.length ≤ 10000) (hk : ∀ x, ∀ y ∈ S.getD x [], y < S.length) (hbd : ∀ x, (S.getD x []).length ≤ 1000000) {from_ : Nat} (hf : from_ < S.length) {h : Heap} {Q : Value → Heap → Prop}
    (hq : ∀ mk : List Bool, mk.length = S.length → (∀ x, onL mk x ↔ Plus (stepS' S) from_ x) → ∀ v g, Acc 1 h.length (h ++ g) v (mk.map .bool) → Q v (h ++ g)) : acall Try.prog F_count_behind [wnats S, natV from_] h Q := by
  apply W_count_behind_ok
  unfold W_count_behind
  repeat' first | refine s_mks (by omega) (by omega) ?_ | ((with_reducible apply s_lenM)) | ((with_reducible refine s_ix (by omega) ?_ ?_); (· rfl)) | ((with_reducible apply s_ld1); (· rfl)) | ((with_reducible apply s_call))
  have hfb := hbd from_
  have hbr : brow2 (List.replicate S.length false) = AObj.row (List.replicate S.length (Value.bool false)) .exact := by show AObj.row _ _ = _; rw [List.map_replicate]
  have hfg : S.getD from_ [] = S[from_] := getD_at hf
  rw [hfg] at hfb
  refine clone_spec (by omega) fun v g a => ?_
  have hml : ∀ mk, muB S mk ≤ S.length * 1000001 := fun mk => muB_le hbd
  refine ⟨fun m vs H => ∃ (v : Value) (mk : List Bool) (st : List Nat) (g : Heap), vs = [wnats S, bhV h S.length, v] ∧ H = h ++ [brow2 mk] ++ g ∧ Acc 1 (h.length + 1) (h ++ [brow2 mk] ++ g) v (st.map natV) ∧ mk.length = S.length ∧ (∀ x ∈ st, x < S.length) ∧ (∀ x, onL mk x ∨ x ∈ st → Plus (stepS' S) from_ x) ∧
      (∀ x, stepS' S from_ x → onL mk x ∨ x ∈ st) ∧ (∀ x y, onL mk x → stepS' S x y → onL mk y ∨ y ∈ st) ∧ muB S mk + st.length ≤ S.length * 1000001 + 1000000 ∧ m = muB S mk + st.length, _,
    gcL_same ⟨v, List.replicate S.length false, S[from_], g, rfl, by rw [hbr], by rw [hbr]; simpa using a, by simp, fun x hx => hk from_ x (by rw [hfg]; exact hx), fun x hx => hx.elim (fun q => absurd q onL_rep) fun q => .one (by unfold stepS'; rw [hfg]; exact q),
      fun x hx => .inr (by unfold stepS' at hx; rwa [hfg] at hx), fun x y q => absurd q onL_rep, by have := hml (List.replicate S.length false); omega, rfl⟩, ?_⟩
  clear a
  rintro m x0 x1 x2 H ⟨v, mk, st, g, hv, rfl, a, hmk, hst, snd, ini, cl, hmu, rfl⟩
  replace hv := hv.symm
  simp only [List.cons.injEq, and_true] at hv
  obtain ⟨rfl, rfl, rfl⟩ := hv
  repeat' first | ((with_reducible apply s_dec); (· omega); (· omega)) | ((with_reducible apply s_gtr)) | ((with_reducible apply s_br) <;> intro hb <;> try (exfalso; omega)) | ((with_reducible apply s_lenAM); (· assumption))
  rotate_left
  · have e : st = [] := List.length_eq_zero_iff.1 (by omega)
    subst e
    rw [List.append_assoc]
    refine gcV_same (hq mk hmk (fun x => ?_) _ _ (.inr ⟨h.length, S.length, mk.map .bool, .exact, Nat.le_refl _, by simp [hmk], by rw [row_app0]; rfl, .inr rfl, by simp [hmk], by simp [hmk], ?_⟩))
    · refine come_fin (mk := onL mk) (fun x q => snd x (.inl q)) (fun x q => (ini x q).resolve_right (by simp)) (fun x y q r => (cl x y q r).resolve_right (by simp))
    · rw [List.take_of_length_le (by simp), flat_one]
      intro e he; obtain ⟨b, _, rfl⟩ := List.mem_map.1 he; rfl
  have h0 : 0 < st.length := by omega
  refine tNat.at1 (by omega) (fun _ => rfl) a (j := st.length - 1) (by omega) ?_
  have hxs := hst _ (List.getElem_mem (show st.length - 1 < st.length by omega))
  have hsplit : st = st.take (st.length - 1) ++ [st[st.length - 1]] := by
    have := take_succ' (l := st) (i := st.length - 1) (by omega)
    rw [show st.length - 1 + 1 = st.length by omega, List.take_length] at this
    exact this
  generalize hxe : st[st.length - 1] = x at hxs hsplit
  have hmem : ∀ y, y ∈ st ↔ y ∈ st.take (st.length - 1) ∨ y = x := fun y => by
    conv => lhs; rw [hsplit]
    rw [List.mem_append, List.mem_singleton]
  have htl : (st.take (st.length - 1)).length = st.length - 1 := by rw [List.length_take]; omega
  repeat' first | ((with_reducible apply s_dec); (· omega); (· omega)) | ((with_reducible apply s_lenAM); (· assumption))
  refine a.pop (by omega) tNat.lens (k := st.length - 1) (by rw [List.length_map]; omega) fun v' a' hv' => ?_
  rw [← List.map_take] at a'
  generalize st.take (st.length - 1) = st2 at a' hmem htl
  refine bh_get hmk hxs ?_
  repeat' first | ((with_reducible apply s_not)) | ((with_reducible apply s_brB) <;> intro hb <;> try contradiction)
  · have hx : ¬ onL mk x := by simpa using hb
    refine bh_set hmk hxs ?_
    repeat' first | ((with_reducible refine s_ix (by omega) ?_ ?_); (· rfl)) | ((with_reducible apply s_ld1); (· rfl))
    have hgx : S.getD x [] = S[x] := getD_at hxs
    have hmu2 := muB_set hxs hmk hx
    have hbx := hbd x
    rw [hgx] at hmu2 hbx
    have a2 : Acc 1 (h ++ [brow2 (mk.set x true)]).length (h ++ [brow2 (mk.set x true)] ++ g) v' (st2.map natV) := by
      refine (show Acc 1 (h.length + 1) _ _ _ from a'.congr fun j hj => ?_).low (by simp)
      have := a'.ge hj
      rw [List.getElem?_append_right (by simp; omega), List.getElem?_append_right (by simp; omega)]
      simp
    refine tNat.more (by omega) a2 rfl (by omega) (by omega) fun v2 g2 a3 _ _ _ => ?_
    refine ⟨_, ?_, gcL_same ⟨v2, mk.set x true, st2 ++ S[x], g2, rfl, rfl, by simpa using a3, by rw [List.length_set]; exact hmk, fun y hy => ?_, fun y hy => ?_, fun y hy => ?_, fun y z hy hz => ?_, by rw [List.length_append]; omega, rfl⟩⟩
    · rw [List.length_append]; omega
    · rcases List.mem_append.1 hy with q | q
      · exact hst y ((hmem y).2 (.inl q))
      · exact hk x y (by rw [hgx]; exact q)
    · rw [onL_set (by omega)] at hy
      rcases hy with (q | q) | q
      · exact snd y (.inl q)
      · subst q; exact snd y (.inr ((hmem y).2 (.inr rfl)))
      · rcases List.mem_append.1 q with q | q
        · exact snd y (.inr ((hmem y).2 (.inl q)))
        · exact (snd x (.inr ((hmem x).2 (.inr rfl)))).snoc (by unfold stepS'; rw [hgx]; exact q)
    · rw [onL_set (by omega), List.mem_append]
      rcases ini y hy with q | q
      · exact .inl (.inl q)
      · rcases (hmem y).1 q with q | q
        · exact .inr (.inl q)
        · exact .inl (.inr q)
    · rw [onL_set (by omega)] at hy ⊢
      rw [List.mem_append]
      rcases hy with q | q
      · rcases cl y z q hz with q | q
        · exact .inl (.inl q)
        · rcases (hmem z).1 q with q | q
          · exact .inr (.inl q)
          · exact .inl (.inr q)
      · subst q
        exact .inr (.inr (by unfold stepS' at hz; rwa [hgx] at hz))
  · have hx : onL mk x := by simpa using hb
    refine ⟨_, ?_, gcL_same ⟨v', mk, st2, g, rfl, rfl, a', hmk, fun y hy => hst y ((hmem y).2 (.inl hy)), fun y hy => snd y (hy.imp id fun q => (hmem y).2 (.inl q)), fun y hy => ?_, fun y z hy hz => ?_, by omega, rfl⟩⟩
    · omega
    · rcases ini y hy with q | q
      · exact .inl q
      · rcases (hmem y).1 q with q | q
        · exact .inr q
        · subst q; exact .inl hx
    · rcases cl y z hy hz with q | q
      · exact .inl q
      · rcases (hmem z).1 q with q | q
        · exact .inr q
        · subst q; exact .inl hx

end Go.Ax
