/- SetsMore: the walk. -/
import Derived.Test.YthhknneomcleoaaI3
namespace Go.Ax
open Go Go.Proofs Go.RowKit

theorem GAt.at1 {H : Heap} {p : Nat} {g : Gr} (a : GAt H p g) : ldW false 1 H (.pointer (some ⟨p, 0 + 1, none⟩)) = some (.int .i64 g.terms) := by
  obtain ⟨m, e⟩ := a; rw [ldW_one, e]; rfl
theorem GAt.at00 {H : Heap} {p : Nat} {g : Gr} (a : GAt H p g) : ldW false 1 H (.pointer (some ⟨p, 0 + 0, none⟩)) = some (lit (g.names.map .string)) := by
  obtain ⟨m, e⟩ := a; rw [ldW_one, e]; rfl
theorem GAt.eq {H H' : Heap} {p : Nat} {g : Gr} (a : GAt H p g) (e : H'[p]? = H[p]?) : GAt H' p g := by
  obtain ⟨m, h⟩ := a; exact ⟨m, by rw [getRow_same e]; exact h⟩
theorem bs3b {H : Heap} {a b c : List Bool} : bslW H 3 [(.slice none 0 0), (.slice none 0 0), (.slice none 0 0)] [(0, 1, bools a), (1, 1, bools b), (2, 1, bools c)] = some (.slice (some ⟨H.length, 0, none⟩) 3 3, H ++ [.row [bools a, bools b, bools c] .exact]) := by
  simp [bslW, okVal, cellsOf]
theorem ixKb {l : List Nat} {n : Nat} {h : Heap} {K : Value → Value → Prop} (hn : n < l.length) (k : K (plit [byte l[n]]) (byte l[n])) : oW (iaS 1 (lit (l.map byte)) (.int .i64 (n : Int))) fun v => oW (ldW false 1 h v) fun w => K v w :=
  ⟨plit [byte l[n]], iaS_lit (e := byte l[n]) (by omega) (by simp [hn]) rfl, _, ld_plit1, k⟩
/-- The row of the new rule. -/
def moreRow (n left : Nat) (right : List Nat) : List Int := ((2 + left % (n - 2) : Nat) : Int) :: right.map fun b => ((b % n : Nat) : Int)
def MoI (p a : Nat) (n left : Nat) (right : List Nat) (B : Heap) (k : Nat) (vs : List Value) (H : Heap) : Prop :=
  ∃ (i : Nat) (v : Value) (t : Heap), vs = [lit (right.map byte), .pointer (some ⟨a, 0, none⟩), .pointer (some ⟨p, 0, none⟩), v, .int .i64 (i : Int)] ∧ H = B ++ t ∧ k = right.length - i ∧ i ≤ right.length ∧ Acc 1 B.length H v ((moreRow n left (right.take i)).map fun x => .int .i64 x)
noncomputable def sets3 (g : Gr) (k : Nat) : List Bool := if k = 0 then g.nullL else if k = 1 then g.prodL else g.reachL
theorem sets3_len {g : Gr} {k : Nat} : (sets3 g k).length = g.n := by
  unfold sets3 Gr.nullL Gr.prodL Gr.reachL
  split
  · simp
  · split <;> simp
theorem sets3_at {g : Gr} {k : Nat} (hk : k < 3) : [bools g.nullL, bools g.prodL, bools g.reachL][k]? = some (bools (sets3 g k)) := by
  match k, hk with
  | 0, _ => rfl
  | 1, _ => rfl
  | 2, _ => rfl
theorem sets3_mono {g : Gr} {r : List Int} {k i : Nat} (h : onL (sets3 g k) i) : onL (sets3 (g.more r) k) i := by
  unfold sets3 Gr.nullL Gr.prodL Gr.reachL at *
  split
  · rename_i e; rw [if_pos e] at h; exact setL_mono (fun _ => more_null) h
  · rename_i e; rw [if_neg e] at h
    split
    · rename_i e; rw [if_pos e] at h; exact setL_mono (fun _ => more_prod) h
    · rename_i e; rw [if_neg e] at h; exact setL_mono (fun _ => more_reach) h

theorem setsMore_walk {code : ByteArray} {left : Nat} {right : List Nat} (hcs : code.size ≤ 1000000000000000) (hleft : left < 256) (hright : ∀ b ∈ right, b < 256) (hrl : right.length ≤ 9223372036854775807) {h : Heap} :
    acall Try.prog F_homographlaw17_SetsMore [.string code, byte left, lit (right.map byte)] h fun v _ => v = .bool true := by
  classical
  apply W_homographlaw17_SetsMore_ok
  unfold W_homographlaw17_SetsMore
  refine callW_plain.2 (awake17_spec ?_)
  rw [u_not, oW_some, bW_bool]
  refine ⟨(fun q => by cases q), fun _ => ?_⟩
  refine ⟨fun vs H => vs = [.string code, byte left, lit (right.map byte)] ∧ H = h ∧ code.size ≤ 60 ∧ right.length ≤ 4, ?_, ?_⟩
  · rw [lenStr_str, oW_some, n_gtr, oW_some, bW_dec]
    constructor
    · intro _
      rw [bW_true]
      exact gcV_same rfl
    intro hc
    rw [lenS_lit, oW_some, n_gtr, oW_some, bW_dec, List.length_map]
    constructor
    · intro _
      exact gcV_same rfl
    intro hl
    exact gcL_same ⟨rfl, rfl, by omega, by omega⟩
  rintro x9 x10 x11 h12 ⟨hv, rfl, hc, hl⟩
  simp only [List.cons.injEq, and_true] at hv
  obtain ⟨rfl, rfl, rfl⟩ := hv
  have ok := mkG_ok (bs := bytesN code)
  have hn5 := mkG_n5 (bs := bytesN code)
  have hnn := mkG_n (bs := bytesN code)
  have hrules := mkG_rules (bs := bytesN code)
  have hm : mkN (bytesN code) = mkCnt (bytesN code) 0 := rfl
  have hm3 := mkCnt_le (bs := bytesN code) (a := 0)
  have e1 : (mkG (bytesN code)).names = names5.take (2 + mkN (bytesN code)) := rfl
  have e2 : (mkG (bytesN code)).terms = 2 := rfl
  have e3 : (mkG (bytesN code)).tokens = [0, 1] := rfl
  have e4 : (mkG (bytesN code)).start = 2 := rfl
  have fin := ok.fin
  refine callW_plain.2 (made17_spec (by omega) ?_)
  rw [letH_eq]
  refine boxG ?_
  refine callW_plain.2 (made17_raw (by omega) fun q T rv vals hq mad => ?_)
  generalize mkG (bytesN code) = g at *
  generalize mkN (bytesN code) = mn at *
  rw [List.length_append, List.length_singleton] at hq
  -- the box of the second grammar
  rw [letH_eq]
  generalize hH2 : h12 ++ [grow g] ++ T = H2 at *
  have hsl : ∃ a l c, rv = .slice a l c := by
    rcases mad.rows.acc with ⟨e, _⟩ | ⟨_, _, _, _, _, e, _⟩ <;> exact ⟨_, _, _, e⟩
  have c3 : okCell rv = true := (acc_cell mad.rows.acc).2.2
  have st5 : stW 5 (H2 ++ [.row [(.slice none 0 0), (.int .i64 0), (.slice none 0 0), (.slice none 0 0), (.int .i64 0)] .exact]) (.pointer (some ⟨H2.length, 0, none⟩)) (.agg (mkC q mn rv).toArray) = some (H2 ++ [.row (mkC q mn rv) .exact]) := by
    rw [stW_agg, row_app0]
    show (some (_, Md.exact)).bind _ = _
    rw [Option.bind_some, if_pos (by simp [okCell]; exact c3), set_app0]; rfl
  rw [st5, sW_some]
  have hql : q + 2 < H2.length := (List.getElem?_eq_some_iff.1 mad.nam).1
  have hal : h12.length < H2.length := by omega
  generalize hB : H2 ++ [AObj.row (mkC q mn rv) .exact] = B
  have hBl : B.length = H2.length + 1 := by rw [← hB]; simp
  have gB : GAt B h12.length g := by rw [← hB, ← hH2]; exact GAt.box.app.app
  have pB : getRow B H2.length = some (mkC q mn rv, .exact) := by rw [← hB, row_app0]; rfl
  have mB : MadeAt q B rv vals g.rules := by
    rw [← hB]
    exact ⟨by rw [List.getElem?_append_left (by omega)]; exact mad.tok, by rw [List.getElem?_append_left hql]; exact mad.nam, mad.rows.app⟩
  have ltp : ∀ {j}, (lies rv j ∨ ∃ x ∈ vals, lies x j) → j < H2.length := fun hj => mad.rows.lt hj
  have geq : ∀ {j}, (lies rv j ∨ ∃ x ∈ vals, lies x j) → q + 4 ≤ j := fun hj => mad.rows.ge hj
  rw [fa_ptr, oW_some, gB.at1, oW_some, fa_ptr, oW_some, gB.at00, oW_some, lenN, oW_some, oW_some, gB.at1, oW_some, e2]
  show oW (binN .sub (.int .i64 (g.n : Int)) (.int .i64 2)) _
  rw [n_sub (by omega), oW_some, cvb hleft, oW_some, show (g.n : Int) - 2 = ((g.n - 2 : Nat) : Int) by omega]
  refine ⟨kept_same, ?_⟩
  have hlm : left % (g.n - 2) < g.n - 2 := Nat.mod_lt _ (by omega)
  rw [remN (by omega), oW_some, n_add (by omega), oW_some, bs1i, hW_some]
  refine ⟨kept_app fun w hw r e => ?_, ?_⟩
  · simp only [List.mem_cons, List.not_mem_nil, or_false] at hw
    rcases hw with rfl | rfl | rfl | rfl <;> simp [ptrId] at e <;> omega
  refine ⟨MoI H2.length h12.length g.n left right B, right.length, gcL_same ⟨0, _, _, rfl, rfl, rfl, by omega, ?_⟩, ?_⟩
  · have := Acc.made (sz := 1) (n := B.length) (H := B) (l := (moreRow g.n left (right.take 0)).map fun x => .int .i64 x) int_len (Nat.le_refl _)
    simpa [moreRow, cellsOf] using this
  rintro k37 x38 x39 x40 x41 x42 h43 ⟨i, v, t, hv, rfl, hk, hi, acc⟩
  simp only [List.cons.injEq, and_true] at hv
  obtain ⟨rfl, rfl, rfl, rfl, rfl⟩ := hv
  rw [lenS_lit, oW_some, n_lss, oW_some, bW_dec, List.length_map]
  constructor
  · intro hlt
    have hi' : i < right.length := by omega
    have hbi := hright _ (List.getElem_mem hi')
    refine ixKb hi' ?_
    have ga : GAt (B ++ t) h12.length g := gB.app
    rw [fa_ptr, oW_some, ga.at00, oW_some, lenN, oW_some, cvb hbi, oW_some]
    refine ⟨kept_same, ?_⟩
    show oW (binN .rem _ (.int .i64 (g.n : Int))) _
    rw [remN (by omega), oW_some]
    refine Acc.pushKept rfl acc ?_ (fun w hw r e => ?_) fun v' t' a2 => ?_
    · simp [moreRow]; omega
    · simp only [List.mem_cons, List.not_mem_nil, or_false] at hw
      rcases hw with rfl | rfl | rfl <;> simp [ptrId] at e <;> omega
    rw [n_add (by omega), oW_some]
    refine ⟨right.length - (i + 1), by omega, gcL_same ⟨i + 1, v', t', rfl, rfl, rfl, by omega, ?_⟩⟩
    have : moreRow g.n left (right.take (i + 1)) = moreRow g.n left (right.take i) ++ [((right[i] % g.n : Nat) : Int)] := by
      unfold moreRow
      rw [List.take_add_one, List.getElem?_eq_getElem hi', List.map_append]; rfl
    rw [this]; exact a2
  intro hge
  rw [List.take_of_length_le (by omega)] at acc
  -- the rule is put to the others
  have pX : getRow (B ++ t) H2.length = some (mkC q mn rv, .exact) := getRow_app pB
  rw [fa_ptr, oW_some, ldW_one, pX]
  show oW (some rv) _
  rw [oW_some]
  generalize hrow : moreRow g.n left right = row at acc
  have l1 : (h12 ++ [grow g]).length = h12.length + 1 := by simp
  have eX : B ++ t = (h12 ++ [grow g]) ++ (T ++ ([AObj.row (mkC q mn rv) .exact] ++ t)) := by rw [← hB, ← hH2]; simp
  have rX : RowsAt (h12.length + 1) (B ++ t) rv vals g.rules := mB.rows.app.low (by omega)
  have aX : Acc 1 (h12.length + 1) (B ++ t) x41 (row.map fun x => .int .i64 x) := acc.low (by omega)
  have tX : (B ++ t)[q + 1]? = some (.row [.int .i64 0, .int .i64 1] .exact) := by rw [List.getElem?_append_left (by omega)]; exact mB.tok
  have nX : (B ++ t)[q + 2]? = some (.row (names5.map .string) .exact) := by rw [List.getElem?_append_left (by omega)]; exact mB.nam
  have xl : (B ++ t).length = B.length + t.length := List.length_append
  have vge : ∀ {j}, lies x41 j → B.length ≤ j := fun hj => acc.ge hj
  clear acc
  generalize hX : B ++ t = X at *
  rw [eX]
  rw [eX] at rX aX tX nX pX xl
  clear hX
  refine RowsAt.push2 l1 rX aX (fun j h1 h2 => by have := vge h1; have := ltp (.inl h2); omega) (by omega) fun v' G' r2 q1 q2 => ?_
  rw [← eX] at q1 q2 xl tX nX pX
  have same : ∀ j, j < X.length → ¬ lies rv j → ((h12 ++ [grow g]) ++ G')[j]? = X[j]? := q1
  have pY : getRow ((h12 ++ [grow g]) ++ G') H2.length = some (mkC q mn rv, .exact) := by
    rw [getRow_same (same _ (by omega) fun z => by have := ltp (.inl z); omega)]; exact pX
  rw [oW_some]
  obtain ⟨d1, d2, d3⟩ := acc_cell r2.acc
  rw [st1 pY (by simp) d1 d2 d3 (by simp), sW_some]
  generalize hF : ((h12 ++ [grow g]) ++ G').set H2.length _ = F
  have hF' : F = ((h12 ++ [grow g]) ++ G').set H2.length (.row (mkC q mn v') .exact) := hF.symm
  have offp : ∀ j, j ≠ H2.length → F[j]? = ((h12 ++ [grow g]) ++ G')[j]? := fun j hj => by rw [hF', List.getElem?_set_ne (Ne.symm hj)]
  have np : ∀ j, (lies v' j ∨ ∃ x ∈ vals ++ [x41], lies x j) → j ≠ H2.length := fun j hj => by
    rcases hj with z | ⟨x, hx, z⟩
    · rcases q2 j z with w | w
      · have := ltp (.inl w); omega
      · omega
    · rcases List.mem_append.1 hx with w | w
      · have := ltp (.inr ⟨x, w, z⟩); omega
      · simp only [List.mem_singleton] at w
        subst w
        have := vge z; omega
  have r3 : RowsAt (h12.length + 1) F v' (vals ++ [x41]) (g.more row).rules := r2.congr fun j hj => offp j (np j hj)
  have tF : F[q + 1]? = some (.row [.int .i64 0, .int .i64 1] .exact) := by
    rw [offp _ (by omega), same _ (by omega) fun z => by have := geq (.inl z); omega]; exact tX
  have nF : F[q + 2]? = some (.row (names5.map .string) .exact) := by
    rw [offp _ (by omega), same _ (by omega) fun z => by have := geq (.inl z); omega]; exact nX
  have pF : getRow F H2.length = some (mkC q mn v', .exact) := by
    have hlt := getRow_lt pY
    unfold getRow; rw [hF', List.getElem?_set_self hlt]
  have gF : GAt F h12.length g := by
    refine GAt.eq (H := (h12 ++ [grow g]) ++ G') GAt.box.app (offp _ (by omega))
  have fits : g.fits row := by
    rw [← hrow]
    refine ⟨by simp [moreRow], by simp [moreRow]; omega, ?_, fun x hx => ?_⟩
    · show g.made ((2 + left % (g.n - 2) : Nat) : Int)
      unfold Gr.made inR
      rw [e2]; omega
    · have : x ∈ right.map fun b => ((b % g.n : Nat) : Int) := hx
      obtain ⟨b, _, rfl⟩ := List.mem_map.1 this
      have : b % g.n < g.n := Nat.mod_lt _ (by omega)
      unfold inR; omega
  have ok2 : (g.more row).ok := more_ok ok fits (by omega)
  have fin2 := ok2.fin
  have gw : GrW (h12.length + 1) H2.length F (.agg (mkC q mn v').toArray) (g.more row) := gr_of tF nF r3 e1 e2 e3 e4 (by omega) (by omega) hql np
  have hpF : H2.length < F.length := getRow_lt pF
  rw [gF.ld, oW_some, oW_some, oW_some]
  refine callW_plain.2 (nullable_spec fin ⟨kept_same, callW_plain.2 (productive_spec fin ⟨kept_same, callW_plain.2 (reached_spec fin ⟨kept_same, ?_⟩)⟩)⟩)
  rw [Gr.res_ok ok, Gr.res_ok ok, Gr.res_ok ok, bs3b, hW_some]
  refine ⟨kept_app fun w hw r e => ?_, ?_⟩
  · simp only [List.mem_cons, List.not_mem_nil, or_false] at hw
    rcases hw with rfl | rfl | rfl <;> simp [ptrId] at e <;> omega
  have rE : getRow (F ++ [AObj.row [bools g.nullL, bools g.prodL, bools g.reachL] .exact]) F.length = some ([bools g.nullL, bools g.prodL, bools g.reachL], .exact) := by rw [row_app0]; rfl
  have pE : getRow (F ++ [AObj.row [bools g.nullL, bools g.prodL, bools g.reachL] .exact]) H2.length = some (mkC q mn v', .exact) := getRow_app pF
  have gE : GAt (F ++ [AObj.row [bools g.nullL, bools g.prodL, bools g.reachL] .exact]) h12.length g := gF.app
  have gwE := gw.same (H' := F ++ [AObj.row [bools g.nullL, bools g.prodL, bools g.reachL] .exact]) SameC.app
  have lE : (F ++ [AObj.row [bools g.nullL, bools g.prodL, bools g.reachL] .exact]).length = F.length + 1 := by simp
  generalize F ++ [AObj.row [bools g.nullL, bools g.prodL, bools g.reachL] .exact] = E at *
  have ldp : ∀ (A : Heap) (m : Md), getRow A H2.length = some (mkC q mn v', m) → ldW true 5 A (.pointer (some ⟨H2.length, 0, none⟩)) = some (.agg (mkC q mn v').toArray) := fun A m e => by
    rw [ldW_agg, e]; rfl
  rw [ldp E _ pE, oW_some, oW_some, oW_some]
  have keepP : ∀ (A : Heap) (vs : List Value), (∀ w ∈ vs, w = .pointer (some ⟨H2.length, 0, none⟩) ∨ w = .pointer (some ⟨h12.length, 0, none⟩)) → keptW vs A (roB (h12.length + 1) H2.length A) := fun A vs hvs w hw r e => by
    rcases hvs w hw with rfl | rfl <;> simp [ptrId] at e <;> subst e
    · exact roB_low (.inr rfl)
    · exact roB_low (.inl (by omega))
  refine gwE.call (nullable_spec fin2 ⟨keepP _ _ (by simp), (gwE.same roB_same).call (productive_spec fin2 ⟨keepP _ _ (by simp), ((gwE.same roB_same).same roB_same).call (reached_spec fin2 ⟨keepP _ _ (by simp), ?_⟩)⟩)⟩)
  generalize hE3 : roB (h12.length + 1) H2.length (roB (h12.length + 1) H2.length (roB (h12.length + 1) H2.length E)) = E3
  have s3 : SameC E E3 := by rw [← hE3]; exact (roB_same.trans roB_same).trans roB_same
  have low3 : ∀ j, (j < h12.length + 1 ∨ j = H2.length) → E3[j]? = E[j]? := fun j hj => by rw [← hE3, roB_low hj, roB_low hj, roB_low hj]
  have l3 : E3.length = E.length := by rw [← hE3, roB_len, roB_len, roB_len]
  clear hE3
  rw [Gr.res_ok ok2, Gr.res_ok ok2, Gr.res_ok ok2, bs3b, hW_some]
  refine ⟨kept_app fun w hw r e => ?_, ?_⟩
  · simp only [List.mem_cons, List.not_mem_nil, or_false] at hw
    rcases hw with rfl | rfl | rfl <;> simp [ptrId] at e <;> omega
  obtain ⟨m3, r3e⟩ := s3 _ _ _ (getRow_eq rE)
  have a3 : getRow (E3 ++ [AObj.row [bools (g.more row).nullL, bools (g.more row).prodL, bools (g.more row).reachL] .exact]) F.length = some ([bools g.nullL, bools g.prodL, bools g.reachL], m3) := by
    refine getRow_app ?_
    unfold getRow; rw [r3e]
  have b3 : getRow (E3 ++ [AObj.row [bools (g.more row).nullL, bools (g.more row).prodL, bools (g.more row).reachL] .exact]) E3.length = some ([bools (g.more row).nullL, bools (g.more row).prodL, bools (g.more row).reachL], .exact) := by rw [row_app0]; rfl
  have p3 : getRow (E3 ++ [AObj.row [bools (g.more row).nullL, bools (g.more row).prodL, bools (g.more row).reachL] .exact]) H2.length = some (mkC q mn v', .exact) := getRow_app (by rw [getRow_same (low3 _ (.inr rfl))]; exact pE)
  have g3 : GAt (E3 ++ [AObj.row [bools (g.more row).nullL, bools (g.more row).prodL, bools (g.more row).reachL] .exact]) h12.length g := (gE.eq (low3 _ (.inl (by omega)))).app
  have gw3 := (gwE.same s3).same (H' := E3 ++ [AObj.row [bools (g.more row).nullL, bools (g.more row).prodL, bools (g.more row).reachL] .exact]) SameC.app
  generalize E3 ++ [AObj.row [bools (g.more row).nullL, bools (g.more row).prodL, bools (g.more row).reachL] .exact] = D at *
  generalize E3.length = dl at *
  generalize F.length = fl at *
  refine ⟨fun m vs A => ∃ k : Nat, vs = [.pointer (some ⟨h12.length, 0, none⟩), .pointer (some ⟨H2.length, 0, none⟩), .slice (some ⟨fl, 0, none⟩) 3 3, .slice (some ⟨dl, 0, none⟩) 3 3, .int .i64 (k : Int)] ∧ A = D ∧ m = 3 - k ∧ k ≤ 3, 3, gcL_same ⟨0, rfl, rfl, by omega, by omega⟩, ?_⟩
  rintro k91 x92 x93 x94 x95 x96 h97 ⟨k, hv, rfl, hk2, hk3⟩
  simp only [List.cons.injEq, and_true] at hv
  obtain ⟨rfl, rfl, rfl, rfl, rfl⟩ := hv
  rw [n_lss, oW_some, bW_dec]
  constructor
  · intro hlt
    have hk' : k < 3 := by omega
    refine ⟨fun m vs A => ∃ i : Nat, vs = [.pointer (some ⟨h12.length, 0, none⟩), .pointer (some ⟨H2.length, 0, none⟩), .slice (some ⟨fl, 0, none⟩) 3 3, .slice (some ⟨dl, 0, none⟩) 3 3, .int .i64 (k : Int), .int .i64 (i : Int)] ∧ A = h97 ∧ m = g.n - i ∧ i ≤ g.n, g.n, gcL_same ⟨0, rfl, rfl, by omega, by omega⟩, ?_⟩
    rintro k102 x103 x104 x105 x106 x107 x108 h109 ⟨i, hv, rfl, hk4, hi4⟩
    simp only [List.cons.injEq, and_true] at hv
    obtain ⟨rfl, rfl, rfl, rfl, rfl, rfl⟩ := hv
    refine g3.names ?_
    rw [lenN, oW_some, n_lss, oW_some, bW_dec]
    constructor
    · intro hlt2
      have hi5 : i < g.n := by unfold Gr.n; omega
      have hin : inR g.n (i : Int) := by unfold inR; omega
      have hin2 : inR (g.more row).n (i : Int) := hin
      refine ix_row a3 hk' (sets3_at hk') (ix_bool sets3_len hin ?_)
      have next : ∃ m101, m101 < k102 ∧ gcL h12 ((fun m vs A => ∃ i : Nat, vs = [.pointer (some ⟨h12.length, 0, none⟩), .pointer (some ⟨H2.length, 0, none⟩), .slice (some ⟨fl, 0, none⟩) 3 3, .slice (some ⟨dl, 0, none⟩) 3 3, .int .i64 (k : Int), .int .i64 (i : Int)] ∧ A = h109 ∧ m = g.n - i ∧ i ≤ g.n) m101) [.pointer (some ⟨h12.length, 0, none⟩), .pointer (some ⟨H2.length, 0, none⟩), .slice (some ⟨fl, 0, none⟩) 3 3, .slice (some ⟨dl, 0, none⟩) 3 3, .int .i64 (k : Int), .int .i64 ((i : Int) + 1)] h109 :=
        ⟨g.n - (i + 1), by omega, gcL_same ⟨i + 1, rfl, rfl, rfl, by omega⟩⟩
      rw [bW_dec]
      constructor
      · intro hon
        refine ix_row b3 hk' (sets3_at hk') (ix_bool sets3_len hin2 ?_)
        rw [decide_eq_true (sets3_mono hon), u_not, oW_some, bW_bool]
        refine ⟨(fun q => by cases q), fun _ => ?_⟩
        rw [n_add (by omega), oW_some]
        exact next
      · intro _
        rw [bW_false, n_add (by omega), oW_some]
        exact next
    · intro _
      rw [n_add (by omega), oW_some]
      exact ⟨3 - (k + 1), by omega, gcL_same ⟨k + 1, rfl, rfl, rfl, by omega⟩⟩
  intro _
  have two : ∀ w ∈ [Value.pointer (some ⟨H2.length, 0, none⟩), .pointer (some ⟨h12.length, 0, none⟩)], w = .pointer (some ⟨H2.length, 0, none⟩) ∨ w = .pointer (some ⟨h12.length, 0, none⟩) := fun w hw => by
    simp only [List.mem_cons, List.not_mem_nil, or_false] at hw; exact hw
  have four : ∀ w ∈ [Value.pointer (some ⟨H2.length, 0, none⟩), .pointer (some ⟨h12.length, 0, none⟩), .pointer (some ⟨H2.length, 0, none⟩), .pointer (some ⟨h12.length, 0, none⟩)], w = .pointer (some ⟨H2.length, 0, none⟩) ∨ w = .pointer (some ⟨h12.length, 0, none⟩) := fun w hw => by
    simp only [List.mem_cons, List.not_mem_nil, or_false] at hw
    rcases hw with q | q | q | q <;> simp [q]
  have n2 : (g.more row).n = g.n := rfl
  rw [g3.ld, oW_some, ldp _ _ p3, oW_some]
  refine callW_plain.2 (first_spec fin ⟨kept_same, gw3.call (first_spec fin2 ⟨keepP _ _ two, ?_⟩)⟩)
  rw [Gr.resF_ok ok, Gr.resF_ok ok2]
  refine callW_plain.2 (within_spec (by rw [firstL_num, firstL_num]; rfl) (fun i p q x hx => ?_) (firstL_len (by omega)) (firstL_row (by omega)) (firstL_row (by omega)) ⟨kept_same, ?_⟩)
  · rw [firstL_at] at hx ⊢
    exact riseL_mono (fun _ => more_first) hx
  have g4 : GAt (roB (h12.length + 1) H2.length h97) h12.length g := g3.eq (roB_low (.inl (by omega)))
  have p4 : getRow (roB (h12.length + 1) H2.length h97) H2.length = some (mkC q mn v', .exact) := by rw [getRow_same (roB_low (.inr rfl))]; exact p3
  have gw4 := gw3.same (roB_same (n0 := h12.length + 1) (p := H2.length))
  rw [bW_true, g4.ld, oW_some, ldp _ _ p4, oW_some]
  refine callW_plain.2 (follow_spec17 fin ⟨kept_same, gw4.call (follow_spec17 fin2 ⟨keepP _ _ four, ?_⟩)⟩)
  rw [Gr.resF_ok ok, Gr.resF_ok ok2]
  refine callW_plain.2 (within_spec (by rw [followL_num, followL_num]; rfl) (fun i p q x hx => ?_) (followL_len (by omega)) (followL_row (by omega)) (followL_row (by omega)) ⟨kept_same, gcV_same rfl⟩)
  rw [followL_at] at hx ⊢
  exact riseL_mono (fun _ => more_follow) hx

end Go.Ax
