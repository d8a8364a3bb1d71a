/- Specs: the law's example. -/
import Derived.Test.YthhknneomcleoaaS17
namespace Go.Ax
open Go Go.Proofs Go.RowKit

/-- Where one may be by nothing, found step by step. -/
def stepN (eps : List (Int × Int)) : Nat → List Int → List Int
  | 0, s => s
  | k + 1, s => stepN eps k (s ++ (eps.filter fun p => decide (p.1 ∈ s)).map (·.2))
theorem stepN_reach {eps : List (Int × Int)} {S : Int → Prop} : ∀ {k : Nat} {s : List Int}, (∀ x ∈ s, EReach eps S x) → ∀ x ∈ stepN eps k s, EReach eps S x
  | 0, s, h, x, hx => h x hx
  | k + 1, s, h, x, hx => by
    refine stepN_reach (k := k) (fun y hy => ?_) x hx
    rcases List.mem_append.1 hy with q | q
    · exact h y q
    · obtain ⟨p, hp, rfl⟩ := List.mem_map.1 q
      obtain ⟨h1, h2⟩ := List.mem_filter.1 hp
      exact .step (h p.1 (by simpa using h2)) h1
def cloOk (m : Mch) (l c : List Int) : Bool :=
  decide (c.Pairwise (· < ·)) && c.all (fun x => decide (inR m.count x)) && l.all (fun x => !decide (inR m.count x) || decide (x ∈ c)) && m.eps.all (fun p => !decide (p.1 ∈ c) || decide (p.2 ∈ c)) &&
    c.all (fun x => decide (x ∈ stepN m.eps 8 (l.filter fun x => decide (inR m.count x))))
theorem clo_of {m : Mch} {l c : List Int} (h : cloOk m l c = true) : m.clo l = c := by
  simp only [cloOk, Bool.and_eq_true, List.all_eq_true, decide_eq_true_eq, Bool.or_eq_true, Bool.not_eq_true', decide_eq_false_iff_not] at h
  obtain ⟨⟨⟨⟨h1, h2⟩, h3⟩, h4⟩, h5⟩ := h
  refine rising_eq (m.clo_sorted l) h1 fun x => ?_
  rw [Mch.mem_clo]
  constructor
  · rintro ⟨hr, h⟩
    clear hr
    induction h with
    | base q => exact (h3 _ q.1).resolve_left fun r => r q.2
    | step _ e ih => exact (h4 _ e).resolve_left fun r => r ih
  · intro hx
    refine ⟨h2 x hx, stepN_reach (fun y hy => ?_) x (h5 x hx)⟩
    rw [List.mem_filter, decide_eq_true_eq] at hy
    exact .base hy

abbrev awN : Nd := .mk 3 BS.none 1 (-1) [litN [97, 98]]
def awM : Mch := ⟨14, [(2, 4), (5, 6), (7, 3), (0, 2), (8, 10), (11, 12), (13, 9), (3, 8), (9, 8), (9, 1), (3, 1)], [(4, 5, BS.none.with_ 97), (6, 7, BS.none.with_ 98), (10, 11, BS.none.with_ 97), (12, 13, BS.none.with_ 98)], 0, 1⟩
theorem awM_eq : awN.mach = awM := by rfl
theorem aw1 : awM.clo [0] = [0, 2, 4] := clo_of (by decide +kernel)
theorem awT1 : awM.to [0, 2, 4] 97 = [5] := by decide +kernel
theorem aw2 : awM.step [0, 2, 4] 97 = [5, 6] := by rw [Mch.step, awT1]; exact clo_of (by decide +kernel)
theorem awT2 : awM.to [5, 6] 98 = [7] := by decide +kernel
theorem aw3 : awM.step [5, 6] 98 = [1, 3, 7, 8, 10] := by rw [Mch.step, awT2]; exact clo_of (by decide +kernel)
theorem awT3 : awM.to [1, 3, 7, 8, 10] 97 = [11] := by decide +kernel
theorem aw4 : awM.step [1, 3, 7, 8, 10] 97 = [11, 12] := by rw [Mch.step, awT3]; exact clo_of (by decide +kernel)
theorem awT4 : awM.to [11, 12] 98 = [13] := by decide +kernel
theorem aw5 : awM.step [11, 12] 98 = [1, 8, 9, 10, 13] := by rw [Mch.step, awT4]; exact clo_of (by decide +kernel)
theorem awW1 : awM.whole [97, 98, 97, 98] = true := by
  simp only [Mch.whole, Mch.run, show awM.start = 0 from rfl, aw1, aw2, aw3, aw4, aw5]; decide
theorem awW2 : awM.whole [97, 98, 97] = false := by
  simp only [Mch.whole, Mch.run, show awM.start = 0 from rfl, aw1, aw2, aw3, aw4]; decide

def aw0M : Mch := ⟨2, [], [(0, 1, ⟨1, 2, 3, 4⟩)], 0, 1⟩
abbrev aw0 : Nd := letterN ⟨1, 2, 3, 4⟩
theorem aw0_built : aw0.built = .tuple #[aw0M.enc, .int .i64 0] := by
  unfold Nd.built
  rw [if_pos (by decide), if_neg (by decide)]; rfl
theorem awN_built : awN.built = .tuple #[awM.enc, .int .i64 0] := by
  unfold Nd.built
  rw [if_pos (by decide +kernel), if_neg (by decide +kernel), awM_eq]
theorem awX_built : (Nd.mk 5 BS.none 0 0 [letterN BS.none]).built = .tuple #[zeroM.enc, .int .i64 1] := by
  unfold Nd.built
  rw [if_neg (by decide)]

abbrev zrow5 : AObj := .row [.int .i64 0, .slice none 0 0, .slice none 0 0, .int .i64 0, .int .i64 0] .exact
theorem boxM {H : Heap} {m : Mch} {K : Heap → Prop} (k : K (H ++ [mrow m])) : sW (stW 5 (H ++ [zrow5]) (.pointer (some ⟨H.length, 0, none⟩)) m.enc) K := by
  rw [stW_agg, row_app0]
  refine ⟨_, by rw [show getRow [zrow5] 0 = some ([.int .i64 0, .slice none 0 0, .slice none 0 0, .int .i64 0, .int .i64 0], .exact) from rfl, Option.bind_some, if_pos (by simp)], ?_⟩
  rw [set_app0]
  exact k

theorem ex0 {a b : Value} : extractA (.tuple #[a, b]) 0 = some a := rfl
theorem ex1 {a b : Value} : extractA (.tuple #[a, b]) 1 = some b := rfl

theorem awake_spec {h : Heap} {Q : Value → Heap → Prop} (hq : ∀ t, Q (.bool true) (h ++ t)) : acall Try.prog F_homographlaw06_awake [] h Q := by
  apply W_homographlaw06_awake_ok
  unfold W_homographlaw06_awake
  rw [show bldW [(.int .u64 0), (.int .u64 0), (.int .u64 0), (.int .u64 0)] [(0, 1, (.int .u64 1)), (1, 1, (.int .u64 2)), (2, 1, (.int .u64 3)), (3, 1, (.int .u64 4))] = some (BS.mk 1 2 3 4).enc from rfl, oW_some]
  refine callW_plain.2 (setN_spec (callW_plain.2 (build_spec (n := aw0) (ok_letter (d := 0)).2.2 (by rw [wt_letter]; omega) ?_)))
  rw [aw0_built, ex0, ex1, oW_some, oW_some, letH_eq]
  refine boxM ?_
  refine callW_plain.2 (lit_spec (s := ⟨#[97, 98]⟩) (by decide) (callW_plain.2 (rep_spec (n := litN [97, 98]) (callW_plain.2 (build_spec (n := awN) ?_ ?_ ?_)))))
  · exact (ok_rep (by omega) (by omega) (by omega) (.inl (by omega)) (ok_many (.inl rfl) (by simp) (d := 2) fun k hk => by
      obtain ⟨b, _, rfl⟩ := List.mem_map.1 hk; exact ok_letter)).2.2
  · decide
  rw [awN_built, ex0, ex1, oW_some, oW_some, letH_eq]
  refine boxM ?_
  rw [show bldW [(.int .i64 0), (.int .u64 0), (.int .u64 0), (.int .u64 0), (.int .u64 0), (.int .i64 0), (.int .i64 0), (.slice none 0 0)] [] = some (.agg #[.int .i64 0, .int .u64 0, .int .u64 0, .int .u64 0, .int .u64 0, .int .i64 0, .int .i64 0, .slice none 0 0]) from rfl, oW_some]
  refine bsl1 rfl rfl rfl ?_
  have e1 : h ++ [mrow aw0M] ++ [mrow awM] = h ++ [mrow aw0M, mrow awM] := by simp
  have e2 : (h ++ [mrow aw0M]).length = h.length + 1 := by simp
  have e3 : (h ++ [mrow aw0M, mrow awM]).length = h.length + 2 := by simp
  rw [e1, e2, e3]
  generalize hz : (cellsOf (Value.agg #[.int .i64 0, .int .u64 0, .int .u64 0, .int .u64 0, .int .u64 0, .int .i64 0, .int .i64 0, .slice none 0 0])) = zc
  have hi : (h ++ [mrow aw0M, mrow awM] ++ [AObj.row zc .exact])[h.length + 2]? = some (.row zc .exact) := by
    rw [List.getElem?_append_right (by omega), e3]; simp
  have gv : Gv (· = h.length + 2) (idR (h ++ [mrow aw0M, mrow awM] ++ [AObj.row zc .exact])) (h ++ [mrow aw0M, mrow awM] ++ [AObj.row zc .exact]) (lit ([letterN BS.none].map Nd.enc)) (.slice (some ⟨h.length + 2, 0, none⟩) 1 1) := by
    refine Gv.frzS #[(letterN BS.none).enc] (h.length + 2) 0 8 1 zc .exact rfl hi (by omega) (fun k p => by simp at p; subst p; exact Nd.enc_len _) (by subst hz; simp) fun k j p q q2 => ?_
    simp at p
    subst p
    subst hz
    have hj : j < 8 := by have := Nd.enc_len (letterN BS.none); simp at q2; omega
    match j, hj with
    | 0, _ => exact .plain _ rfl
    | 1, _ => exact .plain _ rfl
    | 2, _ => exact .plain _ rfl
    | 3, _ => exact .plain _ rfl
    | 4, _ => exact .plain _ rfl
    | 5, _ => exact .plain _ rfl
    | 6, _ => exact .plain _ rfl
    | 7, _ => exact .lit0 none 0
  refine callW_plain.2 (acall_frz (gh_ro hi) (args2 := [.int .i64 5, lit ([letterN BS.none].map Nd.enc)]) ⟨.cl (.int _ _), gv, trivial⟩ (many_spec ?_))
  have e4 : (h ++ [mrow aw0M, mrow awM] ++ [AObj.row zc .exact]).set (h.length + 2) (.row zc .ro) = h ++ [mrow aw0M, mrow awM, .row zc .ro] := by
    rw [List.append_assoc, set_app]; rfl
  rw [e4]
  refine callW_plain.2 (build_spec (n := .mk 5 BS.none 0 0 [letterN BS.none]) (.mk (by simp) fun k hk => by simp at hk; subst hk; exact (ok_letter (d := 0)).2.2) (by decide) ?_)
  rw [awX_built, ex0, ex1, oW_some, oW_some, letH_eq]
  refine boxM ?_
  generalize hg : h ++ [mrow aw0M, mrow awM, .row zc .ro] ++ [mrow zeroM] = H
  have eHH : H = h ++ [mrow aw0M, mrow awM] ++ [.row zc .ro, mrow zeroM] := by rw [← hg]; simp
  have r1 : ∀ t, getRow (H ++ t) h.length = some ([.int .i64 (aw0M.count : Int), lit (aw0M.eps.map encP), lit (aw0M.arcs.map encA), .int .i64 aw0M.start, .int .i64 aw0M.stop], .exact) := fun t => by
    rw [eHH, List.append_assoc, List.append_assoc, row_app0]; rfl
  have r2 : ∀ t, getRow (H ++ t) (h.length + 1) = some ([.int .i64 (awM.count : Int), lit (awM.eps.map encP), lit (awM.arcs.map encA), .int .i64 awM.start, .int .i64 awM.stop], .exact) := fun t => by
    rw [eHH, List.append_assoc, List.append_assoc, row_app]; rfl
  have r20 := r2 []
  rw [List.append_nil] at r20
  have ld2 : ∀ t, ldW true 5 (H ++ t) (.pointer (some ⟨h.length + 1, 0, none⟩)) = some awM.enc := fun t => by rw [ldW_agg, r2]; rfl
  have ld20 := ld2 []
  rw [List.append_nil] at ld20
  rw [ld20, oW_some, fa_ptr, oW_some, ldW_one, r20]
  show oW (some (.int .i64 0)) _
  rw [oW_some]
  refine bsl1 rfl rfl rfl ?_
  have am : Acc 1 H.length (H ++ [AObj.row [.int .i64 0] .exact]) (.slice (some ⟨H.length, 0, none⟩) 1 1) ([(0 : Int)].map fun x => .int .i64 x) := Acc.made (l := [.int .i64 0]) (int_len (l := [0])) (Nat.le_refl _)
  obtain ⟨fr, r, g', f1, f2, f3, f4, f5⟩ := am.frz rfl (by omega) int_len int_cl
  have aok : awM.ok := by unfold Mch.ok; decide
  have a1 : awM.eps.length ≤ 1000000000 := by decide
  have a2 : awM.count ≤ 5000 := by decide
  have a3 : awM.arcs.length ≤ 100000000 := by decide
  refine callW_plain.2 (acall_frz f1 (args2 := [awM.enc, ints [0]]) ⟨.cl awM.cl, f2, trivial⟩ (close_spec aok.1 a1 a2 (by decide) (fun x hx => by simp at hx; subst hx; omega) ?_))
  rw [aw1, n_eql, oW_some, bW_dec]
  refine ⟨fun _ => ?_, fun q => absurd rfl q⟩
  rw [fa_ptr, oW_some, ldW_one, r1]
  show oW (some (.int .i64 2)) _
  rw [oW_some, n_eql, oW_some, bW_dec]
  refine ⟨fun _ => ?_, fun q => absurd rfl q⟩
  rw [fa_ptr, oW_some, ldW_one, r1]
  show oW (some (lit (aw0M.arcs.map encA))) _
  rw [oW_some, lenS_lit, oW_some, n_eql, oW_some, bW_dec]
  refine ⟨fun _ => ?_, fun q => absurd rfl q⟩
  rw [fa_ptr, oW_some, ldW_one, r1]
  show oW (some (.int .i64 1)) _
  rw [oW_some, n_eql, oW_some, bW_dec]
  refine ⟨fun _ => ?_, fun q => absurd rfl q⟩
  rw [fa_ptr, oW_some, ldW_one, r1]
  show oW (some (lit (aw0M.eps.map encP))) _
  rw [oW_some, lenS_lit, oW_some, n_eql, oW_some, bW_dec]
  refine ⟨fun _ => ?_, fun q => absurd rfl q⟩
  rw [oW_some, bW_dec]
  refine ⟨fun _ => ?_, fun q => absurd rfl q⟩
  rw [ld2, oW_some]
  refine callW_plain.2 (whole_spec (s := ⟨#[97, 98, 97, 98]⟩) aok a1 a3 a2 (by decide) ?_)
  rw [show bytesN ⟨#[97, 98, 97, 98]⟩ = [97, 98, 97, 98] from rfl, awW1, bW_true, ld2, oW_some]
  refine callW_plain.2 (whole_spec (s := ⟨#[97, 98, 97]⟩) aok a1 a3 a2 (by decide) ?_)
  rw [show bytesN ⟨#[97, 98, 97]⟩ = [97, 98, 97] from rfl, awW2, u_not, oW_some, bW_bool]
  refine ⟨fun _ => ?_, fun q => by cases q⟩
  rw [oW_some, bW_dec]
  refine ⟨fun _ => ?_, fun q => absurd rfl q⟩
  rw [lenS_lit, oW_some, n_gtr, oW_some, bW_dec]
  refine ⟨fun _ => ?_, fun q => absurd (by decide) q⟩
  rw [ld2, oW_some]
  refine callW_plain.2 (step_spec (b := 97) (by omega) aok a1 a3 a2 (by decide) ?_)
  rw [aw2, lenS_lit, oW_some, n_gtr, oW_some]
  have := hq ([mrow aw0M, mrow awM] ++ ([.row zc .ro, mrow zeroM] ++ g'))
  refine gcV_same ?_
  rw [eHH, List.append_assoc, List.append_assoc]
  exact this

end Go.Ax
