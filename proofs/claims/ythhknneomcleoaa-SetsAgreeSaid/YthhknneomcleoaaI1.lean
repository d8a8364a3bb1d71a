/- SetsAgree: the walk. -/
import Derived.Test.YthhknneomcleoaaV1
namespace Go.Ax
open Go Go.Proofs Go.RowKit

def SaBlk (I44 : Nat → List Value → Heap → Prop) (k47 : Nat) (x48 x49 x50 x51 x52 v61 v66 : Value) (h65 h : Heap) (Q : Value → Heap → Prop) : Prop :=
(∃ (I73 : Nat → List Value → Heap → Prop) (k74 : Nat), gcL h (I73 k74) [x48, x49, x50, x51, x52, v61, v66, (.int .i64 0)] h65 ∧
∀ k76 : Nat, ∀ x77 : Value, ∀ x78 : Value, ∀ x79 : Value, ∀ x80 : Value, ∀ x81 : Value, ∀ x82 : Value, ∀ x83 : Value, ∀ x84 : Value, ∀ h85, I73 k76 [x77, x78, x79, x80, x81, x82, x83, x84] h85 →
(oW (lenS x83) fun v86 =>
(oW (binN .lss x84 v86) fun v87 =>
(bW v87
(∃ (I88 : Nat → List Value → Heap → Prop) (k89 : Nat), gcL h (I88 k89) [x77, x78, x79, x80, x81, x82, x83, x84, (.bool false), (.int .i64 0)] h85 ∧
∀ k91 : Nat, ∀ x92 : Value, ∀ x93 : Value, ∀ x94 : Value, ∀ x95 : Value, ∀ x96 : Value, ∀ x97 : Value, ∀ x98 : Value, ∀ x99 : Value, ∀ x100 : Value, ∀ x101 : Value, ∀ h102, I88 k91 [x92, x93, x94, x95, x96, x97, x98, x99, x100, x101] h102 →
(oW (iaS 1 x97 (.int .i64 0)) fun v103 =>
(oW (ldW false 1 h102 v103) fun v104 =>
(oW (iaS 1 x94 v104) fun v105 =>
(oW (ldW false 1 h102 v105) fun v106 =>
(oW (lenS v106) fun v107 =>
(oW (binN .lss x101 v107) fun v108 =>
(bW v108
(bW x100
(oW (binN .add x101 (.int .i64 1)) fun v109 =>
(∃ m90, m90 < k91 ∧ gcL h (I88 m90) [x92, x93, x94, x95, x96, x97, x98, x99, (.bool true), v109] h102))
(oW (iaS 1 x97 (.int .i64 0)) fun v110 =>
(oW (ldW false 1 h102 v110) fun v111 =>
(oW (iaS 1 x94 v111) fun v112 =>
(oW (ldW false 1 h102 v112) fun v113 =>
(oW (iaS 1 v113 x101) fun v114 =>
(oW (ldW false 1 h102 v114) fun v115 =>
(oW (iaS 1 x98 x99) fun v116 =>
(oW (ldW false 1 h102 v116) fun v117 =>
(oW (binN .eql v115 v117) fun v118 =>
(oW (binN .add x101 (.int .i64 1)) fun v119 =>
(∃ m90, m90 < k91 ∧ gcL h (I88 m90) [x92, x93, x94, x95, x96, x97, x98, x99, v118, v119] h102))))))))))))
(oW (unA .not x100) fun v120 =>
(bW v120
(gcV h Q (.bool false) h102)
(oW (binN .add x99 (.int .i64 1)) fun v121 =>
(∃ m75, m75 < k76 ∧ gcL h (I73 m75) [x92, x93, x94, x95, x96, x97, x98, v121] h102))))))))))))
(oW (binN .add x81 (.int .i64 1)) fun v122 =>
(∃ m46, m46 < k47 ∧ gcL h (I44 m46) [x77, x78, x79, x80, v122] h85))))))
theorem mem_take_succ {l : List Int} {j : Nat} (hj : j < l.length) {x : Int} : x ∈ l.take (j + 1) ↔ x ∈ l.take j ∨ l[j] = x := by
  rw [take_succ' hj, List.mem_append, List.mem_singleton]
  exact or_congr Iff.rfl ⟨Eq.symm, Eq.symm⟩
theorem saBlk_spec {I44 : Nat → List Value → Heap → Prop} {k47 : Nat} {x48 x49 x51 : Value} {fl : List (List Int)} {r ls : List Int} {i s : Nat} {H h : Heap} {Q : Value → Heap → Prop} (hr : 0 < r.length) (e0 : r.getD 0 0 = (s : Int)) (hs : s < fl.length) (hall : ∀ x ∈ ls, x ∈ fl[s]) (hl : ls.length ≤ 1000000000) (hf : fl[s].length ≤ 1000000000) (hi : i ≤ 1000000000)
    (k : ∃ m46, m46 < k47 ∧ gcL h (I44 m46) [x48, x49, lit (fl.map ints), x51, .int .i64 ((i : Int) + 1)] H) :
    SaBlk I44 k47 x48 x49 (lit (fl.map ints)) x51 (.int .i64 (i : Int)) (ints r) (ints ls) H h Q := by
  unfold SaBlk
  refine ⟨fun m vs g => ∃ a : Nat, vs = [x48, x49, lit (fl.map ints), x51, .int .i64 (i : Int), ints r, ints ls, .int .i64 (a : Int)] ∧ g = H ∧ m = ls.length - a ∧ a ≤ ls.length, ls.length, gcL_same ⟨0, rfl, rfl, by omega, by omega⟩, ?_⟩
  rintro k76 x77 x78 x79 x80 x81 x82 x83 x84 h85 ⟨a, hv, rfl, hk, ha⟩
  simp only [List.cons.injEq, and_true] at hv
  obtain ⟨rfl, rfl, rfl, rfl, rfl, rfl, rfl, rfl⟩ := hv
  rw [lenI, oW_some, n_lss, oW_some, bW_dec]
  constructor
  · intro hlt
    have ha' : a < ls.length := by omega
    have hin := hall _ (List.getElem_mem ha')
    refine ⟨fun m vs g => ∃ j : Nat, vs = [x77, x78, lit (fl.map ints), x80, .int .i64 (i : Int), ints r, ints ls, .int .i64 (a : Int), .bool (decide (ls[a] ∈ fl[s].take j)), .int .i64 (j : Int)] ∧ g = h85 ∧ m = fl[s].length - j ∧ j ≤ fl[s].length, fl[s].length, gcL_same ⟨0, by simp, rfl, by omega, by omega⟩, ?_⟩
    rintro k91 x92 x93 x94 x95 x96 x97 x98 x99 x100 x101 h102 ⟨j, hv, rfl, hk2, hj⟩
    simp only [List.cons.injEq, and_true] at hv
    obtain ⟨rfl, rfl, rfl, rfl, rfl, rfl, rfl, rfl, rfl, rfl⟩ := hv
    refine ix0 hr ?_
    rw [e0]
    refine ix_rules hs ?_
    rw [lenI, oW_some, n_lss, oW_some, bW_dec]
    constructor
    · intro hlj
      have hj' : j < fl[s].length := by omega
      rw [bW_dec]
      constructor
      · intro hm
        rw [n_add (by omega), oW_some]
        refine ⟨fl[s].length - (j + 1), by omega, gcL_same ⟨j + 1, ?_, rfl, rfl, by omega⟩⟩
        rw [decide_eq_true ((mem_take_succ hj').2 (.inl hm))]; rfl
      · intro hm
        refine ix0 hr ?_
        rw [e0]
        refine ix_rules hs (ix_ints hj' (ix_ints ha' ?_))
        rw [n_eql, oW_some, n_add (by omega), oW_some]
        refine ⟨fl[s].length - (j + 1), by omega, gcL_same ⟨j + 1, ?_, rfl, rfl, by omega⟩⟩
        have : decide (ls[a] ∈ fl[s].take (j + 1)) = decide (fl[s][j] = ls[a]) := by
          rw [decide_eq_decide, mem_take_succ hj']
          exact ⟨fun q => q.resolve_left hm, .inr⟩
        rw [this]; rfl
    · intro hge
      rw [List.take_of_length_le (by omega), decide_eq_true hin, u_not, oW_some, bW_bool]
      refine ⟨(fun q => by cases q), fun _ => ?_⟩
      rw [n_add (by omega), oW_some]
      exact ⟨ls.length - (a + 1), by omega, gcL_same ⟨a + 1, rfl, rfl, rfl, by omega⟩⟩
  · intro _
    rw [n_add (by omega), oW_some]
    exact k

/-- The plain law. -/
theorem firstL_at {g : Gr} {s : Nat} (h : s < g.firstL.length) : g.firstL[s] = riseL (g.n + 1) (g.first s) := by simp [Gr.firstL]
theorem followL_at {g : Gr} {s : Nat} (h : s < g.followL.length) : g.followL[s] = riseL (g.n + 1) (g.follow s) := by simp [Gr.followL]
theorem null_prod {g : Gr} {i : Nat} (h : g.null i) : g.prod i := Dl.mono (fun _ q => .inr q) h
theorem rowE_null {g : Gr} {r : List Int} (hr : r ∈ g.rules) (h : g.rowE (r.drop 1)) : g.null (lhs r) := .mk ⟨r, hr, rfl⟩ fun p hp => by
  unfold rhs at hp
  obtain ⟨x, hx, rfl⟩ := List.mem_map.1 hp
  exact (h x hx).2
theorem rowL_first {g : Gr} (ok : g.ok) {r : List Int} (hr : r ∈ g.rules) (hs : lhs r < g.firstL.length) : ∀ x ∈ g.rowL (r.drop 1), x ∈ g.firstL[lhs r] := fun x hx => by
  unfold Gr.rowL at hx
  rw [firstL_at hs]
  rw [mem_riseL] at hx ⊢
  exact ⟨hx.1, first_rule ok hr (a := []) rfl (by simp) hx.2⟩
theorem start_reach {g : Gr} : g.reach g.start.toNat := .mk (ps := []) (.inl rfl) (by simp)
theorem start_follow {g : Gr} : g.follow g.start.toNat g.n := ⟨Nat.le_refl _, .mk (ps := []) (.inl ⟨rfl, rfl⟩) (by simp)⟩
/-- What rises up to n, n among it, ends with n. -/
theorem riseL_last {n : Nat} {S : Nat → Prop} (h : S n) : ∃ l, riseL (n + 1) S = l ++ [(n : Int)] := by
  classical
  refine ⟨riseL n S, ?_⟩
  unfold riseL
  rw [List.range_succ, List.filter_append, List.map_append]
  simp [h]
theorem lhs_cast {g : Gr} (ok : g.ok) {r : List Int} (hr : r ∈ g.rules) : r.getD 0 0 = (lhs r : Int) := by
  have := (ok.fit r hr).2.2.1
  have := ok.t0
  unfold Gr.made inR at *
  unfold lhs; omega
theorem firstL_num {g : Gr} : g.firstL.length = g.n := by unfold Gr.firstL; simp
theorem followL_num {g : Gr} : g.followL.length = g.n := by unfold Gr.followL; simp
theorem GAt.at4 {H : Heap} {p : Nat} {g : Gr} (a : GAt H p g) : ldW false 1 H (.pointer (some ⟨p, 0 + 4, none⟩)) = some (.int .i64 g.start) := by
  obtain ⟨m, e⟩ := a; rw [ldW_one, e]; rfl

theorem setsAgree_walk {code : ByteArray} (hcs : code.size ≤ 1000000000000000) {h : Heap} :
    acall Try.prog F_homographlaw17_SetsAgree [.string code] h fun v _ => v = .bool true := by
  classical
  apply W_homographlaw17_SetsAgree_ok
  unfold W_homographlaw17_SetsAgree
  refine callW_plain.2 (awake17_spec ?_)
  rw [u_not, oW_some, bW_bool]
  refine ⟨(fun q => by cases q), fun _ => ?_⟩
  rw [lenStr_str, oW_some, n_gtr, oW_some, bW_dec]
  constructor
  · intro _
    exact gcV_same rfl
  intro hc
  refine callW_plain.2 (made17_spec (by omega) ?_)
  have ok := mkG_ok (bs := bytesN code)
  have hn5 := mkG_n5 (bs := bytesN code)
  have fin := ok.fin
  generalize mkG (bytesN code) = g at *
  have hst := ok.st
  have ht0 := ok.t0
  unfold Gr.made inR at hst
  have hrr := ok.rr
  rw [letH_eq]
  refine boxG ?_
  have g1 : GAt (h ++ [grow g]) h.length g := GAt.box
  generalize hH : h ++ [grow g] = H at *
  rw [g1.ld, oW_some]
  refine callW_plain.2 (nullable_spec fin ?_)
  rw [g1.ld, oW_some]
  refine callW_plain.2 (productive_spec fin ?_)
  rw [g1.ld, oW_some]
  refine callW_plain.2 (first_spec fin ?_)
  rw [g1.ld, oW_some]
  refine callW_plain.2 (follow_spec17 fin ?_)
  rw [Gr.res_ok ok, Gr.res_ok ok, Gr.resF_ok ok, Gr.resF_ok ok]
  have nl : g.nullL.length = g.n := by unfold Gr.nullL; simp
  have pl : g.prodL.length = g.n := by unfold Gr.prodL; simp
  have rl : g.reachL.length = g.n := by unfold Gr.reachL; simp
  refine ⟨fun m vs A => ∃ i : Nat, vs = [.pointer (some ⟨h.length, 0, none⟩), bools g.nullL, bools g.prodL, lit (g.firstL.map ints), lit (g.followL.map ints), .int .i64 (i : Int)] ∧ A = H ∧ m = g.n - i ∧ i ≤ g.n, g.n, gcL_same ⟨0, rfl, rfl, by omega, by omega⟩, ?_⟩
  rintro k25 x26 x27 x28 x29 x30 x31 h32 ⟨i, hv, rfl, hk, hi⟩
  simp only [List.cons.injEq, and_true] at hv
  obtain ⟨rfl, rfl, rfl, rfl, rfl, rfl⟩ := hv
  refine g1.names ?_
  rw [lenN, oW_some, n_lss, oW_some, bW_dec]
  constructor
  · intro hlt
    have hi' : i < g.n := by unfold Gr.n; omega
    have hin : inR g.n (i : Int) := by unfold inR; omega
    refine ix_bool nl hin ?_
    have next : ∃ m24, m24 < k25 ∧ gcL h ((fun m vs A => ∃ i : Nat, vs = [.pointer (some ⟨h.length, 0, none⟩), bools g.nullL, bools g.prodL, lit (g.firstL.map ints), lit (g.followL.map ints), .int .i64 (i : Int)] ∧ A = h32 ∧ m = g.n - i ∧ i ≤ g.n) m24) [.pointer (some ⟨h.length, 0, none⟩), bools g.nullL, bools g.prodL, lit (g.firstL.map ints), lit (g.followL.map ints), .int .i64 ((i : Int) + 1)] h32 :=
      ⟨g.n - (i + 1), by omega, gcL_same ⟨i + 1, rfl, rfl, rfl, by omega⟩⟩
    rw [bW_dec]
    constructor
    · intro hnl
      refine ix_bool pl hin ?_
      have : onL g.prodL (i : Int).toNat := by
        unfold Gr.prodL; unfold Gr.nullL at hnl
        rw [setL_on] at hnl ⊢
        exact ⟨hnl.1, null_prod hnl.2⟩
      rw [decide_eq_true this, u_not, oW_some, bW_bool]
      refine ⟨(fun q => by cases q), fun _ => ?_⟩
      rw [n_add (by omega), oW_some]
      exact next
    · intro _
      rw [bW_false, n_add (by omega), oW_some]
      exact next
  intro _
  refine ⟨fun m vs A => ∃ i : Nat, vs = [.pointer (some ⟨h.length, 0, none⟩), bools g.nullL, lit (g.firstL.map ints), lit (g.followL.map ints), .int .i64 (i : Int)] ∧ A = h32 ∧ m = g.rules.length - i ∧ i ≤ g.rules.length, g.rules.length, gcL_same ⟨0, rfl, rfl, by omega, by omega⟩, ?_⟩
  rintro k47 x48 x49 x50 x51 x52 h53 ⟨i, hv, rfl, hk, hi⟩
  simp only [List.cons.injEq, and_true] at hv
  obtain ⟨rfl, rfl, rfl, rfl, rfl⟩ := hv
  refine g1.rules ?_
  rw [lenR, oW_some, n_lss, oW_some, bW_dec]
  constructor
  · intro hlt
    have hi' : i < g.rules.length := by omega
    refine g1.rules (ix_rules hi' ?_)
    generalize hre : g.rules[i] = r
    have hr : r ∈ g.rules := by rw [← hre]; exact List.getElem_mem hi'
    have hf := ok.fit r hr
    have hs := lhs_lt ok hr
    have hln : lhs r < g.firstL.length := by rw [firstL_num]; exact hs
    rw [g1.ld, oW_some, sl1 hf.1, oW_some]
    refine callW_plain.2 (row_spec17 fin (by rw [List.length_drop]; have := hf.2.1; omega) ⟨kept_same, ?_⟩)
    rw [Gr.resR_ok ok, exA, oW_some, exB, oW_some, bW_dec]
    have hrl := riseL_len (n := g.n + 1) (S := g.rowF (r.drop 1))
    have hfl := riseL_len (n := g.n + 1) (S := g.first (lhs r))
    have ef : g.firstL[lhs r] = riseL (g.n + 1) (g.first (lhs r)) := firstL_at hln
    have blk := fun {Q : Value → Heap → Prop} => saBlk_spec (I44 := fun m vs A => ∃ i : Nat, vs = [.pointer (some ⟨h.length, 0, none⟩), bools g.nullL, lit (g.firstL.map ints), lit (g.followL.map ints), .int .i64 (i : Int)] ∧ A = h53 ∧ m = g.rules.length - i ∧ i ≤ g.rules.length) (k47 := k47) (x48 := .pointer (some ⟨h.length, 0, none⟩)) (x49 := bools g.nullL) (x51 := lit (g.followL.map ints)) (i := i) (H := h53) (h := h) (Q := Q) hf.1 (lhs_cast ok hr) hln (rowL_first ok hr hln) (by unfold Gr.rowL; omega) (by rw [ef]; omega) (by omega)
      ⟨g.rules.length - (i + 1), by omega, gcL_same ⟨i + 1, rfl, rfl, rfl, by omega⟩⟩
    constructor
    · intro he
      refine ix0 hf.1 ?_
      rw [lhs_cast ok hr]
      have hnl : onL g.nullL (lhs r : Int).toNat := by
        unfold Gr.nullL
        rw [setL_on, Int.toNat_natCast]
        exact ⟨hs, rowE_null hr he⟩
      refine ix_bool nl (by unfold inR; omega) ?_
      rw [decide_eq_true hnl, u_not, oW_some, bW_bool]
      exact ⟨(fun q => by cases q), fun _ => blk⟩
    · intro _
      rw [bW_false]
      exact blk
  intro _
  refine g1.start ?_
  have hsn : g.start.toNat < g.followL.length := by rw [followL_num]; omega
  have es : g.start = ((g.start.toNat : Nat) : Int) := by omega
  obtain ⟨l, el⟩ := riseL_last (n := g.n) (S := g.follow g.start.toNat) start_follow
  have efl : g.followL[g.start.toNat] = l ++ [(g.n : Int)] := by rw [← el]; exact followL_at hsn
  have hll := riseL_len (n := g.n + 1) (S := g.follow g.start.toNat)
  rw [el] at hll
  have ixf : ∀ {K : Value → Prop}, K (ints (l ++ [(g.n : Int)])) → oW (iaS 1 (lit (g.followL.map ints)) (.int .i64 g.start)) fun v => oW (ldW false 1 h53 v) K := fun k => by
    rw [es]; exact ix_rules hsn (by rw [efl]; exact k)
  refine ixf ?_
  rw [g1.ld, oW_some, fa_ptr, oW_some, g1.at4, oW_some]
  refine callW_plain.2 (reached_spec fin ⟨kept_same, ?_⟩)
  rw [Gr.res_ok ok]
  refine ix_bool rl (by unfold inR; omega) ?_
  have hrs : onL g.reachL g.start.toNat := by
    unfold Gr.reachL
    rw [setL_on]
    exact ⟨by omega, start_reach⟩
  rw [decide_eq_true hrs, bW_true, lenI, oW_some, n_gtr, oW_some, bW_dec]
  refine ⟨fun _ => ?_, fun q => absurd (by simp) q⟩
  rw [oW_some, n_sub (by simp at hll ⊢; omega), oW_some, show (((l ++ [(g.n : Int)]).length : Nat) : Int) - 1 = (l.length : Int) by simp]
  refine ix_ints (by simp) (g1.names ?_)
  rw [lenN, oW_some, n_eql, oW_some, List.getElem_concat_length rfl, decide_eq_true rfl, ← hH]
  exact gcV_box (.bool _) rfl

end Go.Ax
