/- The walk of the law NfaClosed. -/
import Derived.Test.YthhknneomcleoaaS19
namespace Go.Ax
open Go Go.Proofs Go.RowKit

def ClI1 (h H : Heap) (m : Mch) (l : List Int) (k : Nat) (vs : List Value) (G : Heap) : Prop :=
  ∃ i : Nat, vs = [ints l, .pointer (some ⟨H.length, 0, none⟩), ints (m.clo l), .int .i64 (i : Int)] ∧ G = H ++ [mrow m] ∧ k = (m.clo l).length - i ∧ i ≤ (m.clo l).length
def ClI2 (h H : Heap) (m : Mch) (l : List Int) (k : Nat) (vs : List Value) (G : Heap) : Prop :=
  ∃ i : Nat, vs = [ints l, .pointer (some ⟨H.length, 0, none⟩), ints (m.clo l), .int .i64 (i : Int)] ∧ G = H ++ [mrow m] ∧ k = l.length - i ∧ i ≤ l.length
def ClI3 (h H : Heap) (m : Mch) (l : List Int) (i : Nat) (k : Nat) (vs : List Value) (G : Heap) : Prop :=
  ∃ j : Nat, vs = [ints l, .pointer (some ⟨H.length, 0, none⟩), ints (m.clo l), .int .i64 (i : Int), .bool (decide (l.getD i 0 ∈ (m.clo l).take j)), .int .i64 (j : Int)] ∧ G = H ++ [mrow m] ∧ k = (m.clo l).length - j ∧ j ≤ (m.clo l).length

theorem clo_idem (m : Mch) (l : List Int) : m.clo (m.clo l) = m.clo l := by
  refine rising_eq (m.clo_sorted _) (m.clo_sorted _) fun x => ?_
  rw [Mch.mem_clo, Mch.mem_clo]
  constructor
  · rintro ⟨h1, h2⟩
    refine ⟨h1, h2.mono fun y hy => ?_⟩
    exact (Mch.mem_clo.1 hy.1).2
  · rintro ⟨h1, h2⟩
    exact ⟨h1, .base ⟨Mch.mem_clo.2 ⟨h1, h2⟩, h1⟩⟩

theorem nfaClosed_walk {code : ByteArray} {l : List Int} (hcs : code.size ≤ 1000000000000000) (hi : ∀ x ∈ l, inI x) (hll : l.length ≤ 9223372036854775807) {h : Heap} :
    acall Try.prog F_homographlaw06_NfaClosed [.string code, ints l] h fun v _ => v = .bool true := by
  apply W_homographlaw06_NfaClosed_ok
  unfold W_homographlaw06_NfaClosed
  refine callW_plain.2 (awake_spec fun t => ?_)
  rw [u_not, oW_some, bW_bool]
  refine ⟨(fun q => by cases q), fun _ => ?_⟩
  refine ⟨fun vs H => vs = [.string code, ints l] ∧ H = h ++ t ∧ code.size ≤ 10 ∧ l.length ≤ 60, ?_, ?_⟩
  · rw [lenStr_str, oW_some, n_gtr, oW_some, bW_dec]
    refine ⟨fun _ => ?_, fun hc => ?_⟩
    · rw [bW_true]; exact gcV_same rfl
    · rw [lenS_lit, oW_some, n_gtr, oW_some, bW_dec]
      simp only [List.length_map]
      exact ⟨fun _ => gcV_same rfl, fun hl => gcL_same ⟨rfl, rfl, by omega, by omega⟩⟩
  rintro x9 x10 H0 ⟨hv, rfl, hc, hl⟩
  simp only [List.cons.injEq, and_true] at hv
  obtain ⟨rfl, rfl⟩ := hv
  refine callW_plain.2 (plainR_spec (by omega) fun n hn hw => callW_plain.2 (build_spec hn.2.2 (by omega) ?_))
  generalize h ++ t = H
  rcases built_or hn hw with e | ⟨e, g, hok, h1, h2, h3⟩
  · rw [e, ex0, ex1, oW_some, oW_some, letH_eq]
    refine boxM ?_
    rw [n_neq, oW_some, bW_dec]
    refine ⟨fun _ => ?_, fun q => absurd (by omega) q⟩
    rw [n_eql, oW_some]
    exact gcV_same (by simp)
  · rw [e, ex0, ex1, oW_some, oW_some, letH_eq]
    generalize n.mach = m at *
    refine boxM ?_
    rw [n_neq, oW_some, bW_dec]
    refine ⟨fun q => absurd rfl q, fun _ => ?_⟩
    rw [mrow_end, oW_some]
    have c5 : m.count ≤ 5000 := by omega
    refine callW_plain.2 (close_spec hok.1 h1 c5 (by omega) hi ?_)
    have cl := clo_len m l
    have hrow : getRow (H ++ [mrow m]) H.length = some ([.int .i64 (m.count : Int), lit (m.eps.map encP), lit (m.arcs.map encA), .int .i64 m.start, .int .i64 m.stop], .exact) := by rw [row_app0]; rfl
    have hcnt : ∀ K : Value → Prop, K (.int .i64 (m.count : Int)) → oW (faW 0 1 (.pointer (some ⟨H.length, 0, none⟩))) fun v42 => oW (ldW false 1 (H ++ [mrow m]) v42) K := fun K hK => by
      rw [fa_ptr, oW_some, ldW_one, hrow]; exact oW_some.2 hK
    have hR : ∀ i (q : i < (m.clo l).length), inR m.count (m.clo l)[i] := fun i q => (Mch.mem_clo.1 (List.getElem_mem q)).1
    refine ⟨ClI1 h H m l, (m.clo l).length, gcL_same ⟨0, rfl, rfl, by omega, by omega⟩, ?_⟩
    rintro k x29 x30 x31 x32 G ⟨i, hv, rfl, hk, hii⟩
    simp only [List.cons.injEq, and_true] at hv
    obtain ⟨rfl, rfl, rfl, rfl⟩ := hv
    rw [lenS_lit, oW_some, n_lss, oW_some, bW_dec]
    simp only [List.length_map]
    constructor
    · intro hlt
      have hlt' : i < (m.clo l).length := by omega
      have hr := hR i hlt'
      unfold inR at hr
      refine ix_ints hlt' ?_
      rw [n_lss, oW_some, bW_dec]
      refine ⟨fun q => by omega, fun _ => ?_⟩
      refine ix_ints hlt' ?_
      refine hcnt _ ?_
      rw [n_geq, oW_some, bW_dec]
      refine ⟨fun q => by omega, fun _ => ?_⟩
      have fin : oW (binN .add (.int .i64 (i : Int)) (.int .i64 1)) fun v => ∃ m27, m27 < k ∧ gcL h (ClI1 h H m l m27) [ints l, .pointer (some ⟨H.length, 0, none⟩), ints (m.clo l), v] (H ++ [mrow m]) := by
        rw [n_add (by omega), oW_some]
        exact ⟨(m.clo l).length - (i + 1), by omega, gcL_same ⟨i + 1, by simp, rfl, rfl, by omega⟩⟩
      rw [n_gtr, oW_some, bW_dec]
      constructor
      · intro h0
        have i1 : i - 1 < (m.clo l).length := by omega
        refine ix_ints hlt' ?_
        rw [n_sub (by omega), oW_some, show ((i : Int) - 1) = ((i - 1 : Nat) : Int) by omega]
        refine ix_ints i1 ?_
        rw [n_leq, oW_some, bW_dec]
        have := List.pairwise_iff_getElem.1 (m.clo_sorted l) (i - 1) i i1 hlt' (by omega)
        exact ⟨fun q => by omega, fun _ => fin⟩
      · intro h0
        rw [bW_false]; exact fin
    · intro hge
      refine ⟨ClI2 h H m l, l.length, gcL_same ⟨0, rfl, rfl, by omega, by omega⟩, ?_⟩
      rintro k x59 x60 x61 x62 G ⟨i, hv, rfl, hk2, hi2⟩
      simp only [List.cons.injEq, and_true] at hv
      obtain ⟨rfl, rfl, rfl, rfl⟩ := hv
      rw [lenS_lit, oW_some, n_lss, oW_some, bW_dec]
      simp only [List.length_map]
      constructor
      · intro hlt
        have hlt' : i < l.length := by omega
        have hgd : l.getD i 0 = l[i] := by simp [hlt']
        refine ⟨ClI3 h H m l i, (m.clo l).length, gcL_same ⟨0, by simp, rfl, by omega, by omega⟩, ?_⟩
        rintro k3 x70 x71 x72 x73 x74 x75 G ⟨j, hv, rfl, hk3, hj⟩
        simp only [List.cons.injEq, and_true] at hv
        obtain ⟨rfl, rfl, rfl, rfl, rfl, rfl⟩ := hv
        rw [lenS_lit, oW_some, n_lss, oW_some, bW_dec]
        simp only [List.length_map]
        constructor
        · intro hltj
          have hltj' : j < (m.clo l).length := by omega
          have htk : (m.clo l).take (j + 1) = (m.clo l).take j ++ [(m.clo l)[j]] := by rw [List.take_add_one, List.getElem?_eq_getElem hltj']; rfl
          rw [bW_dec]
          constructor
          · intro hin
            rw [n_add (by omega), oW_some]
            have : decide (l.getD i 0 ∈ (m.clo l).take (j + 1)) = true := by rw [decide_eq_true_eq, htk, List.mem_append]; exact .inl hin
            exact ⟨(m.clo l).length - (j + 1), by omega, gcL_same ⟨j + 1, by rw [this]; simp, rfl, rfl, by omega⟩⟩
          · intro hnin
            refine ix_ints hltj' ?_
            refine ix_ints hlt' ?_
            rw [n_eql, oW_some, n_add (by omega), oW_some]
            have : decide (l.getD i 0 ∈ (m.clo l).take (j + 1)) = decide ((m.clo l)[j] = l[i]) := by
              rw [decide_eq_decide, htk, List.mem_append, hgd]
              rw [hgd] at hnin
              constructor
              · rintro (q | q)
                · exact absurd q hnin
                · simp at q; exact q.symm
              · intro q; right; simp [q]
            exact ⟨(m.clo l).length - (j + 1), by omega, gcL_same ⟨j + 1, by rw [this]; simp, rfl, rfl, by omega⟩⟩
        · intro hgej
          have hjj : (m.clo l).take j = m.clo l := List.take_of_length_le (by omega)
          rw [hjj]
          have hmem : l.getD i 0 ∈ m.clo l ↔ inR m.count l[i] := by
            rw [hgd]
            constructor
            · intro q; exact (Mch.mem_clo.1 q).1
            · intro q; exact Mch.mem_clo.2 ⟨q, .base ⟨List.getElem_mem hlt', q⟩⟩
          have fin : oW (binN .add (.int .i64 (i : Int)) (.int .i64 1)) fun v => ∃ m27, m27 < k ∧ gcL h (ClI2 h H m l m27) [ints l, .pointer (some ⟨H.length, 0, none⟩), ints (m.clo l), v] (H ++ [mrow m]) := by
            rw [n_add (by omega), oW_some]
            exact ⟨l.length - (i + 1), by omega, gcL_same ⟨i + 1, by simp, rfl, rfl, by omega⟩⟩
          refine ix_ints hlt' ?_
          rw [n_geq, oW_some, bW_dec]
          constructor
          · intro h0
            refine ix_ints hlt' ?_
            refine hcnt _ ?_
            rw [n_lss, oW_some, neB_bool, oW_some]
            have : decide (l.getD i 0 ∈ m.clo l) = decide (l[i] < (m.count : Int)) := by rw [decide_eq_decide, hmem]; unfold inR; omega
            rw [this, bW_bool]
            exact ⟨fun q => by simp at q, fun _ => fin⟩
          · intro h0
            rw [neB_bool, oW_some]
            have : decide (l.getD i 0 ∈ m.clo l) = false := by rw [decide_eq_false_iff_not, hmem]; unfold inR; omega
            rw [this, bW_bool]
            exact ⟨fun q => by simp at q, fun _ => fin⟩
      · intro hge2
        rw [mrow_end, oW_some]
        refine callW_plain.2 (close_spec hok.1 h1 c5 (by omega) (fun x hx => ?_) ?_)
        · have := (Mch.mem_clo.1 hx).1
          unfold inR at this; omega
        rw [clo_idem]
        refine callW_plain.2 (same_spec (by omega) (by omega) ?_)
        rw [decide_eq_true rfl]
        exact gcV_same rfl

end Go.Ax
