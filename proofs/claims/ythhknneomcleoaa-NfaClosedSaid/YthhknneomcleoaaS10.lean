/- Specs: whether patterns may be, and are plain. -/
import Derived.Test.YthhknneomcleoaaS9
namespace Go.Ax
open Go Go.Proofs Go.RowKit

def Nd.cnt : Nd → Bool
  | .mk op _ mn mx ks => decide (0 ≤ op) && decide (op ≤ 5) && (decide (op ≠ 0) || decide (ks.length = 0)) && (decide (op ≠ 3) || decide (ks.length = 1)) && (decide (op ≠ 5) || decide (ks.length = 1)) &&
    decide (0 ≤ mn) && decide (mn ≤ 32) && decide (mx ≤ 32) && (decide (mx < 0) || decide (mn ≤ mx))
mutual
def Nd.plain : Nd → Bool
  | .mk op _ _ _ ks => decide (op ≠ 4) && decide (op ≠ 5) && Nd.plains ks
def Nd.plains : List Nd → Bool
  | [] => true
  | k :: ks => Nd.plain k && Nd.plains ks
end
theorem Nd.plains_eq : ∀ {l : List Nd}, Nd.plains l = l.all Nd.plain
  | [] => rfl
  | k :: ks => by rw [Nd.plains, Nd.plains_eq]; rfl
def Nd.may : Nat → Nd → Bool
  | 0, _ => false
  | d + 1, n => n.cnt && match n with | .mk _ _ _ _ ks => ks.all (Nd.may d)

theorem bW_ndec {p : Prop} [Decidable p] {A B : Prop} : bW (.bool !decide p) A B ↔ (¬ p → A) ∧ (p → B) := by simp [bW_bool]

theorem counts_spec {n : Nd} (hn : ∀ op s mn mx ks, n = .mk op s mn mx ks → ks.length ≤ 1000000000) {h : Heap} {Q : Value → Heap → Prop} (hq : Q (.bool n.cnt) h) : acall Try.prog F_regex_counts [n.enc] h Q := by
  apply W_regex_counts_ok
  cases n with
  | mk op s mn mx ks =>
    have hk := hn _ _ _ _ _ rfl
    rw [Nd.enc_mk]
    have hf : ∀ b : Bool, (Nd.mk op s mn mx ks).cnt = b → ∀ t, gcV h Q (.bool b) (h ++ t) := fun b hb t => gcV_end (.cl (.bool _)) (hb ▸ hq)
    generalize hc : (Nd.mk op s mn mx ks).cnt = c at hf
    simp only [Nd.cnt] at hc
    unfold W_regex_counts
    simp [-exists_and_right, -List.length_eq_zero_iff, bW_dec, bW_ndec]
    refine ⟨fun vs H => vs = [.pointer (some ⟨h.length, 0, none⟩)] ∧ H = h ++ [AObj.row [.int .i64 op, w64 s.a, w64 s.b, w64 s.c, w64 s.d, .int .i64 mn, .int .i64 mx, lit (ks.map Nd.enc)] .exact] ∧
      0 ≤ op ∧ op ≤ 5 ∧ (op = 0 → ks.length = 0) ∧ (op = 3 → ks.length = 1) ∧ (op = 5 → ks.length = 1), ?_, ?_⟩
    all_goals try simp only [Bool.and_eq_true, Bool.or_eq_true, decide_eq_true_eq] at hc
    · repeat' (first | (intro _) | (refine And.intro ?_ ?_))
      all_goals first
        | exact gcL_same ⟨rfl, rfl, by omega, by omega, by omega, by omega, by omega⟩
        | exact hf false (by rw [← hc]; simp only [Bool.and_eq_false_iff, Bool.or_eq_false_iff, decide_eq_false_iff_not]; omega) _
    · rintro x H ⟨hv, rfl, h1, h2, h3, h4, h5⟩
      simp only [List.cons.injEq, and_true] at hv
      subst hv
      simp [-exists_and_right, bW_dec]
      repeat' (first | (intro _) | (refine And.intro ?_ ?_))
      all_goals first
        | exact hf false (by rw [← hc]; simp only [Bool.and_eq_false_iff, Bool.or_eq_false_iff, decide_eq_false_iff_not]; omega) _
        | exact hf true (by rw [← hc]; simp only [Bool.and_eq_true, Bool.or_eq_true, decide_eq_true_eq]; omega) _
        | (refine hf _ ?_ _; rw [← hc, Bool.eq_iff_iff]; simp only [Bool.and_eq_true, Bool.or_eq_true, decide_eq_true_eq]; omega)

/-- slices.IndexFunc at patterns. -/
theorem indexFuncN_spec {l : List Nd} {f : Value} {p : Nd → Bool} (hl : l.length ≤ 1000000000) {h : Heap} (hf : ∀ k ∈ l, ∀ K : Value → Heap → Prop, K (.bool (p k)) h → callW Try.prog f [k.enc] h K) {Q : Value → Heap → Prop}
    (hq : ∀ i : Int, (0 ≤ i ↔ l.any p = true) → Q (.int .i64 i) h) : acall Try.prog F_slices_IndexFunc_api_Node_api_Node [lit (l.map Nd.enc), f] h Q := by
  apply W_slices_IndexFunc_api_Node_api_Node_ok
  unfold W_slices_IndexFunc_api_Node_api_Node
  rw [lenS_lit, oW_some]
  refine ⟨fun k vs g => ∃ i : Nat, vs = [lit (l.map Nd.enc), f, .int .i64 ((l.map Nd.enc).length : Int), .int .i64 (i : Int)] ∧ g = h ∧ k = l.length - i ∧ i ≤ l.length ∧ ∀ j (q : j < l.length), j < i → p l[j] = false, l.length, gcL_same ⟨0, by simp⟩, ?_⟩
  rintro k x5 x6 x7 x8 g ⟨i, hv, rfl, hk, hi, hno⟩
  simp only [List.cons.injEq, and_true] at hv
  obtain ⟨rfl, rfl, rfl, rfl⟩ := hv
  rw [n_lss, oW_some, bW_dec]
  simp only [List.length_map]
  constructor
  · intro hlt
    have hlt' : i < l.length := by omega
    refine ix_lit hlt' (Nd.enc_len _) ?_
    obtain ⟨cs, e1, e2⟩ := l[i].enc_agg
    rw [ld_plit (by rw [e1]; simpa using e2), oW_some, show Value.agg (cellsOf l[i].enc).toArray = l[i].enc by rw [e1]; simp]
    refine hf _ (by simp) _ ?_
    rw [bW_bool]
    constructor
    · intro e
      exact gcV_same (hq _ ⟨fun _ => List.any_eq_true.2 ⟨l[i], by simp, e⟩, fun _ => by omega⟩)
    · intro e
      rw [n_add (by omega), oW_some]
      refine ⟨l.length - (i + 1), by omega, gcL_same ⟨i + 1, by simp, rfl, rfl, by omega, fun j q r => ?_⟩⟩
      by_cases c : j = i
      · subst c; exact e
      · exact hno j q (by omega)
  · intro hge
    refine gcV_same (hq _ ⟨fun q => by omega, fun hm => ?_⟩)
    obtain ⟨x, hx, e⟩ := List.any_eq_true.1 hm
    obtain ⟨j, q, rfl⟩ := List.mem_iff_getElem.1 hx
    rw [hno j q (by omega)] at e; cases e

theorem containsFuncN_spec {l : List Nd} {f : Value} {p : Nd → Bool} (hl : l.length ≤ 1000000000) {h : Heap} (hf : ∀ k ∈ l, ∀ K : Value → Heap → Prop, K (.bool (p k)) h → callW Try.prog f [k.enc] h K) {Q : Value → Heap → Prop}
    (hq : Q (.bool (l.any p)) h) : acall Try.prog F_slices_ContainsFunc_api_Node_api_Node [lit (l.map Nd.enc), f] h Q := by
  apply W_slices_ContainsFunc_api_Node_api_Node_ok
  unfold W_slices_ContainsFunc_api_Node_api_Node
  refine callW_plain.2 (indexFuncN_spec hl hf fun i hi => ?_)
  rw [n_geq, oW_some]
  have : decide (0 ≤ i) = l.any p := by rw [Bool.eq_iff_iff, decide_eq_true_eq]; exact hi
  rw [this]
  exact gcV_same hq

/-- No row of kids is very long. -/
inductive Nd.Fin : Nd → Prop
  | mk {op : Int} {s : BS} {mn mx : Int} {ks : List Nd} (h : ks.length ≤ 1000000000) (hk : ∀ k ∈ ks, Nd.Fin k) : Nd.Fin (.mk op s mn mx ks)

theorem plain_spec {n : Nd} (hn : n.Fin) : ∀ {h : Heap} {Q : Value → Heap → Prop}, Q (.bool n.plain) h → acall Try.prog F_nfa_plain [n.enc] h Q := by
  induction hn with
  | @mk op s mn mx ks hl hk ih =>
    intro h Q hq
    apply W_nfa_plain_ok
    rw [Nd.enc_mk]
    rw [Nd.plain, Nd.plains_eq] at hq
    unfold W_nfa_plain
    simp [-exists_and_right, bW_dec, bW_ndec]
    refine ⟨fun h4 => ⟨fun h5 => ?_, fun h5 => ?_⟩, fun h4 => ?_⟩
    · refine containsFuncN_spec (p := fun k => !k.plain) hl (fun k hm K hK => ?_) ?_
      · refine callW_plain.2 ?_
        apply W_nfa_plain_D1_ok
        unfold W_nfa_plain_D1
        obtain ⟨cs, e1, e2⟩ := k.enc_agg
        have : k.enc = .agg cs := e1
        rw [this]
        simp [-exists_and_right]
        have e3 : cs.toList.take 8 = cs.toList := List.take_of_length_le (by simp; omega)
        rw [if_pos (by omega)]
        simp [-exists_and_right]
        rw [e3, show Value.agg cs.toList.toArray = k.enc by rw [this]]
        refine ih k hm ?_
        rw [u_not, oW_some]
        rw [show ∀ a b : AObj, h ++ [a, b] = (h ++ [a]) ++ [b] from fun a b => by simp]
        exact gcV_end (.cl (.bool _)) hK
      · rw [u_not, oW_some]
        refine gcV_end (.cl (.bool _)) ?_
        rw [decide_eq_true h4, decide_eq_true h5] at hq
        have : (!ks.any fun k => !k.plain) = ks.all Nd.plain := by simp [List.all_eq_not_any_not]
        rw [this]; exact hq
    · rw [h5] at hq
      exact gcV_end (.cl (.bool _)) hq
    · rw [h4] at hq
      exact gcV_end (.cl (.bool _)) hq

theorem shallow_spec : ∀ {d : Nat} {n : Nd}, n.Fin → d ≤ 1000 → ∀ {h : Heap} {Q : Value → Heap → Prop}, Q (.bool (n.may d)) h → acall Try.prog F_regex_shallow [n.enc, .int .i64 (d : Int)] h Q
  | d, .mk op s mn mx ks, hf, hd, h, Q, hq => by
    have hf' := hf
    obtain ⟨hl, hk⟩ := hf
    apply W_regex_shallow_ok
    rw [Nd.enc_mk]
    unfold W_regex_shallow
    simp [-exists_and_right, bW_dec, bW_ndec]
    rw [← Nd.enc_mk]
    refine ⟨fun h0 => ?_, fun h0 => ?_⟩
    · obtain ⟨d, rfl⟩ : ∃ d', d = d' + 1 := ⟨d - 1, by omega⟩
      refine counts_spec (fun op' s' mn' mx' ks' e => by cases e; exact hl) ?_
      rw [bW_bool]
      constructor
      · intro hc
        simp [-exists_and_right]
        refine containsFuncN_spec (p := fun k => !k.may d) hl (fun k hm K hK => ?_) ?_
        · refine callW_known.2 ?_
          apply W_regex_shallow_D1_ok
          unfold W_regex_shallow_D1
          obtain ⟨cs, e1, e2⟩ := k.enc_agg
          rw [e1]
          simp [-exists_and_right]
          have e3 : cs.toList.take 8 = cs.toList := List.take_of_length_le (by simp; omega)
          rw [if_pos (by omega)]
          simp [-exists_and_right]
          rw [n_sub (by omega), oW_some, e3, show Value.agg cs.toList.toArray = k.enc by rw [e1], show ((d : Int) + 1 - 1) = (d : Int) by omega]
          refine shallow_spec (hk k hm) (by omega) ?_
          rw [u_not, oW_some]
          rw [show ∀ a b c : AObj, h ++ [a, b, c] = (h ++ [a, b]) ++ [c] from fun a b c => by simp]
          exact gcV_end (.cl (.bool _)) hK
        · rw [u_not, oW_some]
          refine gcV_end (.cl (.bool _)) ?_
          rw [Nd.may, hc, Bool.true_and] at hq
          have : (!ks.any fun k => !k.may d) = ks.all (Nd.may d) := by simp [List.all_eq_not_any_not]
          rw [this]; exact hq
      · intro hc
        rw [Nd.may, hc, Bool.false_and] at hq
        exact gcV_end (.cl (.bool _)) hq
    · have : d = 0 := by omega
      subst this
      rw [Nd.may] at hq
      exact gcV_end (.cl (.bool _)) hq

theorem check_spec {n : Nd} (hf : n.Fin) {h : Heap} {Q : Value → Heap → Prop} (hq : Q (.int .i64 (if n.may 64 = true then 0 else 1)) h) : acall Try.prog F_regex_Check [n.enc] h Q := by
  apply W_regex_Check_ok
  unfold W_regex_Check
  obtain ⟨cs, e1, e2⟩ := n.enc_agg
  rw [e1]
  simp [-exists_and_right]
  have e3 : cs.toList.take 8 = cs.toList := List.take_of_length_le (by simp; omega)
  rw [if_pos (by omega)]
  simp [-exists_and_right]
  rw [e3, show Value.agg cs.toList.toArray = n.enc by rw [e1]]
  refine shallow_spec (d := 64) hf (by omega) ?_
  rw [u_not, oW_some, bW_bool]
  constructor
  · intro c
    rw [if_neg (by simpa using c)] at hq
    exact gcV_end (.cl (.int _ _)) hq
  · intro c
    rw [if_pos (by simpa using c)] at hq
    exact gcV_end (.cl (.int _ _)) hq

end Go.Ax
