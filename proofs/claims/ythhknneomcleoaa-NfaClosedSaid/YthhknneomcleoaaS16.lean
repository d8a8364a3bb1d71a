/- Specs: Make and Plain. -/
import Derived.Test.YthhknneomcleoaaS15
namespace Go.Ax
open Go Go.Proofs Go.RowKit

def MakeI (h : Heap) (s : ByteArray) (k : Nat) (vs : List Value) (H : Heap) : Prop :=
  ∃ (i : Nat) (v : Value) (g : Heap) (l : List Nd), vs = [.string s, pAt h.length, v, .int .i64 (i : Int)] ∧ H = h ++ [zrow8] ++ g ∧ k = s.size - i ∧ i ≤ s.size ∧ Acc 8 (h.length + 1) H v (l.map Nd.enc) ∧ StkOk i l

theorem snoc {α : Type} {l : List α} (h : l ≠ []) : ∃ l0 a, l = l0 ++ [a] := ⟨l.dropLast, l.getLast h, (List.dropLast_concat_getLast h).symm⟩
theorem snoc2 {α : Type} {l : List α} (h : 1 < l.length) : ∃ l0 a b, l = l0 ++ [a, b] := by
  obtain ⟨l1, b, rfl⟩ := snoc (l := l) (by intro e; rw [e] at h; simp at h)
  obtain ⟨l0, a, rfl⟩ := snoc (l := l1) (by intro e; rw [e] at h; simp at h)
  exact ⟨l0, a, b, by simp⟩

/-- A heap that is as it was, up to so many objects. -/
theorem heap_low {h g H' : Heap} {z : AObj} (e : ∀ j, j < h.length + 1 → H'[j]? = (h ++ [z] ++ g)[j]?) (hl : h.length + 1 ≤ H'.length) : ∃ g', H' = h ++ [z] ++ g' := by
  refine ⟨H'.drop (h.length + 1), ?_⟩
  have : H'.take (h.length + 1) = h ++ [z] := by
    apply List.ext_getElem?
    intro j
    rw [List.getElem?_take]
    split
    · rename_i hj
      rw [e j hj, List.getElem?_append_left (by simp; omega)]
    · rw [List.getElem?_eq_none (by simp; omega)]
  conv => lhs; rw [← List.take_append_drop (h.length + 1) H', this]

theorem make_spec {s : ByteArray} (hs : s.size ≤ 10) (hp : ∀ b ∈ bytesN s, b % 8 < 6) {h : Heap} {Q : Value → Heap → Prop} (hq : ∀ n : Nd, n.Ok 20 → n.wt ≤ 1 + 6 ^ s.size → Q n.enc h) : acall Try.prog F_homographref02_Make [.string s] h Q := by
  apply W_homographref02_Make_ok
  unfold W_homographref02_Make
  refine ⟨MakeI h s, s.size, gcL_same ⟨0, .slice none 0 0, [], [], rfl, by rw [List.append_nil], rfl, by omega, Acc.nil, ⟨by simp, by simp [Nd.wts], by simp⟩⟩, ?_⟩
  rintro k x6 x7 x8 x9 H ⟨i, v, g, l, hv, rfl, hk, hi, ac, hst⟩
  simp only [List.cons.injEq, and_true] at hv
  obtain ⟨rfl, rfl, rfl, rfl⟩ := hv
  have hB : (h ++ [zrow8]).length = h.length + 1 := by simp
  rw [lenStr_str, oW_some, n_lss, oW_some, bW_dec]
  constructor
  · intro hlt
    have hlt' : i < s.size := by omega
    have hb := byte_lt hlt'
    have hlb : i < (bytesN s).length := by rw [bytesN_len]; exact hlt'
    have hb6 : (bytesN s)[i]! % 8 < 6 := by rw [getElem!_pos (bytesN s) i hlb]; exact hp _ (List.getElem_mem _)
    generalize hc : (bytesN s)[i]! = c at hb hb6
    refine ixS_str hlt' ?_
    rw [hc]
    have hl := hst.2.2
    have cv : ∀ x : Nat, x < 256 → cvI .i64 (byte x) = some (.int .i64 (x : Int)) := fun x hx => by
      simp only [cvI]; rw [wrap_i64 (by omega)]
    have cu : ∀ x : Nat, x < 256 → cvI .u8 (.int .i64 (x : Int)) = some (byte x) := fun x hx => by
      simp only [cvI]; rw [wrap_u8 (by omega)]
    have q8 : binN .quo (.int .i64 (c : Int)) (.int .i64 8) = some (.int .i64 ((c / 8 : Nat) : Int)) := by
      have e : (c : Int).tdiv 8 = ((c / 8 : Nat) : Int) := by rw [Int.tdiv_eq_ediv_of_nonneg (by omega)]; omega
      rw [n_quo (by omega) (by rw [e]; omega), e]
    have q24 : binN .quo (.int .i64 (c : Int)) (.int .i64 24) = some (.int .i64 ((c / 24 : Nat) : Int)) := by
      have e : (c : Int).tdiv 24 = ((c / 24 : Nat) : Int) := by rw [Int.tdiv_eq_ediv_of_nonneg (by omega)]; omega
      rw [n_quo (by omega) (by rw [e]; omega), e]
    have r3 : ∀ x : Nat, binN .rem (.int .i64 (x : Int)) (.int .i64 3) = some (.int .i64 ((x % 3 : Nat) : Int)) := fun x => by
      have e : (x : Int).tmod 3 = ((x % 3 : Nat) : Int) := by rw [Int.tmod_eq_emod_of_nonneg (by omega)]; omega
      rw [n_rem (by omega), e]
    have r8 : binN .rem (.int .i64 (c : Int)) (.int .i64 8) = some (.int .i64 ((c % 8 : Nat) : Int)) := by
      have e : (c : Int).tmod 8 = ((c % 8 : Nat) : Int) := by rw [Int.tmod_eq_emod_of_nonneg (by omega)]; omega
      rw [n_rem (by omega), e]
    have a97 : binN .add (.int .i64 97) (.int .i64 ((c / 8 % 3 : Nat) : Int)) = some (.int .i64 ((97 + c / 8 % 3 : Nat) : Int)) := by rw [n_add (by omega)]; congr 2
    rw [cv c hb, oW_some, ac.len, oW_some, show bldW [(.int .u64 0), (.int .u64 0), (.int .u64 0), (.int .u64 0)] [] = some BS.none.enc from rfl, oW_some, q8, oW_some, r3, oW_some, a97, oW_some, cu _ (by omega), oW_some]
    refine callW_plain.2 (with_spec (by omega) (callW_plain.2 (setN_spec ?_)))
    rw [letH_eq]
    refine boxN ?_
    have eH : ∀ o : AObj, h ++ [zrow8] ++ g ++ [o] = h ++ [zrow8] ++ (g ++ [o]) := fun o => by simp
    have a1 : ∀ o : AObj, Acc 8 (h.length + 1) (h ++ [zrow8] ++ g ++ [o]) x8 (l.map Nd.enc) := fun o => ac.app
    have rl : getRow (h ++ [zrow8] ++ g ++ [AObj.row (cellsOf (letterN (BS.none.with_ (97 + c / 8 % 3))).enc) .exact]) (h ++ [zrow8] ++ g).length = some (cellsOf (letterN (BS.none.with_ (97 + c / 8 % 3))).enc, .exact) := by rw [row_app0]; rfl
    have a2 := a1 (AObj.row (cellsOf (letterN (BS.none.with_ (97 + c / 8 % 3))).enc) .exact)
    rw [eH] at a2 rl ⊢
    generalize g ++ [AObj.row (cellsOf (letterN (BS.none.with_ (97 + c / 8 % 3))).enc) .exact] = g2 at *
    generalize hlp : (h ++ [zrow8] ++ g).length = lp at *
    have hml : (l.map Nd.enc).length = l.length := by simp
    rw [hml]
    have adv : ∀ (l' : List Nd) (v' : Value) (g' : Heap), StkOk (i + 1) l' → Acc 8 (h.length + 1) (h ++ [zrow8] ++ g') v' (l'.map Nd.enc) →
        oW (binN .add (.int .i64 (i : Int)) (.int .i64 1)) fun v58 => ∃ m4, m4 < k ∧ gcL h (MakeI h s m4) [.string s, pAt h.length, v', v58] (h ++ [zrow8] ++ g') := fun l' v' g' q1 q2 => by
      rw [n_add (by omega), oW_some]
      exact ⟨s.size - (i + 1), by omega, gcL_same ⟨i + 1, v', g', l', by simp, rfl, rfl, by omega, q2, q1⟩⟩
    have advH : ∀ (l' : List Nd) (v' : Value) (H' : Heap), StkOk (i + 1) l' → Acc 8 (h.length + 1) H' v' (l'.map Nd.enc) → (∀ j, j < h.length + 1 → H'[j]? = (h ++ [zrow8] ++ g2)[j]?) → h.length + 1 ≤ H'.length →
        oW (binN .add (.int .i64 (i : Int)) (.int .i64 1)) fun v58 => ∃ m4, m4 < k ∧ gcL h (MakeI h s m4) [.string s, pAt h.length, v', v58] H' := fun l' v' H' q1 q2 q3 q4 => by
      obtain ⟨g', rfl⟩ := heap_low q3 q4
      exact adv l' v' g' q1 q2
    have lo2 : h.length + 1 ≤ (h ++ [zrow8] ++ g2).length := by simp
    refine ⟨fun vs H => vs = [.string s, pAt h.length, x8, .int .i64 (i : Int), .int .i64 (c : Int), .int .i64 (l.length : Int), .pointer (some ⟨lp, 0, none⟩), .bool (decide (c % 8 = 3 ∧ 1 < l.length))] ∧ H = h ++ [zrow8] ++ g2, ?_, ?_⟩
    · rw [r8, oW_some, n_eql, oW_some, bW_dec]
      refine ⟨fun e => ?_, fun e => gcL_same ⟨by rw [decide_eq_false (by omega)], rfl⟩⟩
      have e1 : decide (1 < (l.length : Int)) = decide (c % 8 = 3 ∧ 1 < l.length) := by rw [decide_eq_decide]; omega
      rw [n_gtr, oW_some, e1]
      exact gcL_same ⟨rfl, rfl⟩
    rintro x31 x32 x33 x34 x35 x36 x37 x38 H ⟨hv, rfl⟩
    simp only [List.cons.injEq, and_true] at hv
    obtain ⟨rfl, rfl, rfl, rfl, rfl, rfl, rfl, rfl⟩ := hv
    rw [bW_dec]
    constructor
    · rintro ⟨e3, e1⟩
      obtain ⟨l0, a, b, rfl⟩ := snoc2 e1
      have e2 : (l0 ++ [a, b]).length = l0.length + 2 := by simp
      rw [e2]
      refine pairW (op := 1) (by simp at hl; omega) lo2 a2 fun v' H' q1 q2 q3 => ?_
      exact advH _ v' H' (stk_pair hst (.inl rfl)) q1 q2 q3
    intro n3
    refine ⟨fun vs H => vs = [.string s, pAt h.length, x33, .int .i64 (i : Int), .int .i64 (c : Int), .int .i64 (l.length : Int), .pointer (some ⟨lp, 0, none⟩), .bool (decide (c % 8 = 4 ∧ 1 < l.length))] ∧ H = h ++ [zrow8] ++ g2, ?_, ?_⟩
    · rw [r8, oW_some, n_eql, oW_some, bW_dec]
      refine ⟨fun e => ?_, fun e => gcL_same ⟨by rw [decide_eq_false (by omega)], rfl⟩⟩
      have e1 : decide (1 < (l.length : Int)) = decide (c % 8 = 4 ∧ 1 < l.length) := by rw [decide_eq_decide]; omega
      rw [n_gtr, oW_some, e1]
      exact gcL_same ⟨rfl, rfl⟩
    rintro x63 x64 x65 x66 x67 x68 x69 x70 H ⟨hv, rfl⟩
    simp only [List.cons.injEq, and_true] at hv
    obtain ⟨rfl, rfl, rfl, rfl, rfl, rfl, rfl, rfl⟩ := hv
    rw [bW_dec]
    constructor
    · rintro ⟨e3, e1⟩
      obtain ⟨l0, a, b, rfl⟩ := snoc2 e1
      have e2 : (l0 ++ [a, b]).length = l0.length + 2 := by simp
      rw [e2]
      refine pairW (op := 2) (by simp at hl; omega) lo2 a2 fun v' H' q1 q2 q3 => ?_
      exact advH _ v' H' (stk_pair hst (.inr rfl)) q1 q2 q3
    intro n4
    refine ⟨fun vs H => vs = [.string s, pAt h.length, x65, .int .i64 (i : Int), .int .i64 (c : Int), .int .i64 (l.length : Int), .pointer (some ⟨lp, 0, none⟩), .bool (decide (c % 8 = 5 ∧ 0 < l.length))] ∧ H = h ++ [zrow8] ++ g2, ?_, ?_⟩
    · rw [r8, oW_some, n_eql, oW_some, bW_dec]
      refine ⟨fun e => ?_, fun e => gcL_same ⟨by rw [decide_eq_false (by omega)], rfl⟩⟩
      have e1 : decide (0 < (l.length : Int)) = decide (c % 8 = 5 ∧ 0 < l.length) := by rw [decide_eq_decide]; omega
      rw [n_gtr, oW_some, e1]
      exact gcL_same ⟨rfl, rfl⟩
    rintro x95 x96 x97 x98 x99 x100 x101 x102 H ⟨hv, rfl⟩
    simp only [List.cons.injEq, and_true] at hv
    obtain ⟨rfl, rfl, rfl, rfl, rfl, rfl, rfl, rfl⟩ := hv
    rw [bW_dec]
    constructor
    · rintro ⟨e3, e1⟩
      obtain ⟨l0, a, rfl⟩ := snoc (l := l) (by intro e; rw [e] at e1; simp at e1)
      have e2 : (l0 ++ [a]).length = l0.length + 1 := by simp
      rw [e2]
      have s1 : binN .sub (.int .i64 ((l0.length + 1 : Nat) : Int)) (.int .i64 1) = some (.int .i64 (l0.length : Int)) := by simp at hl; rw [n_sub (by omega)]; congr 2; omega
      have ad : binN .add (.int .i64 ((c / 8 % 3 : Nat) : Int)) (.int .i64 ((c / 24 % 3 : Nat) : Int)) = some (.int .i64 ((c / 8 % 3 + c / 24 % 3 : Nat) : Int)) := by rw [n_add (by omega)]; congr 2
      rw [q8, oW_some, r3, oW_some, q24, oW_some, r3, oW_some, ad, oW_some, n_geq, oW_some, bW_dec]
      have rep : ∀ (b : Int), b ≤ ((c / 8 % 3 : Nat) : Int) + 2 → (b < 0 ∨ ((c / 8 % 3 : Nat) : Int) ≤ b) →
          (oW (binN .sub (.int .i64 ((l0.length + 1 : Nat) : Int)) (.int .i64 1)) fun v110 =>
          (oW (binN .sub (.int .i64 ((l0.length + 1 : Nat) : Int)) (.int .i64 1)) fun v111 =>
          (oW (iaS 8 x97 v111) fun v112 =>
          (oW (ldW true 8 (h ++ [zrow8] ++ g2) v112) fun v113 =>
          (callW Try.prog (fn F_homographref02_Rep) [v113, .int .i64 ((c / 8 % 3 : Nat) : Int), .int .i64 b] (h ++ [zrow8] ++ g2) fun v114 h115 =>
          (oW (iaS 8 x97 v110) fun v116 =>
          (sW (stW 8 h115 v116 v114) fun h117 =>
          (oW (binN .add (.int .i64 (i : Int)) (.int .i64 1)) fun v118 =>
          (∃ m4, m4 < k ∧ gcL h (MakeI h s m4) [.string s, pAt h.length, x97, v118] h117))))))))) := fun b hb1 hb2 => by
        have ga : ((l0 ++ [a]).map Nd.enc)[l0.length]'(by simp) = a.enc := by simp
        rw [s1, oW_some, oW_some]
        refine a2.at_ (by omega) Nd.map_len (j := l0.length) (by simp) (fun _ => by rw [ga]; obtain ⟨cs, q, _⟩ := a.enc_agg; exact ⟨cs, q⟩) (fun q => by cases q) ?_
        rw [ga]
        refine callW_plain.2 (rep_spec ?_)
        refine Acc.setT lo2 a2 (by omega) Nd.map_len (Nd.enc_len _) (Nd.enc_okv _) (Nd.enc_ok _) (j := l0.length) (by simp) fun H' q1 q2 q3 => ?_
        have e7 : ((l0 ++ [a]).map Nd.enc).set l0.length (Nd.mk 3 BS.none ((c / 8 % 3 : Nat) : Int) b [a]).enc = (l0 ++ [Nd.mk 3 BS.none ((c / 8 % 3 : Nat) : Int) b [a]]).map Nd.enc := by
          rw [← List.map_set]
          congr 1
          simp
        rw [e7] at q1
        exact advH _ _ H' (stk_rep hst (by omega) (by omega) hb1 hb2) q1 (fun j hj => q2 j fun q => by have := a2.ge q; omega) q3
      exact ⟨fun _ => rep (-1) (by omega) (.inl (by omega)), fun _ => rep _ (by omega) (.inr (by omega))⟩
    intro n5
    refine ⟨fun vs H => vs = [.string s, pAt h.length, x97, .int .i64 (i : Int), .int .i64 (c : Int), .int .i64 (l.length : Int), .pointer (some ⟨lp, 0, none⟩), .bool false] ∧ H = h ++ [zrow8] ++ g2, ?_, ?_⟩
    · rw [r8, oW_some, n_eql, oW_some, bW_dec]
      exact ⟨fun e => by omega, fun e => gcL_same ⟨rfl, rfl⟩⟩
    rintro x132 x133 x134 x135 x136 x137 x138 x139 H ⟨hv, rfl⟩
    simp only [List.cons.injEq, and_true] at hv
    obtain ⟨rfl, rfl, rfl, rfl, rfl, rfl, rfl, rfl⟩ := hv
    rw [bW_false, r8, oW_some, n_eql, oW_some, bW_dec]
    refine ⟨fun e => by omega, fun n7 => ?_⟩
    rw [bW_false, oW_some, n_eql, oW_some, bW_dec]
    constructor
    · intro e2
      rw [q8, oW_some, r3, oW_some, a97, oW_some, cu _ (by omega), oW_some]
      refine callW_plain.2 (range_spec (a := 97) (by omega) (by omega) fun st => callW_plain.2 (setN_spec ?_))
      refine Acc.pushT lo2 a2 (by omega) Nd.map_len (Nd.enc_len _) (Nd.enc_okv _) (Nd.enc_ok _) rfl (by simp; omega) (by simp; omega) fun v' H' q1 q2 q3 q4 => ?_
      exact advH (l ++ [letterN st]) v' H' (stk_push hst) (by simpa using q1) (fun j hj => q2 j (by omega) fun q => by have := a2.ge q; omega) (by omega)
    · intro n2
      rw [show Value.pointer (some ⟨lp, 0, none⟩) = pAt lp from rfl, ldN rl, oW_some]
      refine Acc.pushT lo2 a2 (by omega) Nd.map_len (Nd.enc_len _) (Nd.enc_okv _) (Nd.enc_ok _) rfl (by simp; omega) (by simp; omega) fun v' H' q1 q2 q3 q4 => ?_
      exact advH (l ++ [letterN (BS.none.with_ (97 + c / 8 % 3))]) v' H' (stk_push hst) (by simpa using q1) (fun j hj => q2 j (by omega) fun q => by have := a2.ge q; omega) (by omega)
  · intro hge
    have hil : i = s.size := by omega
    subst hil
    rw [ac.len, oW_some, n_eql, oW_some, bW_dec]
    simp only [List.length_map]
    constructor
    · intro h1
      obtain ⟨a, rfl⟩ := List.length_eq_one_iff.1 (show l.length = 1 by omega)
      refine ac.at_ (j := 0) (by omega) Nd.map_len (by simp) (fun _ => by obtain ⟨cs, q, _⟩ := a.enc_agg; exact ⟨cs, by simpa using q⟩) (fun q => by cases q) ?_
      refine retN (hq a ((hst.1 a (by simp)).mono (by omega)) ?_)
      have := hst.2.1
      rw [wts_one] at this; omega
    · intro h1
      obtain ⟨fr, r, g', f1, f2, f3, f4, f5⟩ := ac.frz hB (by omega) Nd.map_len Nd.map_cl
      refine callW_plain.2 (acall_frz f1 (args2 := [.int .i64 1, lit (l.map Nd.enc)]) ⟨.cl (.int _ _), f2, trivial⟩ (many_spec ?_))
      have hll := hst.2.2
      refine retN (hq _ ((ok_many (.inl rfl) (by omega) hst.1).mono (by omega)) ?_)
      rw [wt_many (.inl rfl)]
      have := hst.2.1
      omega

end Go.Ax
