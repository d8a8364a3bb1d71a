/- Contracts of the patterns' making, and of matching; the plain laws. -/
import Derived.Test.YthhknneomcleoaaT2
namespace Go.Ax
open Go Go.Proofs Go.RowKit

abbrev letterN (s : BS) : Nd := .mk 0 s 0 0 []
theorem ixS_str {s : ByteArray} {i : Nat} (h : i < s.size) {K : Value → Prop} (k : K (byte (bytesN s)[i]!)) : oW (ixS (.string s) (.int .i64 (i : Int))) K := by
  have hsz : i < s.data.toList.length := h
  refine ⟨_, ?_, k⟩
  simp only [ixS]
  rw [if_pos (by omega)]
  have e1 : s[(i : Int).toNat]? = some s.data.toList[i] := by
    simp only [Int.toNat_natCast]
    rw [getElem?_pos s i h]; rfl
  rw [e1]
  rw [getElem!_pos (bytesN s) i (by simp [bytesN]; exact h)]
  simp [bytesN]
theorem byte_lt {s : ByteArray} {i : Nat} (h : i < s.size) : (bytesN s)[i]! < 256 := by
  have hsz : i < s.data.toList.length := h
  have e : (bytesN s)[i]! = s.data.toList[i].toNat := by
    rw [getElem!_pos (bytesN s) i (by simp [bytesN]; exact h)]
    simp [bytesN]
  rw [e]; exact UInt8.toNat_lt _
theorem bytesN_len {s : ByteArray} : (bytesN s).length = s.size := by simp [bytesN]

abbrev zrow8 : AObj := .row [.int .i64 0, .int .u64 0, .int .u64 0, .int .u64 0, .int .u64 0, .int .i64 0, .int .i64 0, .slice none 0 0] .exact
abbrev litN (l : List Nat) : Nd := .mk 1 BS.none 0 0 (l.map fun b => letterN (BS.none.with_ b))

def LitI (h : Heap) (s : ByteArray) (k : Nat) (vs : List Value) (H : Heap) : Prop :=
  ∃ (i : Nat) (v : Value) (g : Heap), vs = [.string s, pAt h.length, v, .int .i64 (i : Int)] ∧ H = h ++ [zrow8] ++ g ∧ k = s.size - i ∧ i ≤ s.size ∧ Acc 8 (h.length + 1) H v ((((bytesN s).take i).map fun b => letterN (BS.none.with_ b)).map Nd.enc)

/-- The end of a function that gives a pattern by name. -/
theorem retN {h g : Heap} {n : Nd} {Q : Value → Heap → Prop} (hq : Q n.enc h) :
    sW (stW 8 (h ++ [zrow8] ++ g) (pAt h.length) n.enc) fun h1 => oW (ldP true 8 h1 (pAt h.length)) fun v => gcV h Q v h1 := by
  have hr : getRow (h ++ [zrow8] ++ g) h.length = some ([.int .i64 0, .int .u64 0, .int .u64 0, .int .u64 0, .int .u64 0, .int .i64 0, .int .i64 0, .slice none 0 0], .exact) := by rw [List.append_assoc, row_app0]; rfl
  rw [st_row hr (by simp) n.enc_okv n.enc_len n.enc_ok (by simp), sW_some, writeL_all (by rw [n.enc_len]; rfl), ldP_agg, getRow_set hr, Option.bind_some]
  have hl := n.enc_len
  rw [if_pos (by simp; omega), oW_some]
  obtain ⟨cs, e1, e2⟩ := n.enc_agg
  have e3 : Value.agg (((cellsOf n.enc).drop 0).take 8).toArray = n.enc := by
    rw [List.drop_zero, List.take_of_length_le (by omega), e1]; simp
  rw [e3, List.append_assoc, set_app0]
  exact gcV_end (.cl n.cl) hq

theorem lit_spec {s : ByteArray} (hs : s.size ≤ 1000000) {h : Heap} {Q : Value → Heap → Prop} (hq : Q (litN (bytesN s)).enc h) : acall Try.prog F_homographref02_Lit [.string s] h Q := by
  apply W_homographref02_Lit_ok
  unfold W_homographref02_Lit
  refine ⟨LitI h s, s.size, gcL_same ⟨0, .slice none 0 0, [], rfl, by rw [List.append_nil], rfl, by omega, by simpa using Acc.nil⟩, ?_⟩
  rintro k x6 x7 x8 x9 H ⟨i, v, g, hv, rfl, hk, hi, ac⟩
  simp only [List.cons.injEq, and_true] at hv
  obtain ⟨rfl, rfl, rfl, rfl⟩ := hv
  have hB : (h ++ [zrow8]).length = h.length + 1 := by simp
  rw [lenStr_str, oW_some, n_lss, oW_some, bW_dec]
  constructor
  · intro hlt
    have hlt' : i < s.size := by omega
    have hb := byte_lt hlt'
    have hlb : i < (bytesN s).length := by rw [bytesN_len]; exact hlt'
    have htk : (bytesN s).take (i + 1) = (bytesN s).take i ++ [(bytesN s)[i]!] := by
      rw [List.take_add_one, List.getElem?_eq_getElem hlb, List.getElem!_eq_getElem?_getD, List.getElem?_eq_getElem hlb]; rfl
    rw [show bldW [(.int .u64 0), (.int .u64 0), (.int .u64 0), (.int .u64 0)] [] = some BS.none.enc from rfl, oW_some]
    refine ixS_str hlt' ?_
    refine callW_plain.2 (with_spec hb (callW_plain.2 (setN_spec ?_)))
    have hlen : (((bytesN s).take i).map fun b => letterN (BS.none.with_ b)).length ≤ i := by simp; omega
    refine Acc.push hB ac (by omega) Nd.map_len (Nd.enc_len _) (Nd.enc_okv _) (Nd.enc_ok _) rfl (by simp; omega) (by simp; omega) fun v' g' a2 _ _ _ => ?_
    rw [n_add (by omega), oW_some]
    refine ⟨s.size - (i + 1), by omega, gcL_same ⟨i + 1, v', g', by simp, rfl, rfl, by omega, ?_⟩⟩
    rw [htk, List.map_append, List.map_append]
    exact a2
  · intro hge
    have hil : i = s.size := by omega
    subst hil
    have hbn : (bytesN s).take s.size = bytesN s := List.take_of_length_le (by simp)
    rw [hbn] at ac
    obtain ⟨fr, r, g', f1, f2, f3, f4, f5⟩ := ac.frz hB (by omega) Nd.map_len Nd.map_cl
    refine callW_plain.2 (acall_frz f1 (args2 := [.int .i64 1, lit (((bytesN s).map fun b => letterN (BS.none.with_ b)).map Nd.enc)]) ⟨.cl (.int _ _), f2, trivial⟩ (many_spec ?_))
    exact retN hq

abbrev zrow4 : AObj := .row [.int .u64 0, .int .u64 0, .int .u64 0, .int .u64 0] .exact
def RangeI (h : Heap) (a b : Nat) (k : Nat) (vs : List Value) (H : Heap) : Prop :=
  ∃ (i : Nat) (s : BS), vs = [byte b, pAt h.length, pAt (h.length + 1), .int .i64 (i : Int)] ∧ H = h ++ [zrow4, .row s.cells .exact] ∧ k = 300 - i ∧ i ≤ 256

theorem range_spec {a b : Nat} (ha : a < 256) (hb : b < 256) {h : Heap} {Q : Value → Heap → Prop} (hq : ∀ s : BS, Q s.enc h) : acall Try.prog F_homographref01_Range [byte a, byte b] h Q := by
  apply W_homographref01_Range_ok
  unfold W_homographref01_Range
  have cv : ∀ x : Nat, x < 256 → cvI .i64 (byte x) = some (.int .i64 (x : Int)) := fun x hx => by
    simp only [cvI]; rw [wrap_i64 (by omega)]
  rw [cv a ha, letH_eq, letH_eq, oW_some]
  refine ⟨RangeI h a b, 300 - a, gcL_same ⟨a, BS.none, by simp, by simp [zrow4, BS.cells, BS.none], rfl, by omega⟩, ?_⟩
  rintro k x8 x9 x10 x11 H ⟨i, s, hv, rfl, hk, hi⟩
  simp only [List.cons.injEq, and_true] at hv
  obtain ⟨rfl, rfl, rfl, rfl⟩ := hv
  have hr : getRow (h ++ [zrow4, .row s.cells .exact]) (h.length + 1) = some (s.cells, .exact) := by rw [row_app]; rfl
  have ld : ldW true 4 (h ++ [zrow4, .row s.cells .exact]) (pAt (h.length + 1)) = some s.enc := by rw [ldW_agg, hr]; rfl
  rw [cv b hb, oW_some, n_leq, oW_some, bW_dec]
  constructor
  · intro hle
    rw [ld, oW_some]
    have cu : cvI .u8 (.int .i64 (i : Int)) = some (byte i) := by simp only [cvI]; rw [wrap_u8 (by omega)]
    rw [cu, oW_some]
    refine callW_plain.2 (with_spec (by omega) ?_)
    rw [show (s.with_ i).enc = .agg (s.with_ i).cells.toArray from rfl, stW_agg, hr, Option.bind_some, if_pos (by simp [BS.cells]), sW_some, n_add (by omega), oW_some]
    refine ⟨300 - (i + 1), by omega, gcL_same ⟨i + 1, s.with_ i, by simp, ?_, rfl, by omega⟩⟩
    rw [set_app]; rfl
  · intro hgt
    rw [ld, oW_some, show s.enc = .agg s.cells.toArray from rfl, stW_agg]
    have hr0 : getRow (h ++ [zrow4, .row s.cells .exact]) h.length = some ([.int .u64 0, .int .u64 0, .int .u64 0, .int .u64 0], .exact) := by rw [row_app0]; rfl
    rw [hr0, Option.bind_some, if_pos (by simp [BS.cells]), sW_some, ldP_agg, getRow_set hr0, Option.bind_some, if_pos (by simp [BS.cells, writeL]), oW_some, set_app0]
    exact gcV_end (v2 := s.enc) (.cl (.agg _ (by simp [BS.cells]; exact ⟨.int _ _, .int _ _, .int _ _, .int _ _⟩))) (hq s)

end Go.Ax

namespace Go.Ax
open Go Go.Proofs Go.RowKit

/-- Patterns that may be, so deep. -/
def Nd.Ok (d : Nat) (n : Nd) : Prop := n.may d = true ∧ n.plain = true ∧ n.Fin
theorem may_mono : ∀ {d : Nat} {n : Nd}, n.may d = true → n.may (d + 1) = true
  | 0, n, h => by rw [Nd.may] at h; cases h
  | d + 1, .mk op s mn mx ks, h => by
    rw [Nd.may] at h ⊢
    simp only [Bool.and_eq_true, List.all_eq_true] at h ⊢
    exact ⟨h.1, fun k hk => may_mono (h.2 k hk)⟩
theorem Nd.Ok.mono {d e : Nat} {n : Nd} (h : n.Ok d) (he : d ≤ e) : n.Ok e := by
  induction he with
  | refl => exact h
  | step _ ih => exact ⟨may_mono ih.1, ih.2⟩
theorem ok_letter {s : BS} {d : Nat} : (letterN s).Ok (d + 1) := ⟨by simp [Nd.may, Nd.cnt], by simp [Nd.plain, Nd.plains], .mk (by simp) (by simp)⟩
theorem ok_many {op : Int} {ks : List Nd} {d : Nat} (ho : op = 1 ∨ op = 2) (hl : ks.length ≤ 1000000000) (hk : ∀ k ∈ ks, k.Ok d) : (Nd.mk op BS.none 0 0 ks).Ok (d + 1) := by
  refine ⟨?_, ?_, .mk hl fun k h => (hk k h).2.2⟩
  · rw [Nd.may]
    simp only [Nd.cnt, Bool.and_eq_true, List.all_eq_true]
    refine ⟨?_, fun k h => (hk k h).1⟩
    rcases ho with rfl | rfl <;> simp
  · rw [Nd.plain, Nd.plains_eq]
    simp only [Bool.and_eq_true, List.all_eq_true]
    refine ⟨?_, fun k h => (hk k h).2.1⟩
    rcases ho with rfl | rfl <;> simp
theorem ok_rep {k : Nd} {a b : Int} {d : Nat} (h1 : 0 ≤ a) (h2 : a ≤ 32) (h3 : b ≤ 32) (h4 : b < 0 ∨ a ≤ b) (hk : k.Ok d) : (Nd.mk 3 BS.none a b [k]).Ok (d + 1) := by
  refine ⟨?_, ?_, .mk (by simp) fun k' h => by simp at h; subst h; exact hk.2.2⟩
  · rw [Nd.may]
    simp only [Nd.cnt, Bool.and_eq_true, List.all_eq_true, Bool.or_eq_true, decide_eq_true_eq]
    refine ⟨?_, fun k' h => by simp at h; subst h; exact hk.1⟩
    simp; omega
  · rw [Nd.plain, Nd.plains_eq]
    simp [hk.2.1]
theorem wts_append : ∀ {a b : List Nd}, Nd.wts (a ++ b) = Nd.wts a + Nd.wts b
  | [], b => by simp [Nd.wts]
  | k :: a, b => by rw [List.cons_append, Nd.wts, Nd.wts, wts_append]; omega
theorem wts_one {n : Nd} : Nd.wts [n] = n.wt := by simp [Nd.wts]
theorem wts_two {a b : Nd} : Nd.wts [a, b] = a.wt + b.wt := by simp [Nd.wts]
theorem wt_letter {s : BS} : (letterN s).wt = 1 := by simp [Nd.wt, Nd.wts]
theorem wt_many {op : Int} {s : BS} {ks : List Nd} (h : op = 1 ∨ op = 2) : (Nd.mk op s 0 0 ks).wt = 1 + Nd.wts ks := by rw [Nd.wt, if_neg (by omega)]

/-- The row of patterns after so many bytes. -/
def StkOk (i : Nat) (l : List Nd) : Prop := (∀ n ∈ l, n.Ok (i + 1)) ∧ Nd.wts l ≤ 6 ^ i ∧ l.length ≤ i
theorem stk_push {i : Nat} {l : List Nd} (h : StkOk i l) {s : BS} : StkOk (i + 1) (l ++ [letterN s]) := by
  refine ⟨fun n hn => ?_, ?_, by simp; exact h.2.2⟩
  · rcases List.mem_append.1 hn with q | q
    · exact (h.1 n q).mono (by omega)
    · simp at q; subst q; exact ok_letter
  · have := h.2.1
    rw [wts_append, wts_one, wt_letter, Nat.pow_succ]
    have : 1 ≤ 6 ^ i := Nat.pow_pos (by omega)
    omega
theorem stk_pair {i : Nat} {l : List Nd} {a b : Nd} (h : StkOk i (l ++ [a, b])) {op : Int} (ho : op = 1 ∨ op = 2) : StkOk (i + 1) (l ++ [.mk op BS.none 0 0 [a, b]]) := by
  refine ⟨fun n hn => ?_, ?_, by have := h.2.2; simp at this ⊢; omega⟩
  · rcases List.mem_append.1 hn with q | q
    · exact (h.1 n (by simp [q])).mono (by omega)
    · simp at q; subst q
      exact ok_many ho (by simp) fun k hk => h.1 k (by simp at hk ⊢; exact .inr hk)
  · have := h.2.1
    rw [wts_append, wts_two] at this
    rw [wts_append, wts_one, wt_many ho, wts_two, Nat.pow_succ]
    have : 1 ≤ 6 ^ i := Nat.pow_pos (by omega)
    omega
theorem stk_rep {i : Nat} {l : List Nd} {k : Nd} (h : StkOk i (l ++ [k])) {a b : Int} (h1 : 0 ≤ a) (h2 : a ≤ 2) (h3 : b ≤ a + 2) (h4 : b < 0 ∨ a ≤ b) : StkOk (i + 1) (l ++ [.mk 3 BS.none a b [k]]) := by
  refine ⟨fun n hn => ?_, ?_, by have := h.2.2; simp at this ⊢; omega⟩
  · rcases List.mem_append.1 hn with q | q
    · exact (h.1 n (by simp [q])).mono (by omega)
    · simp at q; subst q
      exact ok_rep h1 (by omega) (by omega) h4 (h.1 k (by simp))
  · have := h.2.1
    rw [wts_append, wts_one] at this
    rw [wts_append, wts_one, Nd.wt, if_pos rfl, wts_one, Nat.pow_succ]
    have hm : (a.toNat + (b - a).toNat + 1) * k.wt ≤ 5 * k.wt := Nat.mul_le_mul_right _ (by omega)
    have : 1 ≤ 6 ^ i := Nat.pow_pos (by omega)
    have := Nd.wt_pos (n := k)
    omega

theorem Acc.setT {sz n : Nat} {H : Heap} {v e : Value} {l : List Value} (hn : n ≤ H.length) (a : Acc sz n H v l) (hs : 0 < sz) (hz : ∀ x ∈ l, (cellsOf x).length = sz) (he : (cellsOf e).length = sz) (hk : okVal e = true) (hok : (cellsOf e).all okCell = true)
    {j : Nat} {k : IntKind} {K : Heap → Prop} (hj : j < l.length)
    (k1 : ∀ H', Acc sz n H' v (l.set j e) → (∀ j, ¬ lies v j → H'[j]? = H[j]?) → n ≤ H'.length → K H') : oW (iaS sz v (.int k (j : Int))) fun p => sW (stW sz H p e) K := by
  have hB : (H.take n).length = n := by simp; omega
  have eH : H = H.take n ++ H.drop n := (List.take_append_drop n H).symm
  have a' := a
  rw [eH] at a'
  have key := Acc.set hB a' hs hz he hk hok (k := k) hj (K := K) fun g' x1 x2 => by
    rw [← eH] at x2
    exact k1 _ x1 x2 (by rw [List.length_append, hB]; omega)
  rwa [← eH] at key
theorem fill2 {a b : Nd} : fillL [(.int .i64 0), (.int .u64 0), (.int .u64 0), (.int .u64 0), (.int .u64 0), (.int .i64 0), (.int .i64 0), (.slice none 0 0), (.int .i64 0), (.int .u64 0), (.int .u64 0), (.int .u64 0), (.int .u64 0), (.int .i64 0), (.int .i64 0), (.slice none 0 0)] [(0, 8, a.enc), (8, 8, b.enc)] = some (([a, b].map Nd.enc).flatMap cellsOf) := by
  cases a; cases b
  simp [Nd.enc_mk]

/-- Two patterns are put together. -/
theorem pairW {op : Int} {lo : Nat} {H : Heap} {v : Value} {l0 : List Nd} {a b : Nd} {K : Value → Heap → Prop} (hbig : l0.length + 2 ≤ 1000000000) (hlo : lo ≤ H.length) (ac : Acc 8 lo H v ((l0 ++ [a, b]).map Nd.enc))
    (k : ∀ v' H', Acc 8 lo H' v' ((l0 ++ [Nd.mk op BS.none 0 0 [a, b]]).map Nd.enc) → (∀ j, j < lo → H'[j]? = H[j]?) → lo ≤ H'.length → K v' H') :
    (oW (binN .sub (.int .i64 ((l0.length + 2 : Nat) : Int)) (.int .i64 2)) fun v40 =>
    (oW (iaS 8 v v40) fun v41 =>
    (oW (ldW true 8 H v41) fun v42 =>
    (oW (binN .sub (.int .i64 ((l0.length + 2 : Nat) : Int)) (.int .i64 1)) fun v43 =>
    (oW (iaS 8 v v43) fun v44 =>
    (oW (ldW true 8 H v44) fun v45 =>
    ((True) ∧
    (hW (bslW H 2 [(.int .i64 0), (.int .u64 0), (.int .u64 0), (.int .u64 0), (.int .u64 0), (.int .i64 0), (.int .i64 0), (.slice none 0 0), (.int .i64 0), (.int .u64 0), (.int .u64 0), (.int .u64 0), (.int .u64 0), (.int .i64 0), (.int .i64 0), (.slice none 0 0)] [(0, 8, v42), (8, 8, v45)]) fun v46 h47 =>
    (keptW [v44, v41] H h47 ∧
    ((True) ∧
    (callW Try.prog (fn F_homographref02_Many) [(.int .i64 op), v46] h47 fun v48 h49 =>
    (keptW [v44, v41] h47 h49 ∧
    (letH (h49 ++ [.row [(.int .i64 0), (.int .u64 0), (.int .u64 0), (.int .u64 0), (.int .u64 0), (.int .i64 0), (.int .i64 0), (.slice none 0 0)] .exact]) fun h50 =>
    (keptW [v44, v41] h49 h50 ∧
    (sW (stW 8 h50 (.pointer (some ⟨h49.length, 0, none⟩)) v48) fun h51 =>
    (oW (binN .sub (.int .i64 ((l0.length + 2 : Nat) : Int)) (.int .i64 1)) fun v52 =>
    (oW (slS 8 h51 v none (some v52) none) fun v53 =>
    (oW (binN .sub (.int .i64 ((l0.length + 2 : Nat) : Int)) (.int .i64 2)) fun v54 =>
    (oW (ldW true 8 h51 (.pointer (some ⟨h49.length, 0, none⟩))) fun v55 =>
    (oW (iaS 8 v53 v54) fun v56 =>
    (sW (stW 8 h51 v56 v55) fun h57 => K v53 h57))))))))))))))))))))) := by
  have hl := ac.len
  have ll : ((l0 ++ [a, b]).map Nd.enc).length = l0.length + 2 := by simp
  have s2 : binN .sub (.int .i64 ((l0.length + 2 : Nat) : Int)) (.int .i64 2) = some (.int .i64 (l0.length : Int)) := by rw [n_sub (by omega)]; congr 2; omega
  have s1 : binN .sub (.int .i64 ((l0.length + 2 : Nat) : Int)) (.int .i64 1) = some (.int .i64 ((l0.length + 1 : Nat) : Int)) := by rw [n_sub (by omega)]; congr 2; omega
  have ga : ((l0 ++ [a, b]).map Nd.enc)[l0.length]'(by rw [ll]; omega) = a.enc := by simp
  have gb : ((l0 ++ [a, b]).map Nd.enc)[l0.length + 1]'(by rw [ll]; omega) = b.enc := by simp
  have ldE : ∀ (G : Heap) {n : Nd} {i o : Nat} {c : List Value} {m : Md}, getRow G i = some (c, m) → o + 8 ≤ c.length → (c.drop o).take 8 = cellsOf n.enc → ldW true 8 G (.pointer (some ⟨i, o, none⟩)) = some n.enc := fun G n i o c m e1 e2 e3 => by
    obtain ⟨cs, q1, q2⟩ := n.enc_agg
    rw [ldW_agg, e1, Option.bind_some, if_pos e2, e3, q1]; simp
  rw [s2, oW_some]
  refine ac.ptr (by omega) Nd.map_len (j := l0.length) (by rw [ll]; omega) fun i1 o1 c1 m1 p1 p2 p3 p4 p5 p6 => ?_
  rw [ldE H p3 p5 (p6.trans (by rw [ga])), oW_some, s1, oW_some]
  refine ac.ptr (by omega) Nd.map_len (j := l0.length + 1) (by rw [ll]; omega) fun i2 o2 c2 m2 r1 r2 r3 r4 r5 r6 => ?_
  rw [ldE H r3 r5 (r6.trans (by rw [gb])), oW_some]
  have i1l := getRow_lt p3
  have i2l := getRow_lt r3
  have eb : bslW H 2 [(.int .i64 0), (.int .u64 0), (.int .u64 0), (.int .u64 0), (.int .u64 0), (.int .i64 0), (.int .i64 0), (.slice none 0 0), (.int .i64 0), (.int .u64 0), (.int .u64 0), (.int .u64 0), (.int .u64 0), (.int .i64 0), (.int .i64 0), (.slice none 0 0)] [(0, 8, a.enc), (8, 8, b.enc)] =
      some (.slice (some ⟨H.length, 0, none⟩) 2 2, H ++ [.row (([a, b].map Nd.enc).flatMap cellsOf) .exact]) := by
    simp only [bslW, fill2]; rfl
  rw [eb]
  refine ⟨trivial, hW_some.2 ⟨?_, trivial, ?_⟩⟩
  · rw [keptW_ptr, keptW_ptr]
    exact ⟨List.getElem?_append_left i2l, List.getElem?_append_left i1l, by rw [keptW_nil]; trivial⟩
  have am := Acc.made (sz := 8) (n := H.length) (H := H) (l := [a, b].map Nd.enc) Nd.map_len (Nat.le_refl _)
  obtain ⟨fr, r, g', f1, f2, f3, f4, f5⟩ := am.frz rfl (by omega) Nd.map_len Nd.map_cl
  refine callW_plain.2 (acall_frz f1 (args2 := [.int .i64 op, lit ([a, b].map Nd.enc)]) ⟨.cl (.int _ _), f2, trivial⟩ (many_spec ?_))
  refine ⟨?_, ?_⟩
  · rw [keptW_ptr, keptW_ptr]
    exact ⟨by rw [List.getElem?_append_left i2l, List.getElem?_append_left i2l], by rw [List.getElem?_append_left i1l, List.getElem?_append_left i1l], by rw [keptW_nil]; trivial⟩
  rw [letH_eq]
  refine ⟨?_, ?_⟩
  · rw [keptW_ptr, keptW_ptr]
    exact ⟨List.getElem?_append_left (by rw [List.length_append]; omega), List.getElem?_append_left (by rw [List.length_append]; omega), by rw [keptW_nil]; trivial⟩
  refine boxN ?_
  have a5 : Acc 8 lo (H ++ g' ++ [AObj.row (cellsOf (Nd.mk op BS.none 0 0 [a, b]).enc) .exact]) v ((l0 ++ [a, b]).map Nd.enc) := (ac.app (t := g')).app
  rw [oW_some]
  refine a5.pop (by omega) Nd.map_len (k := l0.length + 1) (by rw [ll]; omega) fun v' a6 hv' => ?_
  have e6 : ((l0 ++ [a, b]).map Nd.enc).take (l0.length + 1) = (l0 ++ [a]).map Nd.enc := by
    rw [← List.map_take]
    congr 1
    rw [List.take_append, List.take_of_length_le (by omega)]
    simp
  rw [e6] at a6
  rw [oW_some, ldN (n := Nd.mk op BS.none 0 0 [a, b]) (m := .exact) (by rw [row_app0]; rfl), oW_some]
  refine Acc.setT (by simp; omega) a6 (by omega) Nd.map_len (Nd.enc_len _) (Nd.enc_okv _) (Nd.enc_ok _) (j := l0.length) (by simp) fun H' a7 f7 f8 => k v' H' ?_ (fun j hj => ?_) f8
  · have e7 : ((l0 ++ [a]).map Nd.enc).set l0.length (Nd.mk op BS.none 0 0 [a, b]).enc = (l0 ++ [Nd.mk op BS.none 0 0 [a, b]]).map Nd.enc := by
      rw [← List.map_set]
      congr 1
      simp
    rwa [e7] at a7
  · rw [f7 j fun q => by have := a6.ge q; omega, List.append_assoc, List.getElem?_append_left (by omega)]

end Go.Ax

namespace Go.Ax
open Go Go.Proofs Go.RowKit

def MakeI (h : Heap) (s : ByteArray) (k : Nat) (vs : List Value) (H : Heap) : Prop :=
  ∃ (i : Nat) (v : Value) (g : Heap) (l : List Nd), vs = [.string s, pAt h.length, v, .int .i64 (i : Int)] ∧ H = h ++ [zrow8] ++ g ∧ k = s.size - i ∧ i ≤ s.size ∧ Acc 8 (h.length + 1) H v (l.map Nd.enc) ∧ StkOk i l

theorem snoc {α : Type} {l : List α} (h : l ≠ []) : ∃ l0 a, l = l0 ++ [a] := ⟨l.dropLast, l.getLast h, (List.dropLast_concat_getLast h).symm⟩
theorem snoc2 {α : Type} {l : List α} (h : 1 < l.length) : ∃ l0 a b, l = l0 ++ [a, b] := by
  obtain ⟨l1, b, rfl⟩ := snoc (l := l) (by intro e; rw [e] at h; simp at h)
  obtain ⟨l0, a, rfl⟩ := snoc (l := l1) (by intro e; rw [e] at h; simp at h)
  exact ⟨l0, a, b, by simp⟩

/-- A heap that is as it was, up to so many objects. -/
theorem heap_low {h g H' : Heap} {z : AObj} (e : ∀ j, j < h.length + 1 → H'[j]? = (h ++ [z] ++ g)[j]?) (hl : h.length + 1 ≤ H'.length) : ∃ g', H' = h ++ [z] ++ g' := by
  refine ⟨H'.drop (h.length + 1), ?_⟩
  have : H'.take (h.length + 1) = h ++ [z] := by
    apply List.ext_getElem?
    intro j
    rw [List.getElem?_take]
    split
    · rename_i hj
      rw [e j hj, List.getElem?_append_left (by simp; omega)]
    · rw [List.getElem?_eq_none (by simp; omega)]
  conv => lhs; rw [← List.take_append_drop (h.length + 1) H', this]

theorem make_spec {s : ByteArray} (hs : s.size ≤ 10) (hp : ∀ b ∈ bytesN s, b % 8 < 6) {h : Heap} {Q : Value → Heap → Prop} (hq : ∀ n : Nd, n.Ok 20 → n.wt ≤ 1 + 6 ^ s.size → Q n.enc h) : acall Try.prog F_homographref02_Make [.string s] h Q := by
  apply W_homographref02_Make_ok
  unfold W_homographref02_Make
  refine ⟨MakeI h s, s.size, gcL_same ⟨0, .slice none 0 0, [], [], rfl, by rw [List.append_nil], rfl, by omega, Acc.nil, ⟨by simp, by simp [Nd.wts], by simp⟩⟩, ?_⟩
  rintro k x6 x7 x8 x9 H ⟨i, v, g, l, hv, rfl, hk, hi, ac, hst⟩
  simp only [List.cons.injEq, and_true] at hv
  obtain ⟨rfl, rfl, rfl, rfl⟩ := hv
  have hB : (h ++ [zrow8]).length = h.length + 1 := by simp
  rw [lenStr_str, oW_some, n_lss, oW_some, bW_dec]
  constructor
  · intro hlt
    have hlt' : i < s.size := by omega
    have hb := byte_lt hlt'
    have hlb : i < (bytesN s).length := by rw [bytesN_len]; exact hlt'
    have hb6 : (bytesN s)[i]! % 8 < 6 := by rw [getElem!_pos (bytesN s) i hlb]; exact hp _ (List.getElem_mem _)
    generalize hc : (bytesN s)[i]! = c at hb hb6
    refine ixS_str hlt' ?_
    rw [hc]
    have hl := hst.2.2
    have cv : ∀ x : Nat, x < 256 → cvI .i64 (byte x) = some (.int .i64 (x : Int)) := fun x hx => by
      simp only [cvI]; rw [wrap_i64 (by omega)]
    have cu : ∀ x : Nat, x < 256 → cvI .u8 (.int .i64 (x : Int)) = some (byte x) := fun x hx => by
      simp only [cvI]; rw [wrap_u8 (by omega)]
    have q8 : binN .quo (.int .i64 (c : Int)) (.int .i64 8) = some (.int .i64 ((c / 8 : Nat) : Int)) := by
      have e : (c : Int).tdiv 8 = ((c / 8 : Nat) : Int) := by rw [Int.tdiv_eq_ediv_of_nonneg (by omega)]; omega
      rw [n_quo (by omega) (by rw [e]; omega), e]
    have q24 : binN .quo (.int .i64 (c : Int)) (.int .i64 24) = some (.int .i64 ((c / 24 : Nat) : Int)) := by
      have e : (c : Int).tdiv 24 = ((c / 24 : Nat) : Int) := by rw [Int.tdiv_eq_ediv_of_nonneg (by omega)]; omega
      rw [n_quo (by omega) (by rw [e]; omega), e]
    have r3 : ∀ x : Nat, binN .rem (.int .i64 (x : Int)) (.int .i64 3) = some (.int .i64 ((x % 3 : Nat) : Int)) := fun x => by
      have e : (x : Int).tmod 3 = ((x % 3 : Nat) : Int) := by rw [Int.tmod_eq_emod_of_nonneg (by omega)]; omega
      rw [n_rem (by omega), e]
    have r8 : binN .rem (.int .i64 (c : Int)) (.int .i64 8) = some (.int .i64 ((c % 8 : Nat) : Int)) := by
      have e : (c : Int).tmod 8 = ((c % 8 : Nat) : Int) := by rw [Int.tmod_eq_emod_of_nonneg (by omega)]; omega
      rw [n_rem (by omega), e]
    have a97 : binN .add (.int .i64 97) (.int .i64 ((c / 8 % 3 : Nat) : Int)) = some (.int .i64 ((97 + c / 8 % 3 : Nat) : Int)) := by rw [n_add (by omega)]; congr 2
    rw [cv c hb, oW_some, ac.len, oW_some, show bldW [(.int .u64 0), (.int .u64 0), (.int .u64 0), (.int .u64 0)] [] = some BS.none.enc from rfl, oW_some, q8, oW_some, r3, oW_some, a97, oW_some, cu _ (by omega), oW_some]
    refine callW_plain.2 (with_spec (by omega) (callW_plain.2 (setN_spec ?_)))
    rw [letH_eq]
    refine boxN ?_
    have eH : ∀ o : AObj, h ++ [zrow8] ++ g ++ [o] = h ++ [zrow8] ++ (g ++ [o]) := fun o => by simp
    have a1 : ∀ o : AObj, Acc 8 (h.length + 1) (h ++ [zrow8] ++ g ++ [o]) x8 (l.map Nd.enc) := fun o => ac.app
    have rl : getRow (h ++ [zrow8] ++ g ++ [AObj.row (cellsOf (letterN (BS.none.with_ (97 + c / 8 % 3))).enc) .exact]) (h ++ [zrow8] ++ g).length = some (cellsOf (letterN (BS.none.with_ (97 + c / 8 % 3))).enc, .exact) := by rw [row_app0]; rfl
    have a2 := a1 (AObj.row (cellsOf (letterN (BS.none.with_ (97 + c / 8 % 3))).enc) .exact)
    rw [eH] at a2 rl ⊢
    generalize g ++ [AObj.row (cellsOf (letterN (BS.none.with_ (97 + c / 8 % 3))).enc) .exact] = g2 at *
    generalize hlp : (h ++ [zrow8] ++ g).length = lp at *
    have hml : (l.map Nd.enc).length = l.length := by simp
    rw [hml]
    have adv : ∀ (l' : List Nd) (v' : Value) (g' : Heap), StkOk (i + 1) l' → Acc 8 (h.length + 1) (h ++ [zrow8] ++ g') v' (l'.map Nd.enc) →
        oW (binN .add (.int .i64 (i : Int)) (.int .i64 1)) fun v58 => ∃ m4, m4 < k ∧ gcL h (MakeI h s m4) [.string s, pAt h.length, v', v58] (h ++ [zrow8] ++ g') := fun l' v' g' q1 q2 => by
      rw [n_add (by omega), oW_some]
      exact ⟨s.size - (i + 1), by omega, gcL_same ⟨i + 1, v', g', l', by simp, rfl, rfl, by omega, q2, q1⟩⟩
    have advH : ∀ (l' : List Nd) (v' : Value) (H' : Heap), StkOk (i + 1) l' → Acc 8 (h.length + 1) H' v' (l'.map Nd.enc) → (∀ j, j < h.length + 1 → H'[j]? = (h ++ [zrow8] ++ g2)[j]?) → h.length + 1 ≤ H'.length →
        oW (binN .add (.int .i64 (i : Int)) (.int .i64 1)) fun v58 => ∃ m4, m4 < k ∧ gcL h (MakeI h s m4) [.string s, pAt h.length, v', v58] H' := fun l' v' H' q1 q2 q3 q4 => by
      obtain ⟨g', rfl⟩ := heap_low q3 q4
      exact adv l' v' g' q1 q2
    have lo2 : h.length + 1 ≤ (h ++ [zrow8] ++ g2).length := by simp
    refine ⟨fun vs H => vs = [.string s, pAt h.length, x8, .int .i64 (i : Int), .int .i64 (c : Int), .int .i64 (l.length : Int), .pointer (some ⟨lp, 0, none⟩), .bool (decide (c % 8 = 3 ∧ 1 < l.length))] ∧ H = h ++ [zrow8] ++ g2, ?_, ?_⟩
    · rw [r8, oW_some, n_eql, oW_some, bW_dec]
      refine ⟨fun e => ?_, fun e => gcL_same ⟨by rw [decide_eq_false (by omega)], rfl⟩⟩
      have e1 : decide (1 < (l.length : Int)) = decide (c % 8 = 3 ∧ 1 < l.length) := by rw [decide_eq_decide]; omega
      rw [n_gtr, oW_some, e1]
      exact gcL_same ⟨rfl, rfl⟩
    rintro x31 x32 x33 x34 x35 x36 x37 x38 H ⟨hv, rfl⟩
    simp only [List.cons.injEq, and_true] at hv
    obtain ⟨rfl, rfl, rfl, rfl, rfl, rfl, rfl, rfl⟩ := hv
    rw [bW_dec]
    constructor
    · rintro ⟨e3, e1⟩
      obtain ⟨l0, a, b, rfl⟩ := snoc2 e1
      have e2 : (l0 ++ [a, b]).length = l0.length + 2 := by simp
      rw [e2]
      refine pairW (op := 1) (by simp at hl; omega) lo2 a2 fun v' H' q1 q2 q3 => ?_
      exact advH _ v' H' (stk_pair hst (.inl rfl)) q1 q2 q3
    intro n3
    refine ⟨fun vs H => vs = [.string s, pAt h.length, x33, .int .i64 (i : Int), .int .i64 (c : Int), .int .i64 (l.length : Int), .pointer (some ⟨lp, 0, none⟩), .bool (decide (c % 8 = 4 ∧ 1 < l.length))] ∧ H = h ++ [zrow8] ++ g2, ?_, ?_⟩
    · rw [r8, oW_some, n_eql, oW_some, bW_dec]
      refine ⟨fun e => ?_, fun e => gcL_same ⟨by rw [decide_eq_false (by omega)], rfl⟩⟩
      have e1 : decide (1 < (l.length : Int)) = decide (c % 8 = 4 ∧ 1 < l.length) := by rw [decide_eq_decide]; omega
      rw [n_gtr, oW_some, e1]
      exact gcL_same ⟨rfl, rfl⟩
    rintro x63 x64 x65 x66 x67 x68 x69 x70 H ⟨hv, rfl⟩
    simp only [List.cons.injEq, and_true] at hv
    obtain ⟨rfl, rfl, rfl, rfl, rfl, rfl, rfl, rfl⟩ := hv
    rw [bW_dec]
    constructor
    · rintro ⟨e3, e1⟩
      obtain ⟨l0, a, b, rfl⟩ := snoc2 e1
      have e2 : (l0 ++ [a, b]).length = l0.length + 2 := by simp
      rw [e2]
      refine pairW (op := 2) (by simp at hl; omega) lo2 a2 fun v' H' q1 q2 q3 => ?_
      exact advH _ v' H' (stk_pair hst (.inr rfl)) q1 q2 q3
    intro n4
    refine ⟨fun vs H => vs = [.string s, pAt h.length, x65, .int .i64 (i : Int), .int .i64 (c : Int), .int .i64 (l.length : Int), .pointer (some ⟨lp, 0, none⟩), .bool (decide (c % 8 = 5 ∧ 0 < l.length))] ∧ H = h ++ [zrow8] ++ g2, ?_, ?_⟩
    · rw [r8, oW_some, n_eql, oW_some, bW_dec]
      refine ⟨fun e => ?_, fun e => gcL_same ⟨by rw [decide_eq_false (by omega)], rfl⟩⟩
      have e1 : decide (0 < (l.length : Int)) = decide (c % 8 = 5 ∧ 0 < l.length) := by rw [decide_eq_decide]; omega
      rw [n_gtr, oW_some, e1]
      exact gcL_same ⟨rfl, rfl⟩
    rintro x95 x96 x97 x98 x99 x100 x101 x102 H ⟨hv, rfl⟩
    simp only [List.cons.injEq, and_true] at hv
    obtain ⟨rfl, rfl, rfl, rfl, rfl, rfl, rfl, rfl⟩ := hv
    rw [bW_dec]
    constructor
    · rintro ⟨e3, e1⟩
      obtain ⟨l0, a, rfl⟩ := snoc (l := l) (by intro e; rw [e] at e1; simp at e1)
      have e2 : (l0 ++ [a]).length = l0.length + 1 := by simp
      rw [e2]
      have s1 : binN .sub (.int .i64 ((l0.length + 1 : Nat) : Int)) (.int .i64 1) = some (.int .i64 (l0.length : Int)) := by simp at hl; rw [n_sub (by omega)]; congr 2; omega
      have ad : binN .add (.int .i64 ((c / 8 % 3 : Nat) : Int)) (.int .i64 ((c / 24 % 3 : Nat) : Int)) = some (.int .i64 ((c / 8 % 3 + c / 24 % 3 : Nat) : Int)) := by rw [n_add (by omega)]; congr 2
      rw [q8, oW_some, r3, oW_some, q24, oW_some, r3, oW_some, ad, oW_some, n_geq, oW_some, bW_dec]
      have rep : ∀ (b : Int), b ≤ ((c / 8 % 3 : Nat) : Int) + 2 → (b < 0 ∨ ((c / 8 % 3 : Nat) : Int) ≤ b) →
          (oW (binN .sub (.int .i64 ((l0.length + 1 : Nat) : Int)) (.int .i64 1)) fun v110 =>
          (oW (binN .sub (.int .i64 ((l0.length + 1 : Nat) : Int)) (.int .i64 1)) fun v111 =>
          (oW (iaS 8 x97 v111) fun v112 =>
          (oW (ldW true 8 (h ++ [zrow8] ++ g2) v112) fun v113 =>
          (callW Try.prog (fn F_homographref02_Rep) [v113, .int .i64 ((c / 8 % 3 : Nat) : Int), .int .i64 b] (h ++ [zrow8] ++ g2) fun v114 h115 =>
          (oW (iaS 8 x97 v110) fun v116 =>
          (sW (stW 8 h115 v116 v114) fun h117 =>
          (oW (binN .add (.int .i64 (i : Int)) (.int .i64 1)) fun v118 =>
          (∃ m4, m4 < k ∧ gcL h (MakeI h s m4) [.string s, pAt h.length, x97, v118] h117))))))))) := fun b hb1 hb2 => by
        have ga : ((l0 ++ [a]).map Nd.enc)[l0.length]'(by simp) = a.enc := by simp
        rw [s1, oW_some, oW_some]
        refine a2.at_ (by omega) Nd.map_len (j := l0.length) (by simp) (fun _ => by rw [ga]; obtain ⟨cs, q, _⟩ := a.enc_agg; exact ⟨cs, q⟩) (fun q => by cases q) ?_
        rw [ga]
        refine callW_plain.2 (rep_spec ?_)
        refine Acc.setT lo2 a2 (by omega) Nd.map_len (Nd.enc_len _) (Nd.enc_okv _) (Nd.enc_ok _) (j := l0.length) (by simp) fun H' q1 q2 q3 => ?_
        have e7 : ((l0 ++ [a]).map Nd.enc).set l0.length (Nd.mk 3 BS.none ((c / 8 % 3 : Nat) : Int) b [a]).enc = (l0 ++ [Nd.mk 3 BS.none ((c / 8 % 3 : Nat) : Int) b [a]]).map Nd.enc := by
          rw [← List.map_set]
          congr 1
          simp
        rw [e7] at q1
        exact advH _ _ H' (stk_rep hst (by omega) (by omega) hb1 hb2) q1 (fun j hj => q2 j fun q => by have := a2.ge q; omega) q3
      exact ⟨fun _ => rep (-1) (by omega) (.inl (by omega)), fun _ => rep _ (by omega) (.inr (by omega))⟩
    intro n5
    refine ⟨fun vs H => vs = [.string s, pAt h.length, x97, .int .i64 (i : Int), .int .i64 (c : Int), .int .i64 (l.length : Int), .pointer (some ⟨lp, 0, none⟩), .bool false] ∧ H = h ++ [zrow8] ++ g2, ?_, ?_⟩
    · rw [r8, oW_some, n_eql, oW_some, bW_dec]
      exact ⟨fun e => by omega, fun e => gcL_same ⟨rfl, rfl⟩⟩
    rintro x132 x133 x134 x135 x136 x137 x138 x139 H ⟨hv, rfl⟩
    simp only [List.cons.injEq, and_true] at hv
    obtain ⟨rfl, rfl, rfl, rfl, rfl, rfl, rfl, rfl⟩ := hv
    rw [bW_false, r8, oW_some, n_eql, oW_some, bW_dec]
    refine ⟨fun e => by omega, fun n7 => ?_⟩
    rw [bW_false, oW_some, n_eql, oW_some, bW_dec]
    constructor
    · intro e2
      rw [q8, oW_some, r3, oW_some, a97, oW_some, cu _ (by omega), oW_some]
      refine callW_plain.2 (range_spec (a := 97) (by omega) (by omega) fun st => callW_plain.2 (setN_spec ?_))
      refine Acc.pushT lo2 a2 (by omega) Nd.map_len (Nd.enc_len _) (Nd.enc_okv _) (Nd.enc_ok _) rfl (by simp; omega) (by simp; omega) fun v' H' q1 q2 q3 q4 => ?_
      exact advH (l ++ [letterN st]) v' H' (stk_push hst) (by simpa using q1) (fun j hj => q2 j (by omega) fun q => by have := a2.ge q; omega) (by omega)
    · intro n2
      rw [show Value.pointer (some ⟨lp, 0, none⟩) = pAt lp from rfl, ldN rl, oW_some]
      refine Acc.pushT lo2 a2 (by omega) Nd.map_len (Nd.enc_len _) (Nd.enc_okv _) (Nd.enc_ok _) rfl (by simp; omega) (by simp; omega) fun v' H' q1 q2 q3 q4 => ?_
      exact advH (l ++ [letterN (BS.none.with_ (97 + c / 8 % 3))]) v' H' (stk_push hst) (by simpa using q1) (fun j hj => q2 j (by omega) fun q => by have := a2.ge q; omega) (by omega)
  · intro hge
    have hil : i = s.size := by omega
    subst hil
    rw [ac.len, oW_some, n_eql, oW_some, bW_dec]
    simp only [List.length_map]
    constructor
    · intro h1
      obtain ⟨a, rfl⟩ := List.length_eq_one_iff.1 (show l.length = 1 by omega)
      refine ac.at_ (j := 0) (by omega) Nd.map_len (by simp) (fun _ => by obtain ⟨cs, q, _⟩ := a.enc_agg; exact ⟨cs, by simpa using q⟩) (fun q => by cases q) ?_
      refine retN (hq a ((hst.1 a (by simp)).mono (by omega)) ?_)
      have := hst.2.1
      rw [wts_one] at this; omega
    · intro h1
      obtain ⟨fr, r, g', f1, f2, f3, f4, f5⟩ := ac.frz hB (by omega) Nd.map_len Nd.map_cl
      refine callW_plain.2 (acall_frz f1 (args2 := [.int .i64 1, lit (l.map Nd.enc)]) ⟨.cl (.int _ _), f2, trivial⟩ (many_spec ?_))
      have hll := hst.2.2
      refine retN (hq _ ((ok_many (.inl rfl) (by omega) hst.1).mono (by omega)) ?_)
      rw [wt_many (.inl rfl)]
      have := hst.2.1
      omega

end Go.Ax

namespace Go.Ax
open Go Go.Proofs Go.RowKit

theorem bytesOfV_map : ∀ (bs : List Nat), (∀ b ∈ bs, b < 256) → bytesOfV (bs.map byte) = some (bs.map UInt8.ofNat)
  | [], _ => rfl
  | b :: bs, h => by
    have e := bytesOfV_map bs fun x hx => h x (by simp [hx])
    show (bytesOfV (bs.map byte)).map (UInt8.ofNat ((b : Int).toNat) :: ·) = _
    rw [e]; simp
theorem byte_len {l : List Nat} : ∀ x ∈ l.map byte, (cellsOf x).length = 1 := fun x hx => by
  obtain ⟨n, _, rfl⟩ := List.mem_map.1 hx; rfl
theorem cvBS_acc {n : Nat} {H : Heap} {v : Value} {bs : List Nat} (a : Acc 1 n H v (bs.map byte)) (hb : ∀ b ∈ bs, b < 256) : ∃ t : ByteArray, cvBS H v = some (.string t) ∧ bytesN t = bs := by
  refine ⟨⟨(bs.map UInt8.ofNat).toArray⟩, ?_, ?_⟩
  · rcases a with ⟨rfl, e⟩ | ⟨i, cap, c, m, h1, rfl, h3, h4, h5, h6, h7⟩
    · have : bs = [] := List.map_eq_nil_iff.1 e
      subst this; rfl
    · have hfl : (bs.map byte).flatMap cellsOf = bs.map byte := flat_one fun e he => by obtain ⟨n, _, rfl⟩ := List.mem_map.1 he; rfl
      simp only [List.length_map, Nat.mul_one] at *
      simp only [cvBS, h3]
      rw [if_pos (by omega), List.drop_zero, h7, hfl, bytesOfV_map bs hb]; rfl
  · simp only [bytesN, List.map_map]
    conv => rhs; rw [← List.map_id bs]
    refine List.map_congr_left fun b hb' => ?_
    have := hb b hb'
    simp; omega

def PlI (h : Heap) (s : ByteArray) (k : Nat) (vs : List Value) (H : Heap) : Prop :=
  ∃ (i : Nat) (v : Value) (g : Heap) (bs : List Nat), vs = [.string s, pAt h.length, v, .int .i64 (i : Int)] ∧ H = h ++ [zrow8] ++ g ∧ k = s.size - i ∧ i ≤ s.size ∧ Acc 1 (h.length + 1) H v (bs.map byte) ∧ bs.length ≤ i ∧ ∀ b ∈ bs, b < 256 ∧ b % 8 < 6

theorem plainR_spec {s : ByteArray} (hs : s.size ≤ 10) {h : Heap} {Q : Value → Heap → Prop} (hq : ∀ n : Nd, n.Ok 20 → n.wt ≤ 100000000 → Q n.enc h) : acall Try.prog F_homographref02_Plain [.string s] h Q := by
  apply W_homographref02_Plain_ok
  unfold W_homographref02_Plain
  refine ⟨PlI h s, s.size, gcL_same ⟨0, .slice none 0 0, [], [], rfl, by rw [List.append_nil], rfl, by omega, Acc.nil, by simp, by simp⟩, ?_⟩
  rintro k x6 x7 x8 x9 H ⟨i, v, g, bs, hv, rfl, hk, hi, ac, hl, hbs⟩
  simp only [List.cons.injEq, and_true] at hv
  obtain ⟨rfl, rfl, rfl, rfl⟩ := hv
  have hB : (h ++ [zrow8]).length = h.length + 1 := by simp
  rw [lenStr_str, oW_some, n_lss, oW_some, bW_dec]
  constructor
  · intro hlt
    have hlt' : i < s.size := by omega
    have hb := byte_lt hlt'
    have hlb : i < (bytesN s).length := by rw [bytesN_len]; exact hlt'
    refine ixS_str hlt' ?_
    generalize hc : (bytesN s)[i]! = c at hb
    have r8 : binN .rem (byte c) (.int .u8 8) = some (byte (c % 8)) := by
      have e : (c : Int).tmod 8 = ((c % 8 : Nat) : Int) := by rw [Int.tmod_eq_emod_of_nonneg (by omega)]; omega
      rw [n_rem (by omega), e]
    rw [r8, oW_some, n_lss, oW_some, bW_dec]
    constructor
    · intro h6
      refine ixS_str hlt' ?_
      rw [hc]
      refine Acc.push hB ac (by omega) byte_len rfl rfl rfl rfl (by simp; omega) (by simp; omega) fun v' g' a2 _ _ _ => ?_
      rw [n_add (by omega), oW_some]
      refine ⟨s.size - (i + 1), by omega, gcL_same ⟨i + 1, v', g', bs ++ [c], by simp, rfl, rfl, by omega, by simpa using a2, by simp; omega, fun b hb' => ?_⟩⟩
      rcases List.mem_append.1 hb' with q | q
      · exact hbs b q
      · simp at q; subst q; omega
    · intro h6
      rw [n_add (by omega), oW_some]
      exact ⟨s.size - (i + 1), by omega, gcL_same ⟨i + 1, x8, g, bs, by simp, rfl, rfl, by omega, ac, by omega, hbs⟩⟩
  · intro hge
    obtain ⟨t, e1, e2⟩ := cvBS_acc ac fun b hb => (hbs b hb).1
    have ht : t.size = bs.length := by rw [← e2, bytesN_len]
    rw [e1, oW_some]
    refine callW_plain.2 (make_spec (by omega) (fun b hb => (hbs b (by rw [← e2]; exact hb)).2) fun n hn hw => ?_)
    refine retN (hq n hn ?_)
    have : 6 ^ t.size ≤ 6 ^ 10 := Nat.pow_le_pow_right (by omega) (by omega)
    have : (6 : Nat) ^ 10 = 60466176 := rfl
    omega

end Go.Ax

namespace Go.Ax
open Go Go.Proofs Go.RowKit

/-- Where one may be by nothing, found step by step. -/
def stepN (eps : List (Int × Int)) : Nat → List Int → List Int
  | 0, s => s
  | k + 1, s => stepN eps k (s ++ (eps.filter fun p => decide (p.1 ∈ s)).map (·.2))
theorem stepN_reach {eps : List (Int × Int)} {S : Int → Prop} : ∀ {k : Nat} {s : List Int}, (∀ x ∈ s, EReach eps S x) → ∀ x ∈ stepN eps k s, EReach eps S x
  | 0, s, h, x, hx => h x hx
  | k + 1, s, h, x, hx => by
    refine stepN_reach (k := k) (fun y hy => ?_) x hx
    rcases List.mem_append.1 hy with q | q
    · exact h y q
    · obtain ⟨p, hp, rfl⟩ := List.mem_map.1 q
      obtain ⟨h1, h2⟩ := List.mem_filter.1 hp
      exact .step (h p.1 (by simpa using h2)) h1
def cloOk (m : Mch) (l c : List Int) : Bool :=
  decide (c.Pairwise (· < ·)) && c.all (fun x => decide (inR m.count x)) && l.all (fun x => !decide (inR m.count x) || decide (x ∈ c)) && m.eps.all (fun p => !decide (p.1 ∈ c) || decide (p.2 ∈ c)) &&
    c.all (fun x => decide (x ∈ stepN m.eps 8 (l.filter fun x => decide (inR m.count x))))
theorem clo_of {m : Mch} {l c : List Int} (h : cloOk m l c = true) : m.clo l = c := by
  simp only [cloOk, Bool.and_eq_true, List.all_eq_true, decide_eq_true_eq, Bool.or_eq_true, Bool.not_eq_true', decide_eq_false_iff_not] at h
  obtain ⟨⟨⟨⟨h1, h2⟩, h3⟩, h4⟩, h5⟩ := h
  refine rising_eq (m.clo_sorted l) h1 fun x => ?_
  rw [Mch.mem_clo]
  constructor
  · rintro ⟨hr, h⟩
    clear hr
    induction h with
    | base q => exact (h3 _ q.1).resolve_left fun r => r q.2
    | step _ e ih => exact (h4 _ e).resolve_left fun r => r ih
  · intro hx
    refine ⟨h2 x hx, stepN_reach (fun y hy => ?_) x (h5 x hx)⟩
    rw [List.mem_filter, decide_eq_true_eq] at hy
    exact .base hy

abbrev awN : Nd := .mk 3 BS.none 1 (-1) [litN [97, 98]]
def awM : Mch := ⟨14, [(2, 4), (5, 6), (7, 3), (0, 2), (8, 10), (11, 12), (13, 9), (3, 8), (9, 8), (9, 1), (3, 1)], [(4, 5, BS.none.with_ 97), (6, 7, BS.none.with_ 98), (10, 11, BS.none.with_ 97), (12, 13, BS.none.with_ 98)], 0, 1⟩
theorem awM_eq : awN.mach = awM := by rfl
theorem aw1 : awM.clo [0] = [0, 2, 4] := clo_of (by decide +kernel)
theorem awT1 : awM.to [0, 2, 4] 97 = [5] := by decide +kernel
theorem aw2 : awM.step [0, 2, 4] 97 = [5, 6] := by rw [Mch.step, awT1]; exact clo_of (by decide +kernel)
theorem awT2 : awM.to [5, 6] 98 = [7] := by decide +kernel
theorem aw3 : awM.step [5, 6] 98 = [1, 3, 7, 8, 10] := by rw [Mch.step, awT2]; exact clo_of (by decide +kernel)
theorem awT3 : awM.to [1, 3, 7, 8, 10] 97 = [11] := by decide +kernel
theorem aw4 : awM.step [1, 3, 7, 8, 10] 97 = [11, 12] := by rw [Mch.step, awT3]; exact clo_of (by decide +kernel)
theorem awT4 : awM.to [11, 12] 98 = [13] := by decide +kernel
theorem aw5 : awM.step [11, 12] 98 = [1, 8, 9, 10, 13] := by rw [Mch.step, awT4]; exact clo_of (by decide +kernel)
theorem awW1 : awM.whole [97, 98, 97, 98] = true := by
  simp only [Mch.whole, Mch.run, show awM.start = 0 from rfl, aw1, aw2, aw3, aw4, aw5]; decide
theorem awW2 : awM.whole [97, 98, 97] = false := by
  simp only [Mch.whole, Mch.run, show awM.start = 0 from rfl, aw1, aw2, aw3, aw4]; decide

def aw0M : Mch := ⟨2, [], [(0, 1, ⟨1, 2, 3, 4⟩)], 0, 1⟩
abbrev aw0 : Nd := letterN ⟨1, 2, 3, 4⟩
theorem aw0_built : aw0.built = .tuple #[aw0M.enc, .int .i64 0] := by
  unfold Nd.built
  rw [if_pos (by decide), if_neg (by decide)]; rfl
theorem awN_built : awN.built = .tuple #[awM.enc, .int .i64 0] := by
  unfold Nd.built
  rw [if_pos (by decide +kernel), if_neg (by decide +kernel), awM_eq]
theorem awX_built : (Nd.mk 5 BS.none 0 0 [letterN BS.none]).built = .tuple #[zeroM.enc, .int .i64 1] := by
  unfold Nd.built
  rw [if_neg (by decide)]

abbrev zrow5 : AObj := .row [.int .i64 0, .slice none 0 0, .slice none 0 0, .int .i64 0, .int .i64 0] .exact
theorem boxM {H : Heap} {m : Mch} {K : Heap → Prop} (k : K (H ++ [mrow m])) : sW (stW 5 (H ++ [zrow5]) (.pointer (some ⟨H.length, 0, none⟩)) m.enc) K := by
  rw [stW_agg, row_app0]
  refine ⟨_, by rw [show getRow [zrow5] 0 = some ([.int .i64 0, .slice none 0 0, .slice none 0 0, .int .i64 0, .int .i64 0], .exact) from rfl, Option.bind_some, if_pos (by simp)], ?_⟩
  rw [set_app0]
  exact k

theorem ex0 {a b : Value} : extractA (.tuple #[a, b]) 0 = some a := rfl
theorem ex1 {a b : Value} : extractA (.tuple #[a, b]) 1 = some b := rfl

theorem awake_spec {h : Heap} {Q : Value → Heap → Prop} (hq : ∀ t, Q (.bool true) (h ++ t)) : acall Try.prog F_homographlaw06_awake [] h Q := by
  apply W_homographlaw06_awake_ok
  unfold W_homographlaw06_awake
  rw [show bldW [(.int .u64 0), (.int .u64 0), (.int .u64 0), (.int .u64 0)] [(0, 1, (.int .u64 1)), (1, 1, (.int .u64 2)), (2, 1, (.int .u64 3)), (3, 1, (.int .u64 4))] = some (BS.mk 1 2 3 4).enc from rfl, oW_some]
  refine callW_plain.2 (setN_spec (callW_plain.2 (build_spec (n := aw0) (ok_letter (d := 0)).2.2 (by rw [wt_letter]; omega) ?_)))
  rw [aw0_built, ex0, ex1, oW_some, oW_some, letH_eq]
  refine boxM ?_
  refine callW_plain.2 (lit_spec (s := ⟨#[97, 98]⟩) (by decide) (callW_plain.2 (rep_spec (n := litN [97, 98]) (callW_plain.2 (build_spec (n := awN) ?_ ?_ ?_)))))
  · exact (ok_rep (by omega) (by omega) (by omega) (.inl (by omega)) (ok_many (.inl rfl) (by simp) (d := 2) fun k hk => by
      obtain ⟨b, _, rfl⟩ := List.mem_map.1 hk; exact ok_letter)).2.2
  · decide
  rw [awN_built, ex0, ex1, oW_some, oW_some, letH_eq]
  refine boxM ?_
  rw [show bldW [(.int .i64 0), (.int .u64 0), (.int .u64 0), (.int .u64 0), (.int .u64 0), (.int .i64 0), (.int .i64 0), (.slice none 0 0)] [] = some (.agg #[.int .i64 0, .int .u64 0, .int .u64 0, .int .u64 0, .int .u64 0, .int .i64 0, .int .i64 0, .slice none 0 0]) from rfl, oW_some]
  refine bsl1 rfl rfl rfl ?_
  have e1 : h ++ [mrow aw0M] ++ [mrow awM] = h ++ [mrow aw0M, mrow awM] := by simp
  have e2 : (h ++ [mrow aw0M]).length = h.length + 1 := by simp
  have e3 : (h ++ [mrow aw0M, mrow awM]).length = h.length + 2 := by simp
  rw [e1, e2, e3]
  generalize hz : (cellsOf (Value.agg #[.int .i64 0, .int .u64 0, .int .u64 0, .int .u64 0, .int .u64 0, .int .i64 0, .int .i64 0, .slice none 0 0])) = zc
  have hi : (h ++ [mrow aw0M, mrow awM] ++ [AObj.row zc .exact])[h.length + 2]? = some (.row zc .exact) := by
    rw [List.getElem?_append_right (by omega), e3]; simp
  have gv : Gv (· = h.length + 2) (idR (h ++ [mrow aw0M, mrow awM] ++ [AObj.row zc .exact])) (h ++ [mrow aw0M, mrow awM] ++ [AObj.row zc .exact]) (lit ([letterN BS.none].map Nd.enc)) (.slice (some ⟨h.length + 2, 0, none⟩) 1 1) := by
    refine Gv.frzS #[(letterN BS.none).enc] (h.length + 2) 0 8 1 zc .exact rfl hi (by omega) (fun k p => by simp at p; subst p; exact Nd.enc_len _) (by subst hz; simp) fun k j p q q2 => ?_
    simp at p
    subst p
    subst hz
    have hj : j < 8 := by have := Nd.enc_len (letterN BS.none); simp at q2; omega
    match j, hj with
    | 0, _ => exact .plain _ rfl
    | 1, _ => exact .plain _ rfl
    | 2, _ => exact .plain _ rfl
    | 3, _ => exact .plain _ rfl
    | 4, _ => exact .plain _ rfl
    | 5, _ => exact .plain _ rfl
    | 6, _ => exact .plain _ rfl
    | 7, _ => exact .lit0 none 0
  refine callW_plain.2 (acall_frz (gh_ro hi) (args2 := [.int .i64 5, lit ([letterN BS.none].map Nd.enc)]) ⟨.cl (.int _ _), gv, trivial⟩ (many_spec ?_))
  have e4 : (h ++ [mrow aw0M, mrow awM] ++ [AObj.row zc .exact]).set (h.length + 2) (.row zc .ro) = h ++ [mrow aw0M, mrow awM, .row zc .ro] := by
    rw [List.append_assoc, set_app]; rfl
  rw [e4]
  refine callW_plain.2 (build_spec (n := .mk 5 BS.none 0 0 [letterN BS.none]) (.mk (by simp) fun k hk => by simp at hk; subst hk; exact (ok_letter (d := 0)).2.2) (by decide) ?_)
  rw [awX_built, ex0, ex1, oW_some, oW_some, letH_eq]
  refine boxM ?_
  generalize hg : h ++ [mrow aw0M, mrow awM, .row zc .ro] ++ [mrow zeroM] = H
  have eHH : H = h ++ [mrow aw0M, mrow awM] ++ [.row zc .ro, mrow zeroM] := by rw [← hg]; simp
  have r1 : ∀ t, getRow (H ++ t) h.length = some ([.int .i64 (aw0M.count : Int), lit (aw0M.eps.map encP), lit (aw0M.arcs.map encA), .int .i64 aw0M.start, .int .i64 aw0M.stop], .exact) := fun t => by
    rw [eHH, List.append_assoc, List.append_assoc, row_app0]; rfl
  have r2 : ∀ t, getRow (H ++ t) (h.length + 1) = some ([.int .i64 (awM.count : Int), lit (awM.eps.map encP), lit (awM.arcs.map encA), .int .i64 awM.start, .int .i64 awM.stop], .exact) := fun t => by
    rw [eHH, List.append_assoc, List.append_assoc, row_app]; rfl
  have r20 := r2 []
  rw [List.append_nil] at r20
  have ld2 : ∀ t, ldW true 5 (H ++ t) (.pointer (some ⟨h.length + 1, 0, none⟩)) = some awM.enc := fun t => by rw [ldW_agg, r2]; rfl
  have ld20 := ld2 []
  rw [List.append_nil] at ld20
  rw [ld20, oW_some, fa_ptr, oW_some, ldW_one, r20]
  show oW (some (.int .i64 0)) _
  rw [oW_some]
  refine bsl1 rfl rfl rfl ?_
  have am : Acc 1 H.length (H ++ [AObj.row [.int .i64 0] .exact]) (.slice (some ⟨H.length, 0, none⟩) 1 1) ([(0 : Int)].map fun x => .int .i64 x) := Acc.made (l := [.int .i64 0]) (int_len (l := [0])) (Nat.le_refl _)
  obtain ⟨fr, r, g', f1, f2, f3, f4, f5⟩ := am.frz rfl (by omega) int_len int_cl
  have aok : awM.ok := by unfold Mch.ok; decide
  have a1 : awM.eps.length ≤ 1000000000 := by decide
  have a2 : awM.count ≤ 5000 := by decide
  have a3 : awM.arcs.length ≤ 100000000 := by decide
  refine callW_plain.2 (acall_frz f1 (args2 := [awM.enc, ints [0]]) ⟨.cl awM.cl, f2, trivial⟩ (close_spec aok.1 a1 a2 (by decide) (fun x hx => by simp at hx; subst hx; omega) ?_))
  rw [aw1, n_eql, oW_some, bW_dec]
  refine ⟨fun _ => ?_, fun q => absurd rfl q⟩
  rw [fa_ptr, oW_some, ldW_one, r1]
  show oW (some (.int .i64 2)) _
  rw [oW_some, n_eql, oW_some, bW_dec]
  refine ⟨fun _ => ?_, fun q => absurd rfl q⟩
  rw [fa_ptr, oW_some, ldW_one, r1]
  show oW (some (lit (aw0M.arcs.map encA))) _
  rw [oW_some, lenS_lit, oW_some, n_eql, oW_some, bW_dec]
  refine ⟨fun _ => ?_, fun q => absurd rfl q⟩
  rw [fa_ptr, oW_some, ldW_one, r1]
  show oW (some (.int .i64 1)) _
  rw [oW_some, n_eql, oW_some, bW_dec]
  refine ⟨fun _ => ?_, fun q => absurd rfl q⟩
  rw [fa_ptr, oW_some, ldW_one, r1]
  show oW (some (lit (aw0M.eps.map encP))) _
  rw [oW_some, lenS_lit, oW_some, n_eql, oW_some, bW_dec]
  refine ⟨fun _ => ?_, fun q => absurd rfl q⟩
  rw [oW_some, bW_dec]
  refine ⟨fun _ => ?_, fun q => absurd rfl q⟩
  rw [ld2, oW_some]
  refine callW_plain.2 (whole_spec (s := ⟨#[97, 98, 97, 98]⟩) aok a1 a3 a2 (by decide) ?_)
  rw [show bytesN ⟨#[97, 98, 97, 98]⟩ = [97, 98, 97, 98] from rfl, awW1, bW_true, ld2, oW_some]
  refine callW_plain.2 (whole_spec (s := ⟨#[97, 98, 97]⟩) aok a1 a3 a2 (by decide) ?_)
  rw [show bytesN ⟨#[97, 98, 97]⟩ = [97, 98, 97] from rfl, awW2, u_not, oW_some, bW_bool]
  refine ⟨fun _ => ?_, fun q => by cases q⟩
  rw [oW_some, bW_dec]
  refine ⟨fun _ => ?_, fun q => absurd rfl q⟩
  rw [lenS_lit, oW_some, n_gtr, oW_some, bW_dec]
  refine ⟨fun _ => ?_, fun q => absurd (by decide) q⟩
  rw [ld2, oW_some]
  refine callW_plain.2 (step_spec (b := 97) (by omega) aok a1 a3 a2 (by decide) ?_)
  rw [aw2, lenS_lit, oW_some, n_gtr, oW_some]
  have := hq ([mrow aw0M, mrow awM] ++ ([.row zc .ro, mrow zeroM] ++ g'))
  refine gcV_same ?_
  rw [eHH, List.append_assoc, List.append_assoc]
  exact this

end Go.Ax

namespace Go.Ax
open Go Go.Proofs Go.RowKit

/-- What is built of a pattern that may be. -/
theorem built_or {n : Nd} (hn : n.Ok 20) (hw : n.wt ≤ 100000000) : n.built = .tuple #[zeroM.enc, .int .i64 70] ∨
    (n.built = .tuple #[n.mach.enc, .int .i64 0] ∧ n.Good ∧ n.mach.ok ∧ n.mach.eps.length ≤ 1000000000 ∧ n.mach.count ≤ 4096 ∧ n.mach.arcs.length ≤ 100000000) := by
  have h64 := (hn.mono (e := 64) (by omega)).1
  have g := good_of h64 hn.2.1
  have gw := pc_by g bs0
  unfold Bs.grows at gw
  unfold Nd.built
  rw [if_pos ⟨h64, hn.2.1⟩]
  by_cases hf : (n.pc bs0).full = true
  · rw [if_pos hf]; exact .inl rfl
  · rw [if_neg hf]
    have hf' : (n.pc bs0).full = false := by simpa using hf
    have e1 : bs0.eps.length = 0 := rfl
    have e2 : bs0.arcs.length = 0 := rfl
    exact .inr ⟨rfl, g, mach_ok g, by simp only [Nd.mach]; omega, mach_count g hf', by simp only [Nd.mach]; omega⟩

theorem mrow_app {h t : Heap} {m : Mch} : ldW true 5 (h ++ [mrow m] ++ t) (.pointer (some ⟨h.length, 0, none⟩)) = some m.enc := by
  rw [ldW_agg, List.append_assoc, row_app0]; rfl
theorem mrow_end {h : Heap} {m : Mch} : ldW true 5 (h ++ [mrow m]) (.pointer (some ⟨h.length, 0, none⟩)) = some m.enc := by
  rw [ldW_agg, row_app0]; rfl

theorem step_len (m : Mch) (l : List Int) (b : Nat) : (m.step l b).length ≤ m.count := clo_len _ _

theorem nfaSteps_walk {code : ByteArray} {l : List Int} {b : Nat} (hcs : code.size ≤ 1000000000000000) (hi : ∀ x ∈ l, inI x) (hll : l.length ≤ 9223372036854775807) (hb : b < 256) {h : Heap} :
    acall Try.prog F_homographlaw06_NfaSteps [.string code, ints l, byte b] h fun v _ => v = .bool true := by
  apply W_homographlaw06_NfaSteps_ok
  unfold W_homographlaw06_NfaSteps
  refine callW_plain.2 (awake_spec fun t => ?_)
  rw [u_not, oW_some, bW_bool]
  refine ⟨(fun q => by cases q), fun _ => ?_⟩
  rw [lenStr_str, oW_some, n_gtr, oW_some, bW_dec]
  constructor
  · intro _
    rw [bW_true]
    exact gcV_same rfl
  intro hc
  rw [lenS_lit, oW_some, n_gtr, oW_some, bW_dec]
  simp only [List.length_map]
  constructor
  · intro _
    exact gcV_same rfl
  intro hl
  refine callW_plain.2 (plainR_spec (by omega) fun n hn hw => callW_plain.2 (build_spec hn.2.2 (by omega) ?_))
  generalize h ++ t = H
  rcases built_or hn hw with e | ⟨e, g, hok, h1, h2, h3⟩
  · rw [e, ex0, ex1, oW_some, oW_some, letH_eq]
    refine boxM ?_
    rw [n_neq, oW_some, bW_dec]
    refine ⟨fun _ => ?_, fun q => absurd (by omega) q⟩
    rw [n_eql, oW_some]
    exact gcV_same (by simp)
  · rw [e, ex0, ex1, oW_some, oW_some, letH_eq]
    generalize n.mach = m at *
    have k0 : ∀ (A : Heap), keptW [] A A := fun A => by rw [keptW_nil]; trivial
    refine boxM ?_
    rw [n_neq, oW_some, bW_dec]
    refine ⟨fun q => absurd rfl q, fun _ => ?_⟩
    rw [mrow_end, oW_some, oW_some]
    have k2 : keptW [.pointer (some ⟨H.length, 0, none⟩), .pointer (some ⟨H.length, 0, none⟩)] (H ++ [mrow m]) (H ++ [mrow m]) := by simp
    have k4 : keptW [.pointer (some ⟨H.length, 0, none⟩), .pointer (some ⟨H.length, 0, none⟩), .pointer (some ⟨H.length, 0, none⟩), .pointer (some ⟨H.length, 0, none⟩)] (H ++ [mrow m]) (H ++ [mrow m]) := by simp
    have c5 : m.count ≤ 5000 := by omega
    refine callW_plain.2 (close_spec hok.1 h1 c5 (by omega) hi ⟨k2, callW_plain.2 (plainL_spec h3 ⟨k2, callW_plain.2 (refClose_spec hok.1 h1 c5 (by omega) ⟨k2, ?_⟩)⟩)⟩)
    have cl := clo_len m l
    refine callW_plain.2 (same_spec (by omega) (by omega) ⟨k2, ?_⟩)
    rw [decide_eq_true rfl, bW_true, mrow_end, oW_some, oW_some]
    refine callW_plain.2 (step_spec hb hok h1 h3 c5 (by omega) ⟨k4, callW_plain.2 (plainL_spec h3 ⟨k4, callW_plain.2 (refStep_spec hb hok h1 h3 c5 (by omega) ⟨k4, ?_⟩)⟩)⟩)
    have sl := step_len m l b
    refine callW_plain.2 (same_spec (by omega) (by omega) ⟨k4, ?_⟩)
    rw [decide_eq_true rfl]
    exact gcV_same rfl

end Go.Ax

namespace Go.Ax
open Go Go.Proofs Go.RowKit

def ClI1 (h H : Heap) (m : Mch) (l : List Int) (k : Nat) (vs : List Value) (G : Heap) : Prop :=
  ∃ i : Nat, vs = [ints l, .pointer (some ⟨H.length, 0, none⟩), ints (m.clo l), .int .i64 (i : Int)] ∧ G = H ++ [mrow m] ∧ k = (m.clo l).length - i ∧ i ≤ (m.clo l).length
def ClI2 (h H : Heap) (m : Mch) (l : List Int) (k : Nat) (vs : List Value) (G : Heap) : Prop :=
  ∃ i : Nat, vs = [ints l, .pointer (some ⟨H.length, 0, none⟩), ints (m.clo l), .int .i64 (i : Int)] ∧ G = H ++ [mrow m] ∧ k = l.length - i ∧ i ≤ l.length
def ClI3 (h H : Heap) (m : Mch) (l : List Int) (i : Nat) (k : Nat) (vs : List Value) (G : Heap) : Prop :=
  ∃ j : Nat, vs = [ints l, .pointer (some ⟨H.length, 0, none⟩), ints (m.clo l), .int .i64 (i : Int), .bool (decide (l.getD i 0 ∈ (m.clo l).take j)), .int .i64 (j : Int)] ∧ G = H ++ [mrow m] ∧ k = (m.clo l).length - j ∧ j ≤ (m.clo l).length

theorem clo_idem (m : Mch) (l : List Int) : m.clo (m.clo l) = m.clo l := by
  refine rising_eq (m.clo_sorted _) (m.clo_sorted _) fun x => ?_
  rw [Mch.mem_clo, Mch.mem_clo]
  constructor
  · rintro ⟨h1, h2⟩
    refine ⟨h1, h2.mono fun y hy => ?_⟩
    exact (Mch.mem_clo.1 hy.1).2
  · rintro ⟨h1, h2⟩
    exact ⟨h1, .base ⟨Mch.mem_clo.2 ⟨h1, h2⟩, h1⟩⟩

theorem nfaClosed_walk {code : ByteArray} {l : List Int} (hcs : code.size ≤ 1000000000000000) (hi : ∀ x ∈ l, inI x) (hll : l.length ≤ 9223372036854775807) {h : Heap} :
    acall Try.prog F_homographlaw06_NfaClosed [.string code, ints l] h fun v _ => v = .bool true := by
  apply W_homographlaw06_NfaClosed_ok
  unfold W_homographlaw06_NfaClosed
  refine callW_plain.2 (awake_spec fun t => ?_)
  rw [u_not, oW_some, bW_bool]
  refine ⟨(fun q => by cases q), fun _ => ?_⟩
  refine ⟨fun vs H => vs = [.string code, ints l] ∧ H = h ++ t ∧ code.size ≤ 10 ∧ l.length ≤ 60, ?_, ?_⟩
  · rw [lenStr_str, oW_some, n_gtr, oW_some, bW_dec]
    refine ⟨fun _ => ?_, fun hc => ?_⟩
    · rw [bW_true]; exact gcV_same rfl
    · rw [lenS_lit, oW_some, n_gtr, oW_some, bW_dec]
      simp only [List.length_map]
      exact ⟨fun _ => gcV_same rfl, fun hl => gcL_same ⟨rfl, rfl, by omega, by omega⟩⟩
  rintro x9 x10 H0 ⟨hv, rfl, hc, hl⟩
  simp only [List.cons.injEq, and_true] at hv
  obtain ⟨rfl, rfl⟩ := hv
  refine callW_plain.2 (plainR_spec (by omega) fun n hn hw => callW_plain.2 (build_spec hn.2.2 (by omega) ?_))
  generalize h ++ t = H
  rcases built_or hn hw with e | ⟨e, g, hok, h1, h2, h3⟩
  · rw [e, ex0, ex1, oW_some, oW_some, letH_eq]
    refine boxM ?_
    rw [n_neq, oW_some, bW_dec]
    refine ⟨fun _ => ?_, fun q => absurd (by omega) q⟩
    rw [n_eql, oW_some]
    exact gcV_same (by simp)
  · rw [e, ex0, ex1, oW_some, oW_some, letH_eq]
    generalize n.mach = m at *
    refine boxM ?_
    rw [n_neq, oW_some, bW_dec]
    refine ⟨fun q => absurd rfl q, fun _ => ?_⟩
    rw [mrow_end, oW_some]
    have c5 : m.count ≤ 5000 := by omega
    refine callW_plain.2 (close_spec hok.1 h1 c5 (by omega) hi ?_)
    have cl := clo_len m l
    have hrow : getRow (H ++ [mrow m]) H.length = some ([.int .i64 (m.count : Int), lit (m.eps.map encP), lit (m.arcs.map encA), .int .i64 m.start, .int .i64 m.stop], .exact) := by rw [row_app0]; rfl
    have hcnt : ∀ K : Value → Prop, K (.int .i64 (m.count : Int)) → oW (faW 0 1 (.pointer (some ⟨H.length, 0, none⟩))) fun v42 => oW (ldW false 1 (H ++ [mrow m]) v42) K := fun K hK => by
      rw [fa_ptr, oW_some, ldW_one, hrow]; exact oW_some.2 hK
    have hR : ∀ i (q : i < (m.clo l).length), inR m.count (m.clo l)[i] := fun i q => (Mch.mem_clo.1 (List.getElem_mem q)).1
    refine ⟨ClI1 h H m l, (m.clo l).length, gcL_same ⟨0, rfl, rfl, by omega, by omega⟩, ?_⟩
    rintro k x29 x30 x31 x32 G ⟨i, hv, rfl, hk, hii⟩
    simp only [List.cons.injEq, and_true] at hv
    obtain ⟨rfl, rfl, rfl, rfl⟩ := hv
    rw [lenS_lit, oW_some, n_lss, oW_some, bW_dec]
    simp only [List.length_map]
    constructor
    · intro hlt
      have hlt' : i < (m.clo l).length := by omega
      have hr := hR i hlt'
      unfold inR at hr
      refine ix_ints hlt' ?_
      rw [n_lss, oW_some, bW_dec]
      refine ⟨fun q => by omega, fun _ => ?_⟩
      refine ix_ints hlt' ?_
      refine hcnt _ ?_
      rw [n_geq, oW_some, bW_dec]
      refine ⟨fun q => by omega, fun _ => ?_⟩
      have fin : oW (binN .add (.int .i64 (i : Int)) (.int .i64 1)) fun v => ∃ m27, m27 < k ∧ gcL h (ClI1 h H m l m27) [ints l, .pointer (some ⟨H.length, 0, none⟩), ints (m.clo l), v] (H ++ [mrow m]) := by
        rw [n_add (by omega), oW_some]
        exact ⟨(m.clo l).length - (i + 1), by omega, gcL_same ⟨i + 1, by simp, rfl, rfl, by omega⟩⟩
      rw [n_gtr, oW_some, bW_dec]
      constructor
      · intro h0
        have i1 : i - 1 < (m.clo l).length := by omega
        refine ix_ints hlt' ?_
        rw [n_sub (by omega), oW_some, show ((i : Int) - 1) = ((i - 1 : Nat) : Int) by omega]
        refine ix_ints i1 ?_
        rw [n_leq, oW_some, bW_dec]
        have := List.pairwise_iff_getElem.1 (m.clo_sorted l) (i - 1) i i1 hlt' (by omega)
        exact ⟨fun q => by omega, fun _ => fin⟩
      · intro h0
        rw [bW_false]; exact fin
    · intro hge
      refine ⟨ClI2 h H m l, l.length, gcL_same ⟨0, rfl, rfl, by omega, by omega⟩, ?_⟩
      rintro k x59 x60 x61 x62 G ⟨i, hv, rfl, hk2, hi2⟩
      simp only [List.cons.injEq, and_true] at hv
      obtain ⟨rfl, rfl, rfl, rfl⟩ := hv
      rw [lenS_lit, oW_some, n_lss, oW_some, bW_dec]
      simp only [List.length_map]
      constructor
      · intro hlt
        have hlt' : i < l.length := by omega
        have hgd : l.getD i 0 = l[i] := by simp [hlt']
        refine ⟨ClI3 h H m l i, (m.clo l).length, gcL_same ⟨0, by simp, rfl, by omega, by omega⟩, ?_⟩
        rintro k3 x70 x71 x72 x73 x74 x75 G ⟨j, hv, rfl, hk3, hj⟩
        simp only [List.cons.injEq, and_true] at hv
        obtain ⟨rfl, rfl, rfl, rfl, rfl, rfl⟩ := hv
        rw [lenS_lit, oW_some, n_lss, oW_some, bW_dec]
        simp only [List.length_map]
        constructor
        · intro hltj
          have hltj' : j < (m.clo l).length := by omega
          have htk : (m.clo l).take (j + 1) = (m.clo l).take j ++ [(m.clo l)[j]] := by rw [List.take_add_one, List.getElem?_eq_getElem hltj']; rfl
          rw [bW_dec]
          constructor
          · intro hin
            rw [n_add (by omega), oW_some]
            have : decide (l.getD i 0 ∈ (m.clo l).take (j + 1)) = true := by rw [decide_eq_true_eq, htk, List.mem_append]; exact .inl hin
            exact ⟨(m.clo l).length - (j + 1), by omega, gcL_same ⟨j + 1, by rw [this]; simp, rfl, rfl, by omega⟩⟩
          · intro hnin
            refine ix_ints hltj' ?_
            refine ix_ints hlt' ?_
            rw [n_eql, oW_some, n_add (by omega), oW_some]
            have : decide (l.getD i 0 ∈ (m.clo l).take (j + 1)) = decide ((m.clo l)[j] = l[i]) := by
              rw [decide_eq_decide, htk, List.mem_append, hgd]
              rw [hgd] at hnin
              constructor
              · rintro (q | q)
                · exact absurd q hnin
                · simp at q; exact q.symm
              · intro q; right; simp [q]
            exact ⟨(m.clo l).length - (j + 1), by omega, gcL_same ⟨j + 1, by rw [this]; simp, rfl, rfl, by omega⟩⟩
        · intro hgej
          have hjj : (m.clo l).take j = m.clo l := List.take_of_length_le (by omega)
          rw [hjj]
          have hmem : l.getD i 0 ∈ m.clo l ↔ inR m.count l[i] := by
            rw [hgd]
            constructor
            · intro q; exact (Mch.mem_clo.1 q).1
            · intro q; exact Mch.mem_clo.2 ⟨q, .base ⟨List.getElem_mem hlt', q⟩⟩
          have fin : oW (binN .add (.int .i64 (i : Int)) (.int .i64 1)) fun v => ∃ m27, m27 < k ∧ gcL h (ClI2 h H m l m27) [ints l, .pointer (some ⟨H.length, 0, none⟩), ints (m.clo l), v] (H ++ [mrow m]) := by
            rw [n_add (by omega), oW_some]
            exact ⟨l.length - (i + 1), by omega, gcL_same ⟨i + 1, by simp, rfl, rfl, by omega⟩⟩
          refine ix_ints hlt' ?_
          rw [n_geq, oW_some, bW_dec]
          constructor
          · intro h0
            refine ix_ints hlt' ?_
            refine hcnt _ ?_
            rw [n_lss, oW_some, neB_bool, oW_some]
            have : decide (l.getD i 0 ∈ m.clo l) = decide (l[i] < (m.count : Int)) := by rw [decide_eq_decide, hmem]; unfold inR; omega
            rw [this, bW_bool]
            exact ⟨fun q => by simp at q, fun _ => fin⟩
          · intro h0
            rw [neB_bool, oW_some]
            have : decide (l.getD i 0 ∈ m.clo l) = false := by rw [decide_eq_false_iff_not, hmem]; unfold inR; omega
            rw [this, bW_bool]
            exact ⟨fun q => by simp at q, fun _ => fin⟩
      · intro hge2
        rw [mrow_end, oW_some]
        refine callW_plain.2 (close_spec hok.1 h1 c5 (by omega) (fun x hx => ?_) ?_)
        · have := (Mch.mem_clo.1 hx).1
          unfold inR at this; omega
        rw [clo_idem]
        refine callW_plain.2 (same_spec (by omega) (by omega) ?_)
        rw [decide_eq_true rfl]
        exact gcV_same rfl

end Go.Ax

namespace Go.Ax
open Go Go.Proofs Go.RowKit

abbrev Lang := List Nat → Prop
def catL : List Lang → Lang
  | [], w => w = []
  | L :: Ls, w => ∃ u v, w = u ++ v ∧ L u ∧ catL Ls v
def powL (L : Lang) : Nat → Lang
  | 0, w => w = []
  | k + 1, w => ∃ u v, w = u ++ v ∧ L u ∧ powL L k v
def lgBody (op : Int) (s : BS) (mn mx : Int) (Ls : List Lang) (w : List Nat) : Prop :=
  if op = 0 then ∃ b, w = [b] ∧ s.has b = true
  else if op = 1 then catL Ls w
  else if op = 2 then ∃ L ∈ Ls, L w
  else match Ls with
    | [] => False
    | L :: _ => ∃ k : Nat, mn ≤ k ∧ (mx < 0 ∨ (k : Int) ≤ mx) ∧ powL L k w
mutual
def Nd.lg : Nd → Lang
  | .mk op s mn mx ks => lgBody op s mn mx (Nd.lgs ks)
def Nd.lgs : List Nd → List Lang
  | [] => []
  | k :: ks => Nd.lg k :: Nd.lgs ks
end
theorem Nd.lgs_eq : ∀ {l : List Nd}, Nd.lgs l = l.map Nd.lg
  | [] => rfl
  | k :: ks => by rw [Nd.lgs, Nd.lgs_eq]; rfl
theorem lg_set {s : BS} {mn mx : Int} {ks : List Nd} {w : List Nat} : (Nd.mk 0 s mn mx ks).lg w ↔ ∃ b, w = [b] ∧ s.has b = true := by rw [Nd.lg, lgBody.eq_def, if_pos rfl]
theorem lg_cat {s : BS} {mn mx : Int} {ks : List Nd} {w : List Nat} : (Nd.mk 1 s mn mx ks).lg w ↔ catL (ks.map Nd.lg) w := by rw [Nd.lg, lgBody.eq_def, if_neg (by omega), if_pos rfl, Nd.lgs_eq]
theorem lg_alt {s : BS} {mn mx : Int} {ks : List Nd} {w : List Nat} : (Nd.mk 2 s mn mx ks).lg w ↔ ∃ k ∈ ks, k.lg w := by
  rw [Nd.lg, lgBody.eq_def, if_neg (by omega), if_neg (by omega), if_pos rfl, Nd.lgs_eq]
  constructor
  · rintro ⟨L, hL, h⟩
    obtain ⟨k, hk, rfl⟩ := List.mem_map.1 hL
    exact ⟨k, hk, h⟩
  · rintro ⟨k, hk, h⟩
    exact ⟨_, List.mem_map_of_mem hk, h⟩
theorem lg_rep {s : BS} {mn mx : Int} {k : Nd} {w : List Nat} : (Nd.mk 3 s mn mx [k]).lg w ↔ ∃ c : Nat, mn ≤ c ∧ (mx < 0 ∨ (c : Int) ≤ mx) ∧ powL k.lg c w := by
  rw [Nd.lg, lgBody.eq_def, if_neg (by omega), if_neg (by omega), if_neg (by omega), Nd.lgs_eq]; rfl

/-- One behind the other. -/
def Lang.then (P L : Lang) : Lang := fun w => ∃ u v, w = u ++ v ∧ P u ∧ L v
theorem then_assoc {P L M : Lang} {w : List Nat} : (P.then L).then M w ↔ P.then (L.then M) w := by
  constructor
  · rintro ⟨u, v, rfl, ⟨a, b, rfl, h1, h2⟩, h3⟩
    exact ⟨a, b ++ v, by simp, h1, b, v, rfl, h2, h3⟩
  · rintro ⟨u, v, rfl, h1, a, b, rfl, h2, h3⟩
    exact ⟨u ++ a, b, by simp, ⟨u, a, rfl, h1, h2⟩, h3⟩
theorem then_nil {P : Lang} {w : List Nat} : P.then (fun v => v = []) w ↔ P w := by
  constructor
  · rintro ⟨u, v, rfl, h, rfl⟩; simpa using h
  · intro h; exact ⟨w, [], by simp, h, rfl⟩
theorem pow_succ' {L : Lang} : ∀ {k : Nat} {w : List Nat}, powL L (k + 1) w ↔ (powL L k : Lang).then L w
  | 0, w => by
    constructor
    · rintro ⟨u, v, rfl, h, hv⟩
      exact ⟨[], u, by rw [show v = [] from hv]; simp, rfl, h⟩
    · rintro ⟨u, v, rfl, hu, h⟩
      exact ⟨v, [], by rw [show u = [] from hu]; simp, h, rfl⟩
  | k + 1, w => by
    constructor
    · rintro ⟨u, v, rfl, h, hv⟩
      obtain ⟨a, b, rfl, h1, h2⟩ := pow_succ'.1 hv
      exact ⟨u ++ a, b, by simp, ⟨u, a, rfl, h, h1⟩, h2⟩
    · rintro ⟨u, v, rfl, ⟨a, b, rfl, h1, h2⟩, h⟩
      exact ⟨a, b ++ v, by simp, h1, pow_succ'.2 ⟨b, v, rfl, h2, h⟩⟩

/-- A walk through a machine. -/
inductive Pth (eps : List (Int × Int)) (arcs : List (Int × Int × BS)) : Int → List Nat → Int → Prop
  | nil (x : Int) : Pth eps arcs x [] x
  | eps {x y z : Int} {w : List Nat} (h : (x, y) ∈ eps) (p : Pth eps arcs y w z) : Pth eps arcs x w z
  | arc {x y z : Int} {S : BS} {b : Nat} {w : List Nat} (h : (x, y, S) ∈ arcs) (hb : S.has b = true) (p : Pth eps arcs y w z) : Pth eps arcs x (b :: w) z
theorem Pth.trans {E : List (Int × Int)} {A : List (Int × Int × BS)} {x y z : Int} {u v : List Nat} (p : Pth E A x u y) (q : Pth E A y v z) : Pth E A x (u ++ v) z := by
  induction p with
  | nil => exact q
  | eps h _ ih => exact .eps h (ih q)
  | arc h hb _ ih => exact .arc h hb (ih q)
theorem Pth.mono {E E' : List (Int × Int)} {A A' : List (Int × Int × BS)} (h1 : ∀ p ∈ E, p ∈ E') (h2 : ∀ a ∈ A, a ∈ A') {x z : Int} {w : List Nat} (p : Pth E A x w z) : Pth E' A' x w z := by
  induction p with
  | nil => exact .nil _
  | eps h _ ih => exact .eps (h1 _ h) ih
  | arc h hb _ ih => exact .arc (h2 _ h) hb ih
theorem Pth.one {E : List (Int × Int)} {A : List (Int × Int × BS)} {x y : Int} (h : (x, y) ∈ E) : Pth E A x [] y := .eps h (.nil _)

/-! What a machine's closure and steps are. -/
theorem pth_reach {E : List (Int × Int)} {A : List (Int × Int × BS)} {S : Int → Prop} {x y : Int} {w : List Nat} (p : Pth E A y w x) : w = [] → EReach E S y → EReach E S x := by
  induction p with
  | nil => exact fun _ h => h
  | eps h _ ih => exact fun e r => ih e (.step r h)
  | arc => exact fun e => by cases e
theorem reach_pth {E : List (Int × Int)} {A : List (Int × Int × BS)} {S : Int → Prop} {x : Int} : EReach E S x ↔ ∃ y, S y ∧ Pth E A y [] x := by
  constructor
  · intro h
    induction h with
    | base h => exact ⟨_, h, .nil _⟩
    | step _ e ih =>
      obtain ⟨y, h1, h2⟩ := ih
      exact ⟨y, h1, by simpa using h2.trans (.one e)⟩
  · rintro ⟨y, h, p⟩
    exact pth_reach p rfl (.base h)
theorem pth_cons {E : List (Int × Int)} {A : List (Int × Int × BS)} {x z : Int} {b : Nat} {w : List Nat} : Pth E A x (b :: w) z ↔ ∃ y y' S, Pth E A x [] y ∧ (y, y', S) ∈ A ∧ S.has b = true ∧ Pth E A y' w z := by
  constructor
  · intro p
    generalize hu : b :: w = u at p
    induction p with
    | nil => cases hu
    | eps h _ ih =>
      obtain ⟨y, y', S, p1, p2⟩ := ih hu
      exact ⟨y, y', S, .eps h p1, p2⟩
    | arc h hb p _ =>
      cases hu
      exact ⟨_, _, _, .nil _, h, hb, p⟩
  · rintro ⟨y, y', S, p, h, hb, q⟩
    exact p.trans (.arc h hb q)
theorem pth_range {E : List (Int × Int)} {A : List (Int × Int × BS)} {n : Nat} (hE : ∀ p ∈ E, inR n p.1 ∧ inR n p.2) (hA : ∀ a ∈ A, inR n a.1 ∧ inR n a.2.1) {x y : Int} {w : List Nat} (p : Pth E A x w y) : inR n x → inR n y := by
  induction p with
  | nil => exact id
  | eps h _ ih => exact fun _ => ih (hE _ h).2
  | arc h _ _ ih => exact fun _ => ih (hA _ h).2

theorem run_pth {m : Mch} (hok : m.ok) : ∀ {w : List Nat} {l : List Int} {x : Int}, x ∈ m.run (m.clo l) w ↔ ∃ y ∈ l, inR m.count y ∧ Pth m.eps m.arcs y w x
  | [], l, x => by
    rw [Mch.run, Mch.mem_clo, reach_pth (A := m.arcs)]
    constructor
    · rintro ⟨_, y, ⟨h1, h2⟩, p⟩; exact ⟨y, h1, h2, p⟩
    · rintro ⟨y, h1, h2, p⟩
      exact ⟨pth_range hok.1 hok.2.1 p h2, y, ⟨h1, h2⟩, p⟩
  | b :: w, l, x => by
    rw [Mch.run, Mch.step, run_pth hok]
    constructor
    · rintro ⟨y', hy, hr, p⟩
      obtain ⟨a, ha, rfl⟩ := List.mem_map.1 hy
      obtain ⟨h1, h2⟩ := List.mem_filter.1 ha
      simp only [Bool.and_eq_true, decide_eq_true_eq] at h2
      obtain ⟨_, h3⟩ := Mch.mem_clo.1 h2.1
      obtain ⟨y, ⟨q1, q2⟩, q3⟩ := (reach_pth (A := m.arcs)).1 h3
      exact ⟨y, q1, q2, pth_cons.2 ⟨a.1, a.2.1, a.2.2, q3, h1, h2.2, p⟩⟩
    · rintro ⟨y, h1, h2, p⟩
      obtain ⟨z, y', S, p1, p2, p3, p4⟩ := pth_cons.1 p
      have hz := pth_range hok.1 hok.2.1 p1 h2
      refine ⟨y', List.mem_map.2 ⟨(z, y', S), List.mem_filter.2 ⟨p2, ?_⟩, rfl⟩, (hok.2.1 _ p2).2, p4⟩
      simp only [Bool.and_eq_true, decide_eq_true_eq]
      exact ⟨Mch.mem_clo.2 ⟨hz, (reach_pth (A := m.arcs)).2 ⟨y, ⟨h1, h2⟩, p1⟩⟩, p3⟩

theorem whole_pth {m : Mch} (hok : m.ok) {w : List Nat} : m.whole w = true ↔ Pth m.eps m.arcs m.start w m.stop := by
  unfold Mch.whole
  rw [decide_eq_true_eq, run_pth hok]
  constructor
  · rintro ⟨y, h1, _, p⟩
    simp at h1; subst h1; exact p
  · intro p
    exact ⟨m.start, by simp, hok.2.2.1, p⟩

end Go.Ax

namespace Go.Ax
open Go Go.Proofs Go.RowKit

/-- Labels that the steps keep. -/
def Resp (lab : Int → Lang) (s : Bs) : Prop :=
  (∀ p ∈ s.eps, ∀ u, lab p.1 u → lab p.2 u) ∧ ∀ a ∈ s.arcs, ∀ u b, lab a.1 u → a.2.2.has b = true → lab a.2.1 (u ++ [b])
theorem resp_pth {lab : Int → Lang} {s : Bs} (h : Resp lab s) {x y : Int} {w : List Nat} (p : Pth s.eps s.arcs x w y) : ∀ u, lab x u → lab y (u ++ w) := by
  induction p with
  | nil => intro u hu; simpa using hu
  | eps e _ ih => exact fun u hu => ih u (h.1 _ e u hu)
  | arc e hb _ ih =>
    intro u hu
    have := ih _ (h.2 _ e u _ hu hb)
    simpa using this

/-- Labels that are alike up to so many states. -/
def Alike (n : Nat) (lab lab' : Int → Lang) : Prop := ∀ q : Int, q < n → ∀ u, lab' q u ↔ lab q u
theorem Resp.alike {lab lab' : Int → Lang} {s : Bs} (h : Resp lab s) (hi : s.inv) (e : Alike s.count lab lab') : Resp lab' s := by
  refine ⟨fun p hp u hu => ?_, fun a ha u b hu hb => ?_⟩
  · have := hi.1 p hp
    unfold inR at this
    exact (e _ this.2.2 u).2 (h.1 p hp u ((e _ this.1.2 u).1 hu))
  · have := hi.2.1 a ha
    unfold inR at this
    exact (e _ this.2.2 _).2 (h.2 a ha u b ((e _ this.1.2 u).1 hu) hb)
theorem Alike.trans {n k : Nat} {a b c : Int → Lang} (h : Alike n a b) (g : Alike k b c) (hk : n ≤ k) : Alike n a c := fun q hq u => (g q (by omega) u).trans (h q hq u)
theorem Alike.rfl {n : Nat} {a : Int → Lang} : Alike n a a := fun _ _ _ => Iff.rfl

/-- Whatever comes to the beginning, what comes to the end is that and a text of the pattern. -/
def Snd (f : Bs → Bs) (L : Lang) : Prop := ∀ (s : Bs) (lab : Int → Lang) (P : Lang), s.inv → Resp lab s → ∃ lab', Alike s.count lab lab' ∧ Resp lab' (f s) ∧ (∀ u, P u → lab' s.count u) ∧ ∀ u, lab' ((s.count + 1 : Nat) : Int) u → P.then L u

theorem resp_eps1 {lab : Int → Lang} {s : Bs} {a b : Nat} (h : Resp lab s) (e : ∀ u, lab a u → lab b u) : Resp lab (s.eps1 a b) := by
  refine ⟨fun p hp => ?_, h.2⟩
  simp only [Bs.eps1, List.mem_append, List.mem_singleton] at hp
  rcases hp with hp | rfl
  · exact h.1 p hp
  · exact e

/-- The labels of a new piece's two states. -/
def lab2 (lab : Int → Lang) (n : Nat) (P R : Lang) : Int → Lang := fun q => if q = (n : Int) then P else if q = ((n + 1 : Nat) : Int) then R else lab q
theorem lab2_alike {lab : Int → Lang} {n : Nat} {P R : Lang} : Alike n lab (lab2 lab n P R) := fun q hq u => by
  unfold lab2
  rw [if_neg (by omega), if_neg (by omega)]
theorem lab2_b {lab : Int → Lang} {n : Nat} {P R : Lang} {u : List Nat} : lab2 lab n P R n u ↔ P u := by unfold lab2; rw [if_pos rfl]
theorem lab2_e {lab : Int → Lang} {n : Nat} {P R : Lang} {u : List Nat} : lab2 lab n P R ((n + 1 : Nat) : Int) u ↔ R u := by unfold lab2; rw [if_neg (by omega), if_pos rfl]
theorem resp_new {lab : Int → Lang} {s : Bs} (h : Resp lab s) (hi : s.inv) {P R : Lang} : Resp (lab2 lab s.count P R) s.new :=
  (h.alike hi lab2_alike : Resp (lab2 lab s.count P R) s)

/-- One piece goes on. -/
theorem snd_on {f : Bs → Bs} {L : Lang} (hf : Snd f L) (hg : Fg f) {p : Bs × Nat} {lab : Int → Lang} {P : Lang} (hi : p.1.inv) (hr : Resp lab p.1) (hp : p.2 < p.1.count) (hP : ∀ u, lab p.2 u → P u) :
    ∃ lab', Alike p.1.count lab lab' ∧ Resp lab' (onF f p).1 ∧ ∀ u, lab' ((onF f p).2 : Int) u → P.then L u := by
  obtain ⟨lab', a, r, x, y⟩ := hf p.1 lab P hi hr
  refine ⟨lab', a, resp_eps1 r fun u hu => x u (hP u ((a _ (by omega) u).1 hu)), y⟩

theorem snd_cat : ∀ {ks : List Nd} {p : Bs × Nat} {lab : Int → Lang} {P : Lang}, (∀ k ∈ ks, Fg k.pc ∧ Snd k.pc k.lg) → p.1.inv → Resp lab p.1 → p.2 < p.1.count → (∀ u, lab p.2 u → P u) →
    ∃ lab', Alike p.1.count lab lab' ∧ Resp lab' ((ks.map Nd.pc).foldl (fun p f => onF f p) p).1 ∧ ∀ u, lab' (((ks.map Nd.pc).foldl (fun p f => onF f p) p).2 : Int) u → P.then (catL (ks.map Nd.lg)) u
  | [], p, lab, P, _, _, hr, _, hP => ⟨lab, Alike.rfl, hr, fun u hu => then_nil.2 (hP u hu)⟩
  | k :: ks, p, lab, P, hg, hi, hr, hp, hP => by
    obtain ⟨lab1, a1, r1, x1⟩ := snd_on (hg k (by simp)).2 (hg k (by simp)).1 hi hr hp hP
    obtain ⟨i2, p2, c2⟩ := fg_on (hg k (by simp)).1 hi hp
    obtain ⟨lab2, a2, r2, x2⟩ := snd_cat (ks := ks) (p := onF k.pc p) (P := P.then k.lg) (fun g hg' => hg g (by simp [hg'])) i2 r1 p2 x1
    exact ⟨lab2, a1.trans a2 (by omega), r2, fun u hu => then_assoc.1 (x2 u hu)⟩

theorem snd_rpt {f : Bs → Bs} {L : Lang} (hf : Snd f L) (hg : Fg f) : ∀ (n : Nat) {p : Bs × Nat} {lab : Int → Lang} {P : Lang}, p.1.inv → Resp lab p.1 → p.2 < p.1.count → (∀ u, lab p.2 u → P u) →
    ∃ lab', Alike p.1.count lab lab' ∧ Resp lab' (rpt (onF f) n p).1 ∧ ∀ u, lab' ((rpt (onF f) n p).2 : Int) u → P.then (powL L n) u
  | 0, p, lab, P, _, hr, _, hP => ⟨lab, Alike.rfl, hr, fun u hu => then_nil.2 (hP u hu)⟩
  | n + 1, p, lab, P, hi, hr, hp, hP => by
    obtain ⟨lab1, a1, r1, x1⟩ := snd_rpt hf hg n hi hr hp hP
    obtain ⟨i1, p1, c1⟩ := fg_rpt (g := onF f) (c := 0) (fun p x y _ => by obtain ⟨u, v, w⟩ := fg_on hg x y; exact ⟨u, v, by omega⟩) n p hi hp (by omega)
    obtain ⟨lab2, a2, r2, x2⟩ := snd_on hf hg i1 r1 p1 x1
    refine ⟨lab2, a1.trans a2 c1, r2, fun u hu => ?_⟩
    obtain ⟨y, z, e, h1, h2⟩ := then_assoc.1 (x2 u hu)
    exact ⟨y, z, e, h1, pow_succ'.2 h2⟩

theorem pow_add {L : Lang} {j : Nat} : ∀ {k : Nat} {w : List Nat}, (powL L j : Lang).then (powL L k) w → powL L (j + k) w
  | 0, w, h => then_nil.1 h
  | k + 1, w, ⟨u, v, e, h1, h2⟩ => by
    subst e
    obtain ⟨a, b, e, h3, h4⟩ := pow_succ'.1 h2
    subst e
    exact pow_succ'.2 ⟨u ++ a, b, by simp, pow_add ⟨u, a, rfl, h1, h3⟩, h4⟩

theorem snd_alt {b e : Nat} : ∀ {ks : List Nd} {s : Bs} {lab : Int → Lang} {P : Lang}, (∀ k ∈ ks, Fg k.pc ∧ Snd k.pc k.lg) → s.inv → Resp lab s → b < s.count → e < s.count → (∀ u, lab b u → P u) →
    (∀ k ∈ ks, ∀ u, P.then k.lg u → lab e u) → ∃ lab', Alike s.count lab lab' ∧ Resp lab' ((ks.map Nd.pc).foldl (altF b e) s)
  | [], s, lab, P, _, _, hr, _, _, _, _ => ⟨lab, Alike.rfl, hr⟩
  | k :: ks, s, lab, P, hg, hi, hr, hb, he, hP, hR => by
    obtain ⟨lab1, a1, r1, x1, y1⟩ := (hg k (by simp)).2 s lab P hi hr
    obtain ⟨i1, c1⟩ := (hg k (by simp)).1 s hi
    have r2 : Resp lab1 (altF b e s k.pc) := resp_eps1 (resp_eps1 r1 fun u hu => x1 u (hP u ((a1 _ (by omega) u).1 hu))) fun u hu => (a1 _ (by omega) u).2 (hR k (by simp) u (y1 u hu))
    have i2 : (altF b e s k.pc).inv := (i1.eps1 (by omega) (by omega)).eps1 (by rw [Bs.eps1_count]; omega) (by rw [Bs.eps1_count]; omega)
    have c2 : (altF b e s k.pc).count = (k.pc s).count := rfl
    obtain ⟨lab2, a2, r3⟩ := snd_alt (b := b) (e := e) (ks := ks) (s := altF b e s k.pc) (lab := lab1) (P := P) (fun g hg' => hg g (by simp [hg'])) i2 r2 (by omega) (by omega)
      (fun u hu => hP u ((a1 _ (by omega) u).1 hu)) (fun k' hk' u hu => (a1 _ (by omega) u).2 (hR k' (by simp [hk']) u hu))
    exact ⟨lab2, a1.trans a2 (by omega), r3⟩

theorem snd_opt {f : Bs → Bs} {L : Lang} (hf : Snd f L) (hg : Fg f) {e : Nat} : ∀ (n : Nat) {p : Bs × Nat} {lab : Int → Lang} {P : Lang}, p.1.inv → Resp lab p.1 → p.2 < p.1.count → e < p.1.count → (∀ u, lab p.2 u → P u) →
    (∀ k, k < n → ∀ u, P.then (powL L k) u → lab e u) →
    ∃ lab', Alike p.1.count lab lab' ∧ Resp lab' (rpt (fun p => onF f (p.1.eps1 p.2 e, p.2)) n p).1 ∧ ∀ u, lab' ((rpt (fun p => onF f (p.1.eps1 p.2 e, p.2)) n p).2 : Int) u → P.then (powL L n) u
  | 0, p, lab, P, _, hr, _, _, hP, _ => ⟨lab, Alike.rfl, hr, fun u hu => then_nil.2 (hP u hu)⟩
  | n + 1, p, lab, P, hi, hr, hp, he, hP, hR => by
    obtain ⟨lab1, a1, r1, x1⟩ := snd_opt hf hg n hi hr hp he hP fun k hk => hR k (by omega)
    obtain ⟨i1, p1, c1⟩ := fg_rpt (g := fun p => onF f (p.1.eps1 p.2 e, p.2)) (c := p.1.count) (fun q x y z => by
      obtain ⟨u, v, w⟩ := fg_on hg (p := (q.1.eps1 q.2 e, q.2)) (x.eps1 y (by omega)) y
      exact ⟨u, v, by simp only [Bs.eps1_count] at w; omega⟩) n p hi hp (by omega)
    have r2 := resp_eps1 (a := (rpt (fun p => onF f (p.1.eps1 p.2 e, p.2)) n p).2) (b := e) r1 fun u hu => (a1 _ (by omega) u).2 (hR n (by omega) u (x1 u hu))
    obtain ⟨lab2, a2, r3, x3⟩ := snd_on hf hg (p := ((rpt (fun p => onF f (p.1.eps1 p.2 e, p.2)) n p).1.eps1 (rpt (fun p => onF f (p.1.eps1 p.2 e, p.2)) n p).2 e, (rpt (fun p => onF f (p.1.eps1 p.2 e, p.2)) n p).2)) (i1.eps1 p1 (by omega)) r2 p1 x1
    refine ⟨lab2, a1.trans a2 c1, r3, fun u hu => ?_⟩
    obtain ⟨y, z, q, h1, h2⟩ := then_assoc.1 (x3 u hu)
    exact ⟨y, z, q, h1, pow_succ'.2 h2⟩

theorem pc_snd {n : Nd} (g : n.Good) : Snd n.pc n.lg := by
  have full : ∀ {n : Nd} {s : Bs} {lab : Int → Lang} {P L : Lang}, s.inv → Resp lab s → s.new.full = true → ∃ lab', Alike s.count lab lab' ∧ Resp lab' (n.pc s) ∧ (∀ u, P u → lab' s.count u) ∧ ∀ u, lab' ((s.count + 1 : Nat) : Int) u → P.then L u := fun {n s lab P L} hi hr hf => by
    refine ⟨lab2 lab s.count P (fun _ => False), lab2_alike, ?_, fun u hu => lab2_b.2 hu, fun u hu => (lab2_e.1 hu).elim⟩
    rw [pc_full hf]; exact resp_new hr hi
  induction g with
  | @set st mn mx =>
    intro s lab P hi hr
    by_cases hf : s.new.full = true
    · exact full hi hr hf
    · refine ⟨lab2 lab s.count P (P.then (Nd.mk 0 st mn mx []).lg), lab2_alike, ?_, fun u hu => lab2_b.2 hu, fun u hu => lab2_e.1 hu⟩
      rw [pc_set hf]
      have h0 := resp_new (P := P) (R := P.then (Nd.mk 0 st mn mx []).lg) hr hi
      refine ⟨h0.1, fun a ha => ?_⟩
      simp only [List.mem_append, List.mem_singleton] at ha
      rcases ha with ha | rfl
      · exact h0.2 a ha
      · intro u b hu hb
        exact lab2_e.2 ⟨u, [b], rfl, lab2_b.1 hu, lg_set.2 ⟨b, rfl, hb⟩⟩
  | @cat st mn mx ks hk ih =>
    intro s lab P hi hr
    by_cases hf : s.new.full = true
    · exact full hi hr hf
    · have h0 := resp_new (P := P) (R := P.then (Nd.mk 1 st mn mx ks).lg) hr hi
      obtain ⟨lab1, a1, r1, x1⟩ := snd_cat (ks := ks) (p := (s.new, s.count)) (P := P) (fun k hk' => ⟨pc_inv (hk k hk'), ih k hk'⟩) hi.new h0 (by simp [Bs.new]) (fun u hu => lab2_b.1 hu)
      refine ⟨lab1, lab2_alike.trans a1 (by simp [Bs.new]), ?_, fun u hu => (a1 _ (by simp only [Bs.new_count]; omega) u).2 (lab2_b.2 hu), fun u hu => lab2_e.1 ((a1 _ (by simp only [Bs.new_count]; omega) u).1 hu)⟩
      rw [pc_cat hf]
      refine resp_eps1 r1 fun u hu => (a1 _ (by simp only [Bs.new_count]; omega) u).2 (lab2_e.2 ?_)
      obtain ⟨y, z, q, h1, h2⟩ := x1 u hu
      exact ⟨y, z, q, h1, lg_cat.2 h2⟩
  | @alt st mn mx ks hk ih =>
    intro s lab P hi hr
    by_cases hf : s.new.full = true
    · exact full hi hr hf
    · have h0 := resp_new (P := P) (R := P.then (Nd.mk 2 st mn mx ks).lg) hr hi
      obtain ⟨lab1, a1, r1⟩ := snd_alt (b := s.count) (e := s.count + 1) (ks := ks) (s := s.new) (P := P) (fun k hk' => ⟨pc_inv (hk k hk'), ih k hk'⟩) hi.new h0 (by simp [Bs.new]) (by simp [Bs.new]) (fun u hu => lab2_b.1 hu) (fun k hk' u hu => by
        obtain ⟨y, z, q, h1, h2⟩ := hu
        exact lab2_e.2 ⟨y, z, q, h1, lg_alt.2 ⟨k, hk', h2⟩⟩)
      refine ⟨lab1, lab2_alike.trans a1 (by simp [Bs.new]), ?_, fun u hu => (a1 _ (by simp only [Bs.new_count]; omega) u).2 (lab2_b.2 hu), fun u hu => lab2_e.1 ((a1 _ (by simp only [Bs.new_count]; omega) u).1 hu)⟩
      rw [pc_alt hf]; exact r1
  | @rep st mn mx k hk h1 h2 h3 h4 ih =>
    intro s lab P hi hr
    by_cases hf : s.new.full = true
    · exact full hi hr hf
    · have hg := pc_inv hk
      have h0 := resp_new (P := P) (R := P.then (Nd.mk 3 st mn mx [k]).lg) hr hi
      obtain ⟨lab1, a1, r1, x1⟩ := snd_rpt ih hg mn.toNat (p := (s.new, s.count)) (P := P) hi.new h0 (by simp [Bs.new]) (fun u hu => lab2_b.1 hu)
      obtain ⟨i1, p1, c1⟩ := fg_rpt (g := onF k.pc) (c := 0) (fun p x y _ => by obtain ⟨u, v, w⟩ := fg_on hg x y; exact ⟨u, v, by omega⟩) mn.toNat (s.new, s.count) hi.new (by simp [Bs.new]) (by omega)
      simp only [Bs.new_count] at c1
      rw [pc_rep hf]
      simp only [againF]
      generalize rpt (onF k.pc) mn.toNat (s.new, s.count) = q at *
      have aE : ∀ {lab' : Int → Lang} {m : Nat}, Alike m lab1 lab' → s.count + 2 ≤ m → ∀ u, lab' ((s.count + 1 : Nat) : Int) u ↔ P.then (Nd.mk 3 st mn mx [k]).lg u := fun a hm u =>
        (a _ (by omega) u).trans ((a1 _ (by simp only [Bs.new_count]; omega) u).trans lab2_e)
      have aB : ∀ {lab' : Int → Lang} {m : Nat}, Alike m lab1 lab' → s.count + 2 ≤ m → ∀ u, lab' (s.count : Int) u ↔ P u := fun a hm u =>
        (a _ (by omega) u).trans ((a1 _ (by simp only [Bs.new_count]; omega) u).trans lab2_b)
      have aA : ∀ {lab' : Int → Lang} {m : Nat}, Alike m lab1 lab' → s.count ≤ m → Alike s.count lab lab' := fun a hm => (lab2_alike.trans a1 (by simp only [Bs.new_count]; omega)).trans a hm
      split
      · rename_i hneg
        obtain ⟨lab2', a2, r2, x2, y2⟩ := ih q.1 lab1 (P.then (Nd.mk 3 st mn mx [k]).lg) i1 r1
        obtain ⟨i2, c2⟩ := hg q.1 i1
        have here : ∀ u, lab2' (q.2 : Int) u → P.then (Nd.mk 3 st mn mx [k]).lg u := fun u hu => by
          obtain ⟨y, z, e, w1, w2⟩ := x1 u ((a2 _ (by omega) u).1 hu)
          exact ⟨y, z, e, w1, lg_rep.2 ⟨mn.toNat, by omega, .inl hneg, w2⟩⟩
        have back : ∀ u, lab2' ((q.1.count + 1 : Nat) : Int) u → P.then (Nd.mk 3 st mn mx [k]).lg u := fun u hu => by
          obtain ⟨y, z, e, w1, w2⟩ := then_assoc.1 (y2 u hu)
          obtain ⟨a, b, e2, w3, w4⟩ := w2
          obtain ⟨c, d1, d2, d3⟩ := lg_rep.1 w3
          exact ⟨y, z, e, w1, lg_rep.2 ⟨c + 1, by omega, .inl hneg, pow_succ'.2 ⟨a, b, e2, d3, w4⟩⟩⟩
        refine ⟨lab2', aA a2 (by omega), ?_, fun u hu => (aB a2 (by omega) u).2 hu, fun u hu => (aE a2 (by omega) u).1 hu⟩
        refine resp_eps1 (resp_eps1 (resp_eps1 (resp_eps1 r2 fun u hu => x2 u (here u hu)) fun u hu => x2 u (back u hu)) fun u hu => (aE a2 (by omega) u).2 (back u hu)) fun u hu => (aE a2 (by omega) u).2 (here u hu)
      · rename_i hpos
        obtain ⟨lab2', a2, r2, x2⟩ := snd_opt ih hg (e := s.count + 1) (mx - mn).toNat (p := q) (lab := lab1) (P := P.then (powL k.lg mn.toNat)) i1 r1 p1 (by omega) x1 (fun j hj u hu => by
          refine (aE (Alike.rfl (n := s.count + 2)) (by omega) u).2 ?_
          obtain ⟨y, z, e, w1, w2⟩ := then_assoc.1 hu
          exact ⟨y, z, e, w1, lg_rep.2 ⟨mn.toNat + j, by omega, .inr (by omega), pow_add w2⟩⟩)
        refine ⟨lab2', aA a2 (by omega), ?_, fun u hu => (aB a2 (by omega) u).2 hu, fun u hu => (aE a2 (by omega) u).1 hu⟩
        refine resp_eps1 r2 fun u hu => (aE a2 (by omega) u).2 ?_
        obtain ⟨y, z, e, w1, w2⟩ := then_assoc.1 (x2 u hu)
        exact ⟨y, z, e, w1, lg_rep.2 ⟨mn.toNat + (mx - mn).toNat, by omega, .inr (by omega), pow_add w2⟩⟩

end Go.Ax

namespace Go.Ax
open Go Go.Proofs Go.RowKit

theorem Pth.fin {E : List (Int × Int)} {A : List (Int × Int × BS)} {x y z : Int} {w : List Nat} (p : Pth E A x w y) (h : (y, z) ∈ E) : Pth E A x w z := by simpa using p.trans (.one h)

def SubB (s s' : Bs) : Prop := (∀ p ∈ s.eps, p ∈ s'.eps) ∧ (∀ a ∈ s.arcs, a ∈ s'.arcs) ∧ (s'.full = false → s.full = false)
theorem SubB.rfl {s : Bs} : SubB s s := ⟨fun _ h => h, fun _ h => h, id⟩
theorem SubB.trans {a b c : Bs} (h : SubB a b) (g : SubB b c) : SubB a c := ⟨fun p hp => g.1 p (h.1 p hp), fun p hp => g.2.1 p (h.2.1 p hp), fun q => h.2.2 (g.2.2 q)⟩
theorem SubB.eps1 {s : Bs} {a b : Nat} : SubB s (s.eps1 a b) := ⟨fun p hp => by simp [Bs.eps1, hp], fun _ h => h, id⟩
theorem eps1_mem {s : Bs} {a b : Nat} : ((a : Int), (b : Int)) ∈ (s.eps1 a b).eps := by simp [Bs.eps1]
theorem SubB.new {s : Bs} : SubB s s.new := ⟨fun _ h => h, fun _ h => h, fun q => by simp [Bs.new] at q; exact q.1⟩
theorem SubB.pth {s s' : Bs} (h : SubB s s') {x y : Int} {w : List Nat} (p : Pth s.eps s.arcs x w y) : Pth s'.eps s'.arcs x w y := p.mono h.1 h.2.1
def Fsb (f : Bs → Bs) : Prop := ∀ s : Bs, SubB s (f s)
theorem sub_on {f : Bs → Bs} (hf : Fsb f) (p : Bs × Nat) : SubB p.1 (onF f p).1 := (hf p.1).trans .eps1
theorem sub_rpt {g : Bs × Nat → Bs × Nat} (hg : ∀ p : Bs × Nat, SubB p.1 (g p).1) : ∀ (n : Nat) (p : Bs × Nat), SubB p.1 (rpt g n p).1
  | 0, _ => .rfl
  | n + 1, p => (sub_rpt hg n p).trans (hg _)
theorem sub_cat : ∀ {ks : List Nd} {p : Bs × Nat}, (∀ k ∈ ks, Fsb k.pc) → SubB p.1 ((ks.map Nd.pc).foldl (fun p f => onF f p) p).1
  | [], _, _ => .rfl
  | k :: ks, p, h => (sub_on (h k (by simp)) p).trans (sub_cat (ks := ks) (p := onF k.pc p) fun k' hk => h k' (by simp [hk]))
theorem sub_altF {f : Bs → Bs} (hf : Fsb f) {b e : Nat} {s : Bs} : SubB s (altF b e s f) := ((hf s).trans .eps1).trans .eps1
theorem sub_alt {b e : Nat} : ∀ {ks : List Nd} {s : Bs}, (∀ k ∈ ks, Fsb k.pc) → SubB s ((ks.map Nd.pc).foldl (altF b e) s)
  | [], _, _ => .rfl
  | k :: ks, s, h => (sub_altF (h k (by simp))).trans (sub_alt (ks := ks) (s := altF b e s k.pc) fun k' hk => h k' (by simp [hk]))

theorem pc_sub {n : Nd} (g : n.Good) : Fsb n.pc := by
  induction g with
  | set =>
    intro s
    by_cases hf : s.new.full = true
    · rw [pc_full hf]; exact .new
    · rw [pc_set hf]
      exact SubB.trans .new ⟨fun _ h => h, fun a h => by simp; exact .inl h, id⟩
  | @cat st mn mx ks hk ih =>
    intro s
    by_cases hf : s.new.full = true
    · rw [pc_full hf]; exact .new
    · rw [pc_cat hf]
      exact (SubB.new.trans (sub_cat (p := (s.new, s.count)) ih)).trans .eps1
  | @alt st mn mx ks hk ih =>
    intro s
    by_cases hf : s.new.full = true
    · rw [pc_full hf]; exact .new
    · rw [pc_alt hf]
      exact SubB.new.trans (sub_alt ih)
  | @rep st mn mx k hk h1 h2 h3 h4 ih =>
    intro s
    by_cases hf : s.new.full = true
    · rw [pc_full hf]; exact .new
    · rw [pc_rep hf]
      have a := sub_rpt (g := onF k.pc) (fun p => sub_on ih p) mn.toNat (s.new, s.count)
      simp only [againF]
      split
      · exact ((((SubB.new.trans a).trans (sub_on ih _)).trans .eps1).trans .eps1).trans .eps1
      · exact ((SubB.new.trans a).trans (sub_rpt (g := fun p => onF k.pc (p.1.eps1 p.2 (s.count + 1), p.2)) (fun p => SubB.eps1.trans (sub_on ih (p.1.eps1 p.2 (s.count + 1), p.2))) _ _)).trans .eps1

def Cmp (f : Bs → Bs) (L : Lang) : Prop := ∀ s : Bs, (f s).full = false → ∀ w, L w → Pth (f s).eps (f s).arcs s.count w ((s.count + 1 : Nat) : Int)

theorem cmp_on {f : Bs → Bs} {L : Lang} (hf : Cmp f L) {p : Bs × Nat} (h : (onF f p).1.full = false) {w : List Nat} (hw : L w) : Pth (onF f p).1.eps (onF f p).1.arcs p.2 w ((onF f p).2 : Int) := by
  have h1 : (f p.1).full = false := h
  have p1 := (SubB.eps1 (s := f p.1) (a := p.2) (b := p.1.count)).pth (hf p.1 h1 w hw)
  exact .eps (eps1_mem (s := f p.1)) p1
theorem cmp_cat : ∀ {ks : List Nd} {p : Bs × Nat}, (∀ k ∈ ks, Cmp k.pc k.lg ∧ Fsb k.pc) → ((ks.map Nd.pc).foldl (fun p f => onF f p) p).1.full = false → ∀ {w : List Nat}, catL (ks.map Nd.lg) w →
    Pth ((ks.map Nd.pc).foldl (fun p f => onF f p) p).1.eps ((ks.map Nd.pc).foldl (fun p f => onF f p) p).1.arcs p.2 w (((ks.map Nd.pc).foldl (fun p f => onF f p) p).2 : Int)
  | [], p, _, _, w, hw => by rw [show w = [] from hw]; exact .nil _
  | k :: ks, p, h, hf, w, ⟨u, v, e, h1, h2⟩ => by
    subst e
    have sb := sub_cat (ks := ks) (p := onF k.pc p) fun k' hk => (h k' (by simp [hk])).2
    exact (sb.pth (cmp_on (h k (by simp)).1 (sb.2.2 hf) h1)).trans (cmp_cat (ks := ks) (p := onF k.pc p) (fun k' hk => h k' (by simp [hk])) hf h2)
theorem cmp_rpt {f : Bs → Bs} {L : Lang} (hf : Cmp f L) (hs : Fsb f) : ∀ (n : Nat) {p : Bs × Nat}, (rpt (onF f) n p).1.full = false → ∀ {w : List Nat}, powL L n w → Pth (rpt (onF f) n p).1.eps (rpt (onF f) n p).1.arcs p.2 w ((rpt (onF f) n p).2 : Int)
  | 0, p, _, w, hw => by rw [show w = [] from hw]; exact .nil _
  | n + 1, p, hfu, w, hw => by
    obtain ⟨u, v, e, h1, h2⟩ := pow_succ'.1 hw
    subst e
    have sb := sub_on hs (rpt (onF f) n p)
    exact (sb.pth (cmp_rpt hf hs n (sb.2.2 hfu) h1)).trans (cmp_on hf hfu h2)
theorem cmp_alt {b e : Nat} : ∀ {ks : List Nd} {s : Bs}, (∀ k ∈ ks, Cmp k.pc k.lg ∧ Fsb k.pc) → ((ks.map Nd.pc).foldl (altF b e) s).full = false → ∀ {k : Nd} {w : List Nat}, k ∈ ks → k.lg w →
    Pth ((ks.map Nd.pc).foldl (altF b e) s).eps ((ks.map Nd.pc).foldl (altF b e) s).arcs b w e
  | k :: ks, s, h, hf, k', w, hk, hw => by
    have sb := sub_alt (b := b) (e := e) (ks := ks) (s := altF b e s k.pc) fun k' hk => (h k' (by simp [hk])).2
    rcases List.mem_cons.1 hk with rfl | hk
    · refine sb.pth ?_
      have h1 : (k'.pc s).full = false := sb.2.2 hf
      have p1 := (SubB.eps1.trans SubB.eps1 : SubB (k'.pc s) (altF b e s k'.pc)).pth ((h k' (by simp)).1 s h1 w hw)
      have e1 : ((b : Int), (s.count : Int)) ∈ (altF b e s k'.pc).eps := SubB.eps1.1 _ (eps1_mem (s := k'.pc s))
      have e2 : (((s.count + 1 : Nat) : Int), (e : Int)) ∈ (altF b e s k'.pc).eps := eps1_mem
      have := (Pth.one e1).trans (p1.trans (.one e2))
      simpa using this
    · exact cmp_alt (ks := ks) (s := altF b e s k.pc) (fun k' hk => h k' (by simp [hk])) hf hk hw
theorem cmp_opt {f : Bs → Bs} {L : Lang} (hf : Cmp f L) (hs : Fsb f) {e : Nat} : ∀ (n : Nat) {p : Bs × Nat}, (rpt (fun p => onF f (p.1.eps1 p.2 e, p.2)) n p).1.full = false →
    (∀ {w : List Nat}, powL L n w → Pth (rpt (fun p => onF f (p.1.eps1 p.2 e, p.2)) n p).1.eps (rpt (fun p => onF f (p.1.eps1 p.2 e, p.2)) n p).1.arcs p.2 w ((rpt (fun p => onF f (p.1.eps1 p.2 e, p.2)) n p).2 : Int)) ∧
    ∀ {j : Nat} {w : List Nat}, j < n → powL L j w → Pth (rpt (fun p => onF f (p.1.eps1 p.2 e, p.2)) n p).1.eps (rpt (fun p => onF f (p.1.eps1 p.2 e, p.2)) n p).1.arcs p.2 w e
  | 0, p, _ => ⟨fun hw => by rw [show _ = [] from hw]; exact .nil _, fun h => by omega⟩
  | n + 1, p, hfu => by
    have s1 : SubB (rpt (fun p => onF f (p.1.eps1 p.2 e, p.2)) n p).1 ((rpt (fun p => onF f (p.1.eps1 p.2 e, p.2)) n p).1.eps1 (rpt (fun p => onF f (p.1.eps1 p.2 e, p.2)) n p).2 e) := .eps1
    have s2 := sub_on hs ((rpt (fun p => onF f (p.1.eps1 p.2 e, p.2)) n p).1.eps1 (rpt (fun p => onF f (p.1.eps1 p.2 e, p.2)) n p).2 e, (rpt (fun p => onF f (p.1.eps1 p.2 e, p.2)) n p).2)
    have sb := s1.trans s2
    obtain ⟨c1, c2⟩ := cmp_opt hf hs n (p := p) (sb.2.2 hfu)
    refine ⟨fun hw => ?_, fun {j w} hj hw => ?_⟩
    · obtain ⟨u, v, q, h1, h2⟩ := pow_succ'.1 hw
      subst q
      exact (sb.pth (c1 h1)).trans (cmp_on hf (p := ((rpt (fun p => onF f (p.1.eps1 p.2 e, p.2)) n p).1.eps1 (rpt (fun p => onF f (p.1.eps1 p.2 e, p.2)) n p).2 e, (rpt (fun p => onF f (p.1.eps1 p.2 e, p.2)) n p).2)) hfu h2)
    · by_cases hjn : j < n
      · exact sb.pth (c2 hjn hw)
      · have : j = n := by omega
        subst this
        exact (sb.pth (c1 hw)).fin (s2.1 _ eps1_mem)

theorem pow_split {L : Lang} : ∀ {a b : Nat} {w : List Nat}, powL L (a + b) w → (powL L a : Lang).then (powL L b) w
  | 0, b, w, h => ⟨[], w, by simp, rfl, by simpa using h⟩
  | a + 1, b, w, h => by
    rw [show a + 1 + b = (a + b) + 1 by omega] at h
    obtain ⟨u, v, e, h1, h2⟩ := h
    subst e
    obtain ⟨x, y, e, h3, h4⟩ := pow_split h2
    subst e
    exact ⟨u ++ x, y, by simp, ⟨u, x, rfl, h1, h3⟩, h4⟩

theorem pc_cmp {n : Nd} (g : n.Good) : Cmp n.pc n.lg := by
  induction g with
  | @set st mn mx =>
    intro s hf w hw
    by_cases hn : s.new.full = true
    · rw [pc_full hn, hn] at hf; cases hf
    · rw [pc_set hn]
      obtain ⟨b, e, hb⟩ := lg_set.1 hw
      subst e
      exact .arc (y := ((s.count + 1 : Nat) : Int)) (S := st) (by simp) hb (.nil _)
  | @cat st mn mx ks hk ih =>
    intro s hf w hw
    by_cases hn : s.new.full = true
    · rw [pc_full hn, hn] at hf; cases hf
    · rw [pc_cat hn] at hf ⊢
      have p1 := cmp_cat (ks := ks) (p := (s.new, s.count)) (fun k hk' => ⟨ih k hk', pc_sub (hk k hk')⟩) hf (lg_cat.1 hw)
      exact (SubB.eps1.pth p1).fin eps1_mem
  | @alt st mn mx ks hk ih =>
    intro s hf w hw
    by_cases hn : s.new.full = true
    · rw [pc_full hn, hn] at hf; cases hf
    · rw [pc_alt hn] at hf ⊢
      obtain ⟨k, hk', h⟩ := lg_alt.1 hw
      exact cmp_alt (b := s.count) (e := s.count + 1) (ks := ks) (s := s.new) (fun k hk' => ⟨ih k hk', pc_sub (hk k hk')⟩) hf hk' h
  | @rep st mn mx k hk h1 h2 h3 h4 ih =>
    intro s hf w hw
    by_cases hn : s.new.full = true
    · rw [pc_full hn, hn] at hf; cases hf
    · have hs := pc_sub hk
      rw [pc_rep hn] at hf ⊢
      simp only [againF] at hf ⊢
      obtain ⟨c, d1, d2, d3⟩ := lg_rep.1 hw
      split at hf
      · rename_i hneg
        rw [if_pos hneg]
        generalize hq : rpt (onF k.pc) mn.toNat (s.new, s.count) = q at *
        have s1 : SubB (onF k.pc q).1 ((((onF k.pc q).1.eps1 (q.1.count + 1) q.1.count).eps1 (q.1.count + 1) (s.count + 1)).eps1 q.2 (s.count + 1)) := (SubB.eps1.trans .eps1).trans .eps1
        have s0 := (sub_on hs q).trans s1
        have f1 := s1.2.2 hf
        obtain ⟨u, v, e, w1, w2⟩ := pow_split (a := mn.toNat) (b := c - mn.toNat) (by rw [show mn.toNat + (c - mn.toNat) = c by omega]; exact d3)
        subst e
        have pa := s0.pth (by have := cmp_rpt ih hs mn.toNat (p := (s.new, s.count)) (by rw [hq]; exact (sub_on hs q).2.2 f1) w1; rw [hq] at this; exact this)
        have eB : (((q.1.count + 1 : Nat) : Int), (q.1.count : Int)) ∈ ((((onF k.pc q).1.eps1 (q.1.count + 1) q.1.count).eps1 (q.1.count + 1) (s.count + 1)).eps1 q.2 (s.count + 1)).eps := (SubB.eps1.trans SubB.eps1).1 _ eps1_mem
        have eE : (((q.1.count + 1 : Nat) : Int), ((s.count + 1 : Nat) : Int)) ∈ ((((onF k.pc q).1.eps1 (q.1.count + 1) q.1.count).eps1 (q.1.count + 1) (s.count + 1)).eps1 q.2 (s.count + 1)).eps := SubB.eps1.1 _ eps1_mem
        have eH : ((q.2 : Int), ((s.count + 1 : Nat) : Int)) ∈ ((((onF k.pc q).1.eps1 (q.1.count + 1) q.1.count).eps1 (q.1.count + 1) (s.count + 1)).eps1 q.2 (s.count + 1)).eps := eps1_mem
        have eX : ((q.2 : Int), (q.1.count : Int)) ∈ ((((onF k.pc q).1.eps1 (q.1.count + 1) q.1.count).eps1 (q.1.count + 1) (s.count + 1)).eps1 q.2 (s.count + 1)).eps := s1.1 _ eps1_mem
        generalize hS : (((onF k.pc q).1.eps1 (q.1.count + 1) q.1.count).eps1 (q.1.count + 1) (s.count + 1)).eps1 q.2 (s.count + 1) = S at *
        have one : ∀ {z : List Nat}, k.lg z → Pth S.eps S.arcs q.1.count z ((q.1.count + 1 : Nat) : Int) := fun hz => ((SubB.eps1 (s := k.pc q.1) (a := q.2) (b := q.1.count)).trans s1).pth (ih q.1 f1 _ hz)
        have loop : ∀ (j : Nat) {z : List Nat}, powL k.lg (j + 1) z → Pth S.eps S.arcs q.1.count z ((q.1.count + 1 : Nat) : Int) := by
          intro j
          induction j with
          | zero =>
            rintro z ⟨a, b, e, h1, h2⟩
            subst e
            rw [show b = [] from h2]; simpa using one h1
          | succ j ihj =>
            rintro z ⟨a, b, e, h1, h2⟩
            subst e
            exact (one h1).trans (.eps eB (ihj h2))
        cases hc : c - mn.toNat with
        | zero =>
          rw [hc] at w2
          rw [show v = [] from w2]
          simpa using pa.fin eH
        | succ j =>
          rw [hc] at w2
          exact pa.trans (.eps eX ((loop j w2).fin eE))
      · rename_i hpos
        rw [if_neg hpos]
        generalize hq : rpt (onF k.pc) mn.toNat (s.new, s.count) = q at *
        have s0 := sub_rpt (g := fun p => onF k.pc (p.1.eps1 p.2 (s.count + 1), p.2)) (fun p => SubB.eps1.trans (sub_on hs (p.1.eps1 p.2 (s.count + 1), p.2))) (mx - mn).toNat q
        obtain ⟨u, v, e, w1, w2⟩ := pow_split (a := mn.toNat) (b := c - mn.toNat) (by rw [show mn.toNat + (c - mn.toNat) = c by omega]; exact d3)
        subst e
        have pa := s0.pth (by have := cmp_rpt ih hs mn.toNat (p := (s.new, s.count)) (by rw [hq]; exact s0.2.2 hf) w1; rw [hq] at this; exact this)
        obtain ⟨c1, c2⟩ := cmp_opt ih hs (e := s.count + 1) (mx - mn).toNat (p := q) hf
        by_cases hc : c - mn.toNat < (mx - mn).toNat
        · exact SubB.eps1.pth (pa.trans (c2 hc w2))
        · have : c - mn.toNat = (mx - mn).toNat := by omega
          rw [this] at w2
          exact (SubB.eps1.pth (pa.trans (c1 w2))).fin eps1_mem

/-- The machine of a pattern goes through just its texts. -/
theorem mach_lg {n : Nd} (g : n.Good) (hf : (n.pc bs0).full = false) {w : List Nat} : n.mach.whole w = true ↔ n.lg w := by
  rw [whole_pth (mach_ok g)]
  constructor
  · intro p
    obtain ⟨lab, _, r, x, y⟩ := pc_snd g bs0 (fun _ _ => False) (fun u => u = []) bs0_inv ⟨fun p hp => by simp [bs0] at hp, fun p hp => by simp [bs0] at hp⟩
    have := resp_pth r p [] (x [] rfl)
    obtain ⟨u, v, e, h1, h2⟩ := y _ this
    rw [h1] at e
    simp at e; rw [e]; exact h2
  · intro h
    exact pc_cmp g bs0 hf w h

end Go.Ax

namespace Go.Ax
open Go Go.Proofs Go.RowKit

/-- A part of a text. -/
def sl (w : List Nat) (i j : Nat) : List Nat := (w.take j).drop i
theorem sl_cat {w : List Nat} {i j k : Nat} (h1 : i ≤ j) (h2 : j ≤ k) : sl w i k = sl w i j ++ sl w j k := by
  unfold sl
  have e : w.take k = w.take j ++ (w.take k).drop j := by
    have := (List.take_append_drop j (w.take k)).symm
    rwa [List.take_take, Nat.min_eq_left h2] at this
  by_cases hi : i ≤ (w.take j).length
  · conv => lhs; rw [e, List.drop_append_of_le_length hi]
  · have hl : w.length < i := by
      have := List.length_take (i := j) (l := w)
      omega
    rw [List.drop_eq_nil_of_le (by simp; omega), List.drop_eq_nil_of_le (by simp; omega), List.drop_eq_nil_of_le (by simp; omega)]; rfl
theorem sl_len {w : List Nat} {i j : Nat} (h1 : i ≤ j) (h2 : j ≤ w.length) : (sl w i j).length = j - i := by unfold sl; simp; omega
theorem sl_nil {w : List Nat} {i j : Nat} (h1 : i ≤ j) (h2 : j ≤ w.length) : sl w i j = [] ↔ i = j := by
  constructor
  · intro h
    have := sl_len h1 h2
    rw [h] at this; simp at this; omega
  · rintro rfl
    exact List.eq_nil_of_length_eq_zero (by rw [sl_len h1 h2]; omega)
theorem sl_one {w : List Nat} {i : Nat} (h : i < w.length) : sl w i (i + 1) = [w[i]] := by
  unfold sl
  rw [List.take_add_one, List.getElem?_eq_getElem h, List.drop_append_of_le_length (by simp; omega), List.drop_eq_nil_of_le (by simp; omega)]; rfl
theorem sl_split {w : List Nat} {i k : Nat} {u v : List Nat} (h1 : i ≤ k) (h2 : k ≤ w.length) (e : sl w i k = u ++ v) : ∃ j, i ≤ j ∧ j ≤ k ∧ u = sl w i j ∧ v = sl w j k := by
  have hl := congrArg List.length e
  rw [sl_len h1 h2, List.length_append] at hl
  refine ⟨i + u.length, by omega, by omega, ?_⟩
  have e2 := sl_cat (w := w) (i := i) (j := i + u.length) (k := k) (by omega) (by omega)
  rw [e] at e2
  have := List.append_inj e2 (by rw [sl_len (by omega) (by omega)]; omega)
  exact this

/-- The places up to which texts of a kind go, from some places on. -/
def From (L : Lang) (w : List Nat) (l r : List Bool) : Prop :=
  r.length = w.length + 1 ∧ ∀ j, j ≤ w.length → (r.getD j false = true ↔ ∃ i, i ≤ j ∧ l.getD i false = true ∧ L (sl w i j))
theorem From.then {P L : Lang} {w : List Nat} {l r r' : List Bool} (h1 : From P w l r) (h2 : From L w r r') : From (P.then L) w l r' := by
  refine ⟨h2.1, fun k hk => ?_⟩
  rw [h2.2 k hk]
  constructor
  · rintro ⟨j, hj, q, hL⟩
    obtain ⟨i, hi, q2, hP⟩ := (h1.2 j (by omega)).1 q
    exact ⟨i, by omega, q2, _, _, sl_cat hi hj, hP, hL⟩
  · rintro ⟨i, hi, q, u, v, e, hP, hL⟩
    obtain ⟨j, j1, j2, e1, e2⟩ := sl_split hi hk e
    subst e1 e2
    exact ⟨j, j2, (h1.2 j (by omega)).2 ⟨i, j1, q, hP⟩, hL⟩
theorem From.nil {w : List Nat} {l : List Bool} (h : l.length = w.length + 1) : From (fun u => u = []) w l l := by
  refine ⟨h, fun j hj => ?_⟩
  constructor
  · intro q; exact ⟨j, Nat.le_refl _, q, (sl_nil (Nat.le_refl _) hj).2 rfl⟩
  · rintro ⟨i, hi, q, e⟩
    rw [← (sl_nil hi hj).1 e]; exact q
theorem From.congr {L M : Lang} {w : List Nat} {l r : List Bool} (h : From L w l r) (e : ∀ u, u.length ≤ w.length → (L u ↔ M u)) : From M w l r := by
  refine ⟨h.1, fun j hj => ?_⟩
  rw [h.2 j hj]
  constructor <;> rintro ⟨i, hi, q, hL⟩ <;> refine ⟨i, hi, q, ?_⟩
  · exact (e _ (by rw [sl_len hi hj]; omega)).1 hL
  · exact (e _ (by rw [sl_len hi hj]; omega)).2 hL

/-- Places that are in one of two. -/
def orL (a b : List Bool) : List Bool := a.mapIdx fun i x => x || b.getD i false
theorem orL_len {a b : List Bool} : (orL a b).length = a.length := by simp [orL]
theorem orL_get {a b : List Bool} {i : Nat} (h : i < a.length) : (orL a b).getD i false = (a.getD i false || b.getD i false) := by
  simp [orL, h]
theorem From.or {L M : Lang} {w : List Nat} {l r r' : List Bool} (h1 : From L w l r) (h2 : From M w l r') : From (fun u => L u ∨ M u) w l (orL r r') := by
  refine ⟨by rw [orL_len, h1.1], fun j hj => ?_⟩
  rw [orL_get (by have := h1.1; omega), Bool.or_eq_true, h1.2 j hj, h2.2 j hj]
  constructor
  · rintro (⟨i, a, b, c⟩ | ⟨i, a, b, c⟩)
    · exact ⟨i, a, b, .inl c⟩
    · exact ⟨i, a, b, .inr c⟩
  · rintro ⟨i, a, b, c | c⟩
    · exact .inl ⟨i, a, b, c⟩
    · exact .inr ⟨i, a, b, c⟩
theorem orL_self {a : List Bool} : orL a a = a := by
  apply List.ext_getElem
  · exact orL_len
  · intro i h1 h2
    simp [orL, h2]
theorem From.none {w : List Nat} {l : List Bool} : From (fun _ => False) w l (List.replicate (w.length + 1) false) := by
  refine ⟨by simp, fun j hj => ?_⟩
  have : (List.replicate (w.length + 1) false).getD j false = false := by simp [show j < w.length + 1 by omega]
  rw [this]; simp

/-- Of more parts than bytes one is empty. -/
theorem pow_drop {L : Lang} : ∀ {k : Nat} {w : List Nat}, powL L (k + 1) w → w.length ≤ k → powL L k w
  | 0, w, _, h => List.eq_nil_of_length_eq_zero (by omega)
  | k + 1, w, ⟨u, v, e, h1, h2⟩, h => by
    subst e
    by_cases hu : u = []
    · subst hu; exact h2
    · have : 0 < u.length := List.length_pos_iff.2 hu
      rw [List.length_append] at h
      exact ⟨u, v, rfl, h1, pow_drop h2 (by omega)⟩
theorem pow_down {L : Lang} {w : List Nat} : ∀ (d k : Nat), w.length ≤ k → powL L (k + d) w → powL L k w
  | 0, _, _, h => h
  | d + 1, k, hk, h => pow_down d k hk (pow_drop h (by omega))

end Go.Ax

namespace Go.Ax
open Go Go.Proofs Go.RowKit

abbrev fls (n : Nat) : List Bool := List.replicate n false
theorem mks_bools {H : Heap} {n : Nat} (hn : n ≤ 1000000) {K : Value → Heap → Prop}
    (k : ∀ v, Acc 1 H.length (H ++ [AObj.row ((fls n).map fun x => .bool x) .exact]) v ((fls n).map fun x => .bool x) → K v (H ++ [AObj.row ((fls n).map fun x => .bool x) .exact])) :
    hW (mksW [.bool false] 1 H (.int .i64 (n : Int)) (.int .i64 (n : Int))) K := by
  have hrep : repA [Value.bool false] n = (fls n).map fun x => Value.bool x := by rw [repA_one, List.map_replicate]
  refine ⟨_, _, by
    simp only [mksW]
    rw [if_pos (by omega)], ?_⟩
  simp only [Int.toNat_natCast]
  rw [hrep]
  refine k _ ?_
  have h1 := Acc.made (sz := 1) (n := H.length) (H := H) (l := (fls n).map fun x => Value.bool x) bool_len (Nat.le_refl _)
  have h2 : ((fls n).map fun x => Value.bool x).flatMap cellsOf = (fls n).map fun x => Value.bool x := flat_one fun e he => by
    obtain ⟨n, _, rfl⟩ := List.mem_map.1 he; rfl
  rw [h2] at h1
  simpa using h1

def EitherI (h : Heap) (a b : List Bool) (k : Nat) (vs : List Value) (H : Heap) : Prop :=
  ∃ (i : Nat) (v : Value) (g : Heap) (c : List Bool), vs = [bools a, bools b, v, .int .i64 (i : Int)] ∧ H = h ++ g ∧ k = a.length - i ∧ i ≤ a.length ∧ Acc 1 h.length H v (c.map fun x => .bool x) ∧ c.length = a.length ∧
    ∀ j, j < i → c.getD j false = (orL a b).getD j false

theorem either_spec {a b : List Bool} (ha : a.length ≤ 1000000) (hb : b.length = a.length) {h : Heap} {Q : Value → Heap → Prop} (hq : Q (bools (orL a b)) h) : acall Try.prog F_homographref04_either [bools a, bools b] h Q := by
  apply W_homographref04_either_ok
  unfold W_homographref04_either
  rw [lenS_lit, oW_some]
  simp only [List.length_map]
  refine mks_bools ha fun v a0 => ?_
  refine ⟨EitherI h a b, a.length, gcL_same ⟨0, v, _, fls a.length, rfl, rfl, by omega, by omega, a0, by simp, fun j hj => by omega⟩, ?_⟩
  rintro k x8 x9 x10 x11 H ⟨i, v, g, c, hv, rfl, hk, hi, ac, hcl, hc⟩
  simp only [List.cons.injEq, and_true] at hv
  obtain ⟨rfl, rfl, rfl, rfl⟩ := hv
  rw [lenS_lit, oW_some, n_lss, oW_some, bW_dec]
  simp only [List.length_map]
  have step : ∀ (y : Bool), i < a.length → y = (orL a b).getD i false → oW (iaS 1 x10 (.int .i64 (i : Int))) fun p => sW (stW 1 (h ++ g) p (.bool y)) fun h18 => oW (binN .add (.int .i64 (i : Int)) (.int .i64 1)) fun v19 => ∃ m6, m6 < k ∧ gcL h (EitherI h a b m6) [bools a, bools b, x10, v19] h18 := fun y hlt hy => by
    refine ac.set rfl (by omega) bool_len rfl rfl rfl (by simp; omega) fun g2 ac2 _ => ?_
    rw [n_add (by omega), oW_some]
    refine ⟨a.length - (i + 1), by omega, gcL_same ⟨i + 1, x10, g2, c.set i y, by simp, rfl, rfl, by omega, by rw [List.map_set]; exact ac2, by simp [hcl], fun j hj => ?_⟩⟩
    rw [getD_set (by omega)]
    by_cases e : j = i
    · rw [if_pos e, e]; exact hy
    · rw [if_neg e]; exact hc j (by omega)
  constructor
  · intro hlt
    have hlt' : i < a.length := by omega
    have hog := orL_get (b := b) hlt'
    refine ix_bools hlt' ?_
    rw [bW_bool]
    constructor
    · intro t
      refine step true hlt' ?_
      rw [hog]; simp [hlt', t]
    · intro t
      refine ix_bools (by omega) ?_
      refine step b[i] hlt' ?_
      rw [hog]; simp [hlt', t, show i < b.length by omega]
  · intro hge
    have hil : i = a.length := by omega
    subst hil
    have : c = orL a b := by
      apply List.ext_getElem
      · rw [hcl, orL_len]
      · intro j h1 h2
        have := hc j (by omega)
        simpa [h1, h2] using this
    rw [this] at ac
    exact ac.done rfl ⟨[], by simp⟩ (by omega) bool_len bool_cl hq

end Go.Ax

namespace Go.Ax
open Go Go.Proofs Go.RowKit

/-- A row of marks: frozen, or in memory of our own. -/
def Bl (n : Nat) (H : Heap) (v : Value) (r : List Bool) : Prop := v = bools r ∨ Acc 1 n H v (r.map fun x => .bool x)
theorem cl_bools {r : List Bool} : Cl (bools r) := Cl.lit' bool_cl
theorem Bl.pass {f : FuncId} {n : Nat} {B g : Heap} {v : Value} {r : List Bool} {pre post : List Value} {Q : Value → Heap → Prop} (hB : B.length = n) (b : Bl n (B ++ g) v r) (hpre : ∀ x ∈ pre, Cl x) (hpost : ∀ x ∈ post, Cl x)
    (k : ∀ g', acall Try.prog f (pre ++ bools r :: post) (B ++ g') Q) : acall Try.prog f (pre ++ v :: post) (B ++ g) Q := by
  rcases b with rfl | ac
  · exact k g
  · obtain ⟨fr, r', g', f1, f2, f3, f4, f5⟩ := ac.frz hB (by omega) bool_len bool_cl
    refine acall_frz f1 (args2 := pre ++ bools r :: post) ?_ (k g')
    have app : ∀ (p : List Value) (x y : Value), (∀ z ∈ p, Cl z) → Gv fr r' (B ++ g) x y → GvL fr r' (B ++ g) (p ++ x :: post) (p ++ y :: post) := by
      intro p x y hp hg
      induction p with
      | nil => exact ⟨hg, GvL.cl hpost⟩
      | cons z p ih => exact ⟨.cl (hp z (by simp)), ih fun z hz => hp z (by simp [hz])⟩
    exact app pre _ _ hpre f2
theorem Bl.done {n : Nat} {h B g : Heap} {v : Value} {r : List Bool} {Q : Value → Heap → Prop} (hB : B.length = n) (hB0 : ∃ t, B = h ++ t) (b : Bl n (B ++ g) v r) (hq : Q (bools r) h) : gcV h Q v (B ++ g) := by
  rcases b with rfl | ac
  · obtain ⟨t, rfl⟩ := hB0
    rw [List.append_assoc]
    exact gcV_end (.cl cl_bools) hq
  · exact ac.done hB hB0 (by omega) bool_len bool_cl hq

theorem cp_acc {n : Nat} {B g : Heap} {v : Value} {c l : List Bool} {K : Value → Heap → Prop} (hB : B.length = n) (a : Acc 1 n (B ++ g) v (c.map fun x => .bool x)) (hl : l.length = c.length) (h0 : 0 < c.length)
    (k : ∀ w g', Acc 1 n (B ++ g') v (l.map fun x => .bool x) → K w (B ++ g')) : hW (cpW 1 (B ++ g) v (bools l)) K := by
  rcases a with ⟨rfl, e⟩ | ⟨i, cap, cc, m, h1, rfl, h3, h4, h5, h6, h7⟩
  · have := List.map_eq_nil_iff.1 e
    subst this; simp at h0
  · simp only [List.length_map, Nat.mul_one] at *
    have hsrc : srcA (B ++ g) 1 (bools l) = some (l.length, l.map fun x => .bool x) := by
      have := src_lit (H := B ++ g) (sz := 1) (es := l.map fun x => Value.bool x) bool_len
      rw [flat_one fun e he => by obtain ⟨n, _, rfl⟩ := List.mem_map.1 he; rfl] at this
      simpa using this
    have hm : m ≠ .ro := by rcases h4 with q | q <;> rw [q] <;> simp
    have ht : (l.map fun x => Value.bool x).take (min l.length c.length * 1) = l.map fun x => Value.bool x := List.take_of_length_le (by simp; omega)
    refine ⟨_, _, by
      simp only [cpW, hsrc, h3]
      rw [if_pos ⟨hm, by rw [ht, List.all_eq_true]; intro x hx; obtain ⟨b, _, rfl⟩ := List.mem_map.1 hx; rfl, by omega, h6, by omega, by simp⟩], ?_⟩
    rw [ht]
    have e1 : ∀ o, (B ++ g).set i o = B ++ g.set (i - n) o := fun o => by rw [List.set_append_right _ _ (by omega), hB]
    rw [e1]
    have hwl : ∀ (vs c : List Value) (o : Nat), (writeL c o vs).length = c.length := by
      intro vs
      induction vs with
      | nil => intro c o; rfl
      | cons x vs ih => intro c o; rw [writeL_cons, ih]; simp
    refine k _ _ (.inr ⟨i, cap, _, m, h1, by simp [hl], by rw [← e1]; exact getRow_set h3 _ _, h4, by rw [hwl]; omega, by simp; omega, ?_⟩)
    rw [flat_one fun e he => by obtain ⟨n, _, rfl⟩ := List.mem_map.1 he; rfl]
    apply List.ext_getElem?
    intro j
    rw [List.getElem?_take]
    split
    · rename_i hj
      rw [get_writeL _ _ _ (by simp; omega), if_pos ⟨by omega, by omega⟩]; simp
    · rename_i hj
      rw [List.getElem?_eq_none (by simp at hj ⊢; omega)]

def FromOk (n : Nd) : Prop := ∀ {s : ByteArray} {l : List Bool} {h : Heap} {Q : Value → Heap → Prop}, s.size ≤ 1000 → l.length = s.size + 1 → (∀ r, From n.lg (bytesN s) l r → Q (bools r) h) →
  acall Try.prog F_homographref04_from [n.enc, .string s, bools l] h Q

abbrev nrow (n : Nd) : AObj := .row (cellsOf n.enc) .exact

def OftI1 (h : Heap) (s : ByteArray) (l : List Bool) (k : Nd) (st : BS) (mn mx : Int) (m : Nat) (vs : List Value) (H : Heap) : Prop :=
  ∃ (i : Nat) (r : List Bool), vs = [.string s, pAt h.length, bools r, .int .i64 (i : Int)] ∧ H = h ++ [nrow (.mk 3 st mn mx [k])] ∧ m = mn.toNat - i ∧ i ≤ mn.toNat ∧ From (powL k.lg i) (bytesN s) l r
def OftI2 (h : Heap) (s : ByteArray) (l : List Bool) (k : Nd) (st : BS) (mn mx : Int) (most : Nat) (m : Nat) (vs : List Value) (H : Heap) : Prop :=
  ∃ (i : Nat) (r o : List Bool), vs = [.string s, pAt h.length, bools r, bools o, .int .i64 (most : Int), .int .i64 (i : Int)] ∧ H = h ++ [nrow (.mk 3 st mn mx [k])] ∧ m = most - i ∧ i ≤ most ∧ From (powL k.lg (mn.toNat + i)) (bytesN s) l r ∧
    From (fun w => ∃ c, mn.toNat ≤ c ∧ c ≤ mn.toNat + i ∧ powL k.lg c w) (bytesN s) l o

theorem often_spec {k : Nd} {st : BS} {mn mx : Int} (hk : FromOk k) (h1 : 0 ≤ mn) (h2 : mn ≤ 32) (h3 : mx ≤ 32) (h4 : mx < 0 ∨ mn ≤ mx) {s : ByteArray} {l : List Bool} {h : Heap} {Q : Value → Heap → Prop} (hs : s.size ≤ 1000) (hl : l.length = s.size + 1)
    (hq : ∀ r, From (Nd.mk 3 st mn mx [k]).lg (bytesN s) l r → Q (bools r) h) : acall Try.prog F_homographref04_often [(Nd.mk 3 st mn mx [k]).enc, .string s, bools l] h Q := by
  apply W_homographref04_often_ok
  unfold W_homographref04_often
  have ebox : boxA h (Nd.mk 3 st mn mx [k]).enc = some (pAt h.length, h ++ [nrow (.mk 3 st mn mx [k])]) := by simp [boxA, Nd.enc_okv, newRowA]
  have row : getRow (h ++ [nrow (.mk 3 st mn mx [k])]) h.length = some ([.int .i64 3, w64 st.a, w64 st.b, w64 st.c, w64 st.d, .int .i64 mn, .int .i64 mx, lit [k.enc]], .exact) := by
    rw [row_app0]; unfold nrow; rw [Nd.enc_mk]; rfl
  have blen : (bytesN s).length = s.size := bytesN_len
  rw [ebox, hW_some]
  refine callW_plain.2 (either_spec (by omega) rfl ?_)
  rw [orL_self]
  refine ⟨OftI1 h s l k st mn mx, mn.toNat, gcL_same ⟨0, l, rfl, rfl, by omega, by omega, From.nil (by omega)⟩, ?_⟩
  rintro m x9 x10 x11 x12 H ⟨i, r, hv, rfl, hm, hi, hr⟩
  simp only [List.cons.injEq, and_true] at hv
  obtain ⟨rfl, rfl, rfl, rfl⟩ := hv
  have ldmn : ∀ K : Value → Prop, K (.int .i64 mn) → oW (faW 5 1 (pAt h.length)) fun v => oW (ldW false 1 (h ++ [nrow (.mk 3 st mn mx [k])]) v) K := fun K hK => by
    rw [fa_ptr, oW_some, ldW_one, row]; exact oW_some.2 hK
  have ldmx : ∀ K : Value → Prop, K (.int .i64 mx) → oW (faW 6 1 (pAt h.length)) fun v => oW (ldW false 1 (h ++ [nrow (.mk 3 st mn mx [k])]) v) K := fun K hK => by
    rw [fa_ptr, oW_some, ldW_one, row]; exact oW_some.2 hK
  have ldk : ∀ K : Value → Prop, K k.enc → oW (faW 7 1 (pAt h.length)) fun v => oW (ldW false 1 (h ++ [nrow (.mk 3 st mn mx [k])]) v) fun v18 => oW (iaS 8 v18 (.int .i64 0)) fun v19 => oW (ldW true 8 (h ++ [nrow (.mk 3 st mn mx [k])]) v19) K := fun K hK => by
    rw [fa_ptr, oW_some, ldW_one, row]
    show oW (some (lit [k.enc])) _
    rw [oW_some, show iaS 8 (lit [k.enc]) (.int .i64 0) = some (plit (cellsOf k.enc)) from iaS_lit (by omega) rfl k.enc_len, oW_some, ldPlitN, oW_some]
    exact hK
  refine ldmn _ ?_
  rw [n_lss, oW_some, bW_dec]
  constructor
  · intro hlt
    refine ldk _ ?_
    refine callW_plain.2 (hk hs (by rw [hr.1, blen]) fun r2 hr2 => ?_)
    rw [n_add (by omega), oW_some]
    exact ⟨mn.toNat - (i + 1), by omega, gcL_same ⟨i + 1, r2, by simp, rfl, rfl, by omega, (hr.then hr2).congr fun u _ => pow_succ'.symm⟩⟩
  · intro hge
    have him : i = mn.toNat := by omega
    subst him
    refine ldmx _ ?_
    refine ldmn _ ?_
    obtain ⟨v28, e28⟩ : ∃ v, binN .sub (.int .i64 mx) (.int .i64 mn) = some v := ⟨_, rfl⟩
    rw [e28, oW_some]
    refine ldmx _ ?_
    rw [n_lss, oW_some, bW_dec]
    have o0 : From (fun w => ∃ c, mn.toNat ≤ c ∧ c ≤ mn.toNat + 0 ∧ powL k.lg c w) (bytesN s) l r := hr.congr fun u _ => ⟨fun q => ⟨mn.toNat, by omega, by omega, q⟩, fun ⟨c, q1, q2, q3⟩ => by rw [show mn.toNat = c by omega]; exact q3⟩
    have stepO : ∀ {i : Nat} {r o r2 : List Bool}, From (powL k.lg (mn.toNat + i)) (bytesN s) l r → From (fun w => ∃ c, mn.toNat ≤ c ∧ c ≤ mn.toNat + i ∧ powL k.lg c w) (bytesN s) l o → From k.lg (bytesN s) r r2 →
        From (powL k.lg (mn.toNat + (i + 1))) (bytesN s) l r2 ∧ From (fun w => ∃ c, mn.toNat ≤ c ∧ c ≤ mn.toNat + (i + 1) ∧ powL k.lg c w) (bytesN s) l (orL o r2) := fun {i r o r2} a b c => by
      have d : From (powL k.lg (mn.toNat + (i + 1))) (bytesN s) l r2 := (a.then c).congr fun u _ => by rw [← Nat.add_assoc]; exact pow_succ'.symm
      refine ⟨d, (b.or d).congr fun u _ => ⟨?_, ?_⟩⟩
      · rintro (⟨c, q1, q2, q3⟩ | q)
        · exact ⟨c, q1, by omega, q3⟩
        · exact ⟨_, by omega, by omega, q⟩
      · rintro ⟨c, q1, q2, q3⟩
        by_cases e : c = mn.toNat + (i + 1)
        · subst e; exact .inr q3
        · exact .inl ⟨c, q1, by omega, q3⟩
    constructor
    · intro hneg
      have a1 : binN .add (.int .i64 (s.size : Int)) (.int .i64 1) = some (.int .i64 ((s.size + 1 : Nat) : Int)) := by rw [n_add (by omega)]; congr 2
      rw [lenStr_str, oW_some, a1, oW_some]
      refine ⟨OftI2 h s l k st mn mx (s.size + 1), s.size + 1, gcL_same ⟨0, r, r, rfl, rfl, by omega, by omega, hr, o0⟩, ?_⟩
      rintro m2 x38 x39 x40 x41 x42 x43 H ⟨i, r, o, hv, rfl, hm2, hi2, hr, ho⟩
      simp only [List.cons.injEq, and_true] at hv
      obtain ⟨rfl, rfl, rfl, rfl, rfl, rfl⟩ := hv
      rw [n_lss, oW_some, bW_dec]
      constructor
      · intro hlt
        refine ldk _ ?_
        refine callW_plain.2 (hk hs (by rw [hr.1, blen]) fun r2 hr2 => callW_plain.2 (either_spec (by rw [ho.1, blen]; omega) (by rw [hr2.1, ho.1]) ?_))
        rw [n_add (by omega), oW_some]
        obtain ⟨q1, q2⟩ := stepO hr ho hr2
        exact ⟨s.size + 1 - (i + 1), by omega, gcL_same ⟨i + 1, r2, orL o r2, by simp, rfl, rfl, by omega, q1, q2⟩⟩
      · intro hge2
        refine gcV_end (.cl cl_bools) (hq o (ho.congr fun u hu => ?_))
        rw [lg_rep]
        constructor
        · rintro ⟨c, q1, q2, q3⟩; exact ⟨c, by omega, .inl hneg, q3⟩
        · rintro ⟨c, q1, _, q3⟩
          by_cases hc : c ≤ mn.toNat + i
          · exact ⟨c, by omega, hc, q3⟩
          · exact ⟨mn.toNat + i, by omega, by omega, pow_down (c - (mn.toNat + i)) _ (by omega) (by rw [show mn.toNat + i + (c - (mn.toNat + i)) = c by omega]; exact q3)⟩
    · intro hpos
      rw [n_sub (by omega), Option.some.injEq] at e28
      subst e28
      rw [show mx - mn = (((mx - mn).toNat : Nat) : Int) by omega]
      refine ⟨OftI2 h s l k st mn mx (mx - mn).toNat, (mx - mn).toNat, gcL_same ⟨0, r, r, rfl, rfl, by omega, by omega, hr, o0⟩, ?_⟩
      rintro m2 x38 x39 x40 x41 x42 x43 H ⟨i, r, o, hv, rfl, hm2, hi2, hr, ho⟩
      simp only [List.cons.injEq, and_true] at hv
      obtain ⟨rfl, rfl, rfl, rfl, rfl, rfl⟩ := hv
      rw [n_lss, oW_some, bW_dec]
      constructor
      · intro hlt
        refine ldk _ ?_
        refine callW_plain.2 (hk hs (by rw [hr.1, blen]) fun r2 hr2 => callW_plain.2 (either_spec (by rw [ho.1, blen]; omega) (by rw [hr2.1, ho.1]) ?_))
        rw [n_add (by omega), oW_some]
        obtain ⟨q1, q2⟩ := stepO hr ho hr2
        exact ⟨(mx - mn).toNat - (i + 1), by omega, gcL_same ⟨i + 1, r2, orL o r2, by simp, rfl, rfl, by omega, q1, q2⟩⟩
      · intro hge2
        refine gcV_end (.cl cl_bools) (hq o (ho.congr fun u hu => ?_))
        rw [lg_rep]
        constructor
        · rintro ⟨c, q1, q2, q3⟩; exact ⟨c, by omega, .inr (by omega), q3⟩
        · rintro ⟨c, q1, q2, q3⟩; exact ⟨c, by omega, by omega, q3⟩

end Go.Ax

namespace Go.Ax
open Go Go.Proofs Go.RowKit

def FSetI (h : Heap) (n : Nd) (st : BS) (s : ByteArray) (l : List Bool) (m : Nat) (vs : List Value) (H : Heap) : Prop :=
  ∃ (i : Nat) (v : Value) (g : Heap) (c : List Bool), vs = [.string s, bools l, pAt h.length, v, .int .i64 (i : Int)] ∧ H = h ++ [nrow n] ++ g ∧ m = s.size - i ∧ i ≤ s.size ∧ Acc 1 (h.length + 1) H v (c.map fun x => .bool x) ∧ c.length = s.size + 1 ∧
    c.getD 0 false = false ∧ ∀ j, j < i → c.getD (j + 1) false = (l.getD j false && st.has ((bytesN s)[j]!))
def FCatI (h : Heap) (n : Nd) (ks : List Nd) (s : ByteArray) (l : List Bool) (m : Nat) (vs : List Value) (H : Heap) : Prop :=
  ∃ (i : Nat) (v : Value) (g : Heap) (r : List Bool), vs = [.string s, pAt h.length, v, .int .i64 (i : Int)] ∧ H = h ++ [nrow n] ++ g ∧ m = ks.length - i ∧ i ≤ ks.length ∧ Bl (h.length + 1) H v r ∧ From (catL ((ks.take i).map Nd.lg)) (bytesN s) l r
def FAltI (h : Heap) (n : Nd) (ks : List Nd) (s : ByteArray) (l : List Bool) (m : Nat) (vs : List Value) (H : Heap) : Prop :=
  ∃ (i : Nat) (v : Value) (g : Heap) (r : List Bool), vs = [.string s, bools l, pAt h.length, v, .int .i64 (i : Int)] ∧ H = h ++ [nrow n] ++ g ∧ m = ks.length - i ∧ i ≤ ks.length ∧ Bl (h.length + 1) H v r ∧ From (fun w => ∃ k ∈ ks.take i, k.lg w) (bytesN s) l r

theorem catL_snoc : ∀ {Ls : List Lang} {L : Lang} {w : List Nat}, catL (Ls ++ [L]) w ↔ (catL Ls : Lang).then L w
  | [], L, w => by
    constructor
    · rintro ⟨u, v, e, h1, h2⟩
      exact ⟨[], u, by rw [e, show v = [] from h2]; simp, rfl, h1⟩
    · rintro ⟨u, v, e, h1, h2⟩
      exact ⟨v, [], by rw [e, show u = [] from h1]; simp, h2, rfl⟩
  | M :: Ls, L, w => by
    constructor
    · rintro ⟨u, v, e, h1, h2⟩
      obtain ⟨a, b, e2, h3, h4⟩ := catL_snoc.1 h2
      exact ⟨u ++ a, b, by rw [e, e2]; simp, ⟨u, a, rfl, h1, h3⟩, h4⟩
    · rintro ⟨u, v, e, ⟨a, b, e2, h3, h4⟩, h2⟩
      exact ⟨a, b ++ v, by rw [e, e2]; simp, h3, catL_snoc.2 ⟨b, v, rfl, h4, h2⟩⟩

theorem from_step {op : Int} {st : BS} {mn mx : Int} {ks : List Nd} (g : (Nd.mk op st mn mx ks).Good) (hlen : ks.length ≤ 1000000000) (hk : ∀ k ∈ ks, FromOk k) : FromOk (.mk op st mn mx ks) := by
  intro s l h Q hs hl hq
  apply W_homographref04_from_ok
  unfold W_homographref04_from
  have ebox : boxA h (Nd.mk op st mn mx ks).enc = some (pAt h.length, h ++ [nrow (.mk op st mn mx ks)]) := by simp [boxA, Nd.enc_okv, newRowA]
  have row : ∀ t, getRow (h ++ [nrow (.mk op st mn mx ks)] ++ t) h.length = some ([.int .i64 op, w64 st.a, w64 st.b, w64 st.c, w64 st.d, .int .i64 mn, .int .i64 mx, lit (ks.map Nd.enc)], .exact) := fun t => by
    rw [List.append_assoc, row_app0]; unfold nrow; rw [Nd.enc_mk]; rfl
  have blen : (bytesN s).length = s.size := bytesN_len
  have hB : (h ++ [nrow (.mk op st mn mx ks)]).length = h.length + 1 := by simp
  have a1 : binN .add (.int .i64 (s.size : Int)) (.int .i64 1) = some (.int .i64 ((s.size + 1 : Nat) : Int)) := by rw [n_add (by omega)]; congr 2
  have ldks : ∀ (g : Heap) (K : Value → Prop), K (lit (ks.map Nd.enc)) → oW (faW 7 1 (pAt h.length)) fun v => oW (ldW false 1 (h ++ [nrow (.mk op st mn mx ks)] ++ g) v) K := fun g K hK => by
    rw [fa_ptr, oW_some, ldW_one, row]; exact oW_some.2 hK
  rw [ebox, hW_some, lenStr_str, oW_some, a1, oW_some]
  refine mks_bools (by omega) fun v a0 => ?_
  rw [hB] at a0
  rw [fa_ptr, oW_some, ldW_one, row]
  show oW (some (.int .i64 op)) _
  rw [oW_some, n_eql, oW_some, bW_dec]
  generalize [AObj.row ((fls (s.size + 1)).map fun x => Value.bool x) .exact] = g0 at *
  constructor
  · intro h0
    subst h0
    refine ⟨FSetI h (.mk 0 st mn mx ks) st s l, s.size, gcL_same ⟨0, v, g0, fls (s.size + 1), rfl, rfl, by omega, by omega, a0, by simp, by simp, fun j hj => by omega⟩, ?_⟩
    rintro m x14 x15 x16 x17 x18 H ⟨i, v, g, c, hv, rfl, hm, hi, ac, hcl, hc0, hc⟩
    simp only [List.cons.injEq, and_true] at hv
    obtain ⟨rfl, rfl, rfl, rfl, rfl⟩ := hv
    rw [lenStr_str, oW_some, n_lss, oW_some, bW_dec]
    constructor
    · intro hlt
      have hlt' : i < s.size := by omega
      have hb := byte_lt hlt'
      have stp : ∀ y : Bool, y = (l.getD i false && st.has ((bytesN s)[i]!)) → ∀ K : Heap → Prop, (∀ g', FSetI h (.mk 0 st mn mx ks) st s l (s.size - (i + 1)) [.string s, bools l, pAt h.length, x17, .int .i64 ((i + 1 : Nat) : Int)] (h ++ [nrow (.mk 0 st mn mx ks)] ++ g') → K (h ++ [nrow (.mk 0 st mn mx ks)] ++ g')) →
          oW (iaS 1 x17 (.int .i64 ((i + 1 : Nat) : Int))) fun p => sW (stW 1 (h ++ [nrow (.mk 0 st mn mx ks)] ++ g) p (.bool y)) K := fun y hy K hK => by
        refine ac.set hB (by omega) bool_len rfl rfl rfl (by simp; omega) fun g2 ac2 _ => hK g2 ⟨i + 1, x17, g2, c.set (i + 1) y, rfl, rfl, rfl, by omega, by rw [List.map_set]; exact ac2, by simp [hcl], ?_, fun j hj => ?_⟩
        · rw [getD_set (by omega), if_neg (by omega)]; exact hc0
        · rw [getD_set (by omega)]
          by_cases e : j = i
          · subst e; rw [if_pos rfl]; exact hy
          · rw [if_neg (by omega)]; exact hc j (by omega)
      have ai : binN .add (.int .i64 (i : Int)) (.int .i64 1) = some (.int .i64 ((i + 1 : Nat) : Int)) := by rw [n_add (by omega)]; congr 2
      have hil : i < l.length := by omega
      have hgl : l.getD i false = l[i] := by simp [hil]
      rw [ai, oW_some]
      rw [show iaS 1 (bools l) (.int .i64 (i : Int)) = some (plit [.bool l[i]]) from iaS_lit (n := (i : Int)) (e := .bool l[i]) (by omega) (by simp [hil]) rfl, oW_some, ld_plit1, oW_some, bW_bool]
      constructor
      · intro t
        have ldst : ldW true 4 (h ++ [nrow (.mk 0 st mn mx ks)] ++ g) (.pointer (some ⟨h.length, 0 + 1, none⟩)) = some st.enc := by rw [ldW_agg, row]; rfl
        rw [fa_ptr, oW_some, ldst, oW_some]
        refine ixS_str hlt' ?_
        refine callW_plain.2 (refHas_spec hb ⟨by simp, ?_⟩)
        refine stp _ (by rw [hgl, t]; rfl) _ fun g' hI => ?_
        rw [oW_some]
        exact ⟨s.size - (i + 1), by omega, gcL_same hI⟩
      · intro t
        refine stp _ (by rw [hgl, t]; rfl) _ fun g' hI => ?_
        rw [oW_some]
        exact ⟨s.size - (i + 1), by omega, gcL_same hI⟩
    · intro hge
      have hii : i = s.size := by omega
      subst hii
      refine ac.done hB ⟨_, rfl⟩ (by omega) bool_len bool_cl (hq c ⟨by omega, fun j hj => ?_⟩)
      rw [blen] at hj
      cases j with
      | zero =>
        rw [hc0]
        constructor
        · intro q; cases q
        · rintro ⟨i, hi, _, hL⟩
          obtain ⟨b, e, _⟩ := lg_set.1 hL
          have := sl_len (w := bytesN s) hi (by omega)
          rw [e] at this; simp at this
      | succ j =>
        rw [hc j (by omega), Bool.and_eq_true]
        have hjl : j < (bytesN s).length := by omega
        have hgb : (bytesN s)[j]! = (bytesN s)[j] := getElem!_pos (bytesN s) j hjl
        constructor
        · rintro ⟨q1, q2⟩
          exact ⟨j, by omega, q1, lg_set.2 ⟨(bytesN s)[j], sl_one hjl, by rw [← hgb]; exact q2⟩⟩
        · rintro ⟨i, hi, q1, hL⟩
          obtain ⟨b, e, hb⟩ := lg_set.1 hL
          have := sl_len (w := bytesN s) hi (by omega)
          rw [e] at this; simp at this
          have hij : i = j := by omega
          subst hij
          rw [sl_one hjl, List.cons.injEq] at e
          exact ⟨q1, by rw [hgb, e.1]; exact hb⟩
  · intro h0
    rw [n_eql, oW_some, bW_dec]
    constructor
    · intro h1
      subst h1
      refine cp_acc hB a0 (by simp [hl]) (by simp) fun w g1 a1' => ?_
      refine ⟨FCatI h (.mk 1 st mn mx ks) ks s l, ks.length, gcL_same ⟨0, v, g1, l, rfl, rfl, by omega, by omega, .inr a1', From.nil (by omega)⟩, ?_⟩
      rintro m x43 x44 x45 x46 H ⟨i, v, g, r, hv, rfl, hm, hi, hbl, hr⟩
      simp only [List.cons.injEq, and_true] at hv
      obtain ⟨rfl, rfl, rfl, rfl⟩ := hv
      refine ldks _ _ ?_
      rw [lenS_lit, oW_some, n_lss, oW_some, bW_dec]
      simp only [List.length_map]
      constructor
      · intro hlt
        have hlt' : i < ks.length := by omega
        refine ldks _ _ ?_
        refine ix_lit hlt' (Nd.enc_len _) ?_
        rw [ldPlitN, oW_some]
        refine callW_plain.2 (Bl.pass hB hbl (pre := [ks[i].enc, .string s]) (post := []) (by simp; exact ⟨Nd.cl _, .str _⟩) (by simp) fun g' => ?_)
        refine hk _ (by simp) hs (by rw [hr.1, blen]) fun r2 hr2 => ?_
        rw [n_add (by omega), oW_some]
        refine ⟨ks.length - (i + 1), by omega, gcL_same ⟨i + 1, bools r2, g', r2, by simp, rfl, rfl, by omega, .inl rfl, (hr.then hr2).congr fun u _ => ?_⟩⟩
        rw [List.take_add_one, List.getElem?_eq_getElem hlt']
        simp only [Option.toList, List.map_append, List.map_cons, List.map_nil]
        exact catL_snoc.symm
      · intro hge
        have hil : i = ks.length := by omega
        subst hil
        rw [List.take_length] at hr
        exact hbl.done hB ⟨_, rfl⟩ (hq r (hr.congr fun u _ => lg_cat.symm))
    · intro h1
      rw [n_eql, oW_some, bW_dec]
      constructor
      · intro h2
        subst h2
        refine ⟨FAltI h (.mk 2 st mn mx ks) ks s l, ks.length, gcL_same ⟨0, v, g0, fls (s.size + 1), rfl, rfl, by omega, by omega, .inr a0, ?_⟩, ?_⟩
        · have := From.none (w := bytesN s) (l := l)
          rw [blen] at this
          exact this.congr fun u _ => by simp
        rintro m x64 x65 x66 x67 x68 H ⟨i, v, g, r, hv, rfl, hm, hi, hbl, hr⟩
        simp only [List.cons.injEq, and_true] at hv
        obtain ⟨rfl, rfl, rfl, rfl, rfl⟩ := hv
        refine ldks _ _ ?_
        rw [lenS_lit, oW_some, n_lss, oW_some, bW_dec]
        simp only [List.length_map]
        constructor
        · intro hlt
          have hlt' : i < ks.length := by omega
          refine ldks _ _ ?_
          refine ix_lit hlt' (Nd.enc_len _) ?_
          rw [ldPlitN, oW_some]
          refine callW_plain.2 (hk _ (List.getElem_mem hlt') hs hl fun r2 hr2 => ?_)
          refine callW_plain.2 (Bl.pass hB hbl (pre := []) (post := [bools r2]) (by simp) (by intro x hx; simp at hx; subst hx; exact cl_bools) fun g' => ?_)
          refine either_spec (by rw [hr.1, blen]; omega) (by rw [hr2.1, hr.1]) ?_
          rw [n_add (by omega), oW_some]
          refine ⟨ks.length - (i + 1), by omega, gcL_same ⟨i + 1, bools (orL r r2), g', orL r r2, by simp, rfl, rfl, by omega, .inl rfl, (hr.or hr2).congr fun u _ => ?_⟩⟩
          rw [List.take_add_one, List.getElem?_eq_getElem hlt']
          constructor
          · rintro (⟨k, q1, q2⟩ | q)
            · exact ⟨k, List.mem_append.2 (.inl q1), q2⟩
            · exact ⟨ks[i], List.mem_append.2 (.inr (by simp)), q⟩
          · rintro ⟨k, q1, q2⟩
            rcases List.mem_append.1 q1 with q | q
            · exact .inl ⟨k, q, q2⟩
            · simp at q; subst q; exact .inr q2
        · intro hge
          have hil : i = ks.length := by omega
          subst hil
          rw [List.take_length] at hr
          exact hbl.done hB ⟨_, rfl⟩ (hq r (hr.congr fun u _ => lg_alt.symm))
      · intro h2
        obtain ⟨kd, hop, hks, gk, m1, m2, m3, m4⟩ : ∃ kd, op = 3 ∧ ks = [kd] ∧ kd.Good ∧ 0 ≤ mn ∧ mn ≤ 32 ∧ mx ≤ 32 ∧ (mx < 0 ∨ mn ≤ mx) := by
          cases g
          · omega
          · omega
          · omega
          · exact ⟨_, rfl, rfl, by assumption, by assumption, by assumption, by assumption, by assumption⟩
        subst hop hks
        rw [n_eql, oW_some, bW_dec]
        refine ⟨fun _ => ?_, fun q => absurd rfl q⟩
        have ldn : ldW true 8 (h ++ [nrow (.mk 3 st mn mx [kd])] ++ g0) (pAt h.length) = some (Nd.mk 3 st mn mx [kd]).enc := ldN (m := .exact) (by rw [List.append_assoc, row_app0]; rfl)
        rw [ldn, oW_some]
        refine callW_plain.2 (often_spec (hk kd (by simp)) m1 m2 m3 m4 hs hl fun r hr => ?_)
        rw [List.append_assoc]
        exact gcV_end (.cl cl_bools) (hq r hr)

theorem from_spec {n : Nd} (hf : n.Fin) (g : n.Good) : FromOk n := by
  induction g with
  | set => exact from_step .set (by simp) (fun k hk => by cases hk)
  | cat h ih => obtain ⟨hl, hk⟩ := hf; exact from_step (.cat h) hl fun k hm => ih k hm (hk k hm)
  | alt h ih => obtain ⟨hl, hk⟩ := hf; exact from_step (.alt h) hl fun k hm => ih k hm (hk k hm)
  | rep h h1 h2 h3 h4 ih => obtain ⟨hl, hk⟩ := hf; exact from_step (.rep h h1 h2 h3 h4) hl fun k hm => by simp at hm; subst hm; exact ih (hk _ (by simp))

end Go.Ax

namespace Go.Ax
open Go Go.Proofs Go.RowKit

def EndsI (h : Heap) (n : Nd) (r : List Bool) (m : Nat) (vs : List Value) (H : Heap) : Prop :=
  ∃ (i : Nat) (v : Value) (g : Heap), vs = [bools r, v, .int .i64 (i : Int)] ∧ H = h ++ [nrow n] ++ g ∧ m = r.length - i ∧ i ≤ r.length ∧ Acc 1 (h.length + 1) H v ((marked r i).map fun x => .int .i64 x)

theorem ends_spec {n : Nd} (hn : n.Fin) (gd : n.Good) {s : ByteArray} (hs : s.size ≤ 1000) {h : Heap} {Q : Value → Heap → Prop}
    (hq : ∀ r, From n.lg (bytesN s) (true :: fls s.size) r → Q (ints (marked r (s.size + 1))) h) : acall Try.prog F_homographref04_Ends [n.enc, .string s, .int .i64 0] h Q := by
  apply W_homographref04_Ends_ok
  unfold W_homographref04_Ends
  have ebox : boxA h n.enc = some (pAt h.length, h ++ [nrow n]) := by simp [boxA, Nd.enc_okv, newRowA]
  have hB : (h ++ [nrow n]).length = h.length + 1 := by simp
  have a1 : binN .add (.int .i64 (s.size : Int)) (.int .i64 1) = some (.int .i64 ((s.size + 1 : Nat) : Int)) := by rw [n_add (by omega)]; congr 2
  have blen : (bytesN s).length = s.size := bytesN_len
  rw [ebox, hW_some, n_lss, oW_some, bW_dec]
  refine ⟨fun q => by omega, fun _ => ?_⟩
  rw [lenStr_str, oW_some, n_gtr, oW_some, bW_dec]
  refine ⟨fun q => by omega, fun _ => ?_⟩
  rw [oW_some, a1, oW_some]
  refine mks_bools (by omega) fun v a0 => ?_
  rw [hB] at a0
  generalize [AObj.row ((fls (s.size + 1)).map fun x => Value.bool x) .exact] = g0 at *
  refine Acc.set (j := 0) hB a0 (by omega) bool_len (e := .bool true) rfl rfl rfl (by simp) fun g1 a2 _ => ?_
  have e0 : ((fls (s.size + 1)).map fun x => Value.bool x).set 0 (.bool true) = (true :: fls s.size).map fun x => Value.bool x := by simp [fls, List.replicate_succ]
  rw [e0] at a2
  have ldn : ldW true 8 (h ++ [nrow n] ++ g1) (pAt h.length) = some n.enc := ldN (m := .exact) (by rw [List.append_assoc, row_app0]; rfl)
  rw [ldn, oW_some]
  refine callW_plain.2 (Bl.pass hB (.inr a2) (pre := [n.enc, .string s]) (post := []) (by intro x hx; simp at hx; rcases hx with rfl | rfl <;> first | exact n.cl | exact .str _) (by simp) fun g2 => ?_)
  refine from_spec hn gd hs (by simp) fun r hr => ?_
  have hrl : r.length = s.size + 1 := by rw [hr.1, blen]
  refine ⟨EndsI h n r, r.length, gcL_same ⟨0, .slice none 0 0, g2, rfl, rfl, by omega, by omega, Acc.nil⟩, ?_⟩
  rintro m x46 x47 x48 H ⟨i, v, g, hv, rfl, hm, hi, ac⟩
  simp only [List.cons.injEq, and_true] at hv
  obtain ⟨rfl, rfl, rfl⟩ := hv
  rw [lenS_lit, oW_some, n_lss, oW_some, bW_dec]
  simp only [List.length_map]
  have hml := marked_len r i
  constructor
  · intro hlt
    have hlt' : i < r.length := by omega
    refine ix_bools hlt' ?_
    have hms := marked_succ r i
    have hg : r.getD i false = r[i] := by simp [hlt']
    rw [hg] at hms
    rw [bW_bool]
    constructor
    · intro hp
      refine Acc.push hB ac (by omega) int_len rfl rfl rfl rfl (by simp; omega) (by simp; omega) fun v' g' a2 _ _ _ => ?_
      rw [n_add (by omega), oW_some]
      exact ⟨r.length - (i + 1), by omega, gcL_same ⟨i + 1, v', g', by simp, rfl, rfl, by omega, by rw [hms, if_pos hp, List.map_append]; exact a2⟩⟩
    · intro hp
      rw [n_add (by omega), oW_some]
      exact ⟨r.length - (i + 1), by omega, gcL_same ⟨i + 1, x47, g, by simp, rfl, rfl, by omega, by rw [hms, if_neg (by simp [hp])]; exact ac⟩⟩
  · intro hge
    have : i = s.size + 1 := by omega
    subst this
    exact ac.done hB ⟨_, rfl⟩ (by omega) int_len int_cl (hq r hr)

theorem whole04_spec {n : Nd} (hn : n.Fin) (gd : n.Good) {s : ByteArray} (hs : s.size ≤ 1000) {h : Heap} {Q : Value → Heap → Prop}
    (hq : ∀ b : Bool, (b = true ↔ n.lg (bytesN s)) → Q (.bool b) h) : acall Try.prog F_homographref04_Whole [n.enc, .string s] h Q := by
  apply W_homographref04_Whole_ok
  unfold W_homographref04_Whole
  have ebox : boxA h n.enc = some (pAt h.length, h ++ [nrow n]) := by simp [boxA, Nd.enc_okv, newRowA]
  have blen : (bytesN s).length = s.size := bytesN_len
  rw [ebox, hW_some, ldN (m := .exact) (by rw [row_app0]; rfl), oW_some]
  refine callW_plain.2 (ends_spec hn gd hs fun r hr => ?_)
  have hw : r.getD s.size false = true ↔ n.lg (bytesN s) := by
    rw [hr.2 s.size (by omega)]
    have e : sl (bytesN s) 0 s.size = bytesN s := by unfold sl; rw [List.drop_zero, List.take_of_length_le (by omega)]
    constructor
    · rintro ⟨i, hi, q, hL⟩
      cases i with
      | zero => rwa [e] at hL
      | succ i => simp [fls, show i < s.size by omega] at q
    · intro hL; exact ⟨0, by omega, rfl, by rw [e]; exact hL⟩
  have hms := marked_succ r s.size
  have hml := marked_len r s.size
  have hml2 := marked_len r (s.size + 1)
  have fin : ∀ b : Bool, (b = true ↔ n.lg (bytesN s)) → gcV h Q (.bool b) (h ++ [nrow n]) := fun b hb => gcV_end (.cl (.bool _)) (hq b hb)
  rw [lenS_lit, oW_some, n_gtr, oW_some, bW_dec]
  simp only [List.length_map]
  constructor
  · intro h0
    have h0' : 0 < (marked r (s.size + 1)).length := by omega
    rw [oW_some, n_sub (by omega), oW_some, show (((marked r (s.size + 1)).length : Nat) : Int) - 1 = (((marked r (s.size + 1)).length - 1 : Nat) : Int) by omega]
    refine ix_ints (by omega) ?_
    rw [lenStr_str, oW_some, n_eql, oW_some]
    refine fin _ ?_
    rw [decide_eq_true_eq, ← hw]
    by_cases hr' : r.getD s.size false = true
    · rw [if_pos hr'] at hms
      exact ⟨fun _ => hr', fun _ => by simp [hms]⟩
    · rw [if_neg hr'] at hms
      have hm := List.getElem_mem (l := marked r (s.size + 1)) (n := (marked r (s.size + 1)).length - 1) (by omega)
      constructor
      · intro q
        rw [q, hms] at hm
        have := (mem_marked.1 hm).1
        unfold inR at this; omega
      · intro q; exact absurd q hr'
  · intro h0
    refine fin false ?_
    rw [← hw]
    constructor
    · intro q; cases q
    · intro q
      rw [if_pos q] at hms
      rw [hms] at h0; simp at h0

theorem built_full {n : Nd} (hn : n.Ok 20) (e : n.built = .tuple #[n.mach.enc, .int .i64 0]) : (n.pc bs0).full = false := by
  have h64 := (hn.mono (e := 64) (by omega)).1
  by_cases hf : (n.pc bs0).full = true
  · unfold Nd.built at e
    rw [if_pos ⟨h64, hn.2.1⟩, if_pos hf] at e
    simp at e
  · simpa using hf

theorem nfaMeans_walk {code s : ByteArray} (hcs : code.size ≤ 1000000000000000) (hss : s.size ≤ 1000000000000000) {h : Heap} :
    acall Try.prog F_homographlaw06_NfaMeans [.string code, .string s] h fun v _ => v = .bool true := by
  apply W_homographlaw06_NfaMeans_ok
  unfold W_homographlaw06_NfaMeans
  refine callW_plain.2 (awake_spec fun t => ?_)
  rw [u_not, oW_some, bW_bool]
  refine ⟨(fun q => by cases q), fun _ => ?_⟩
  rw [lenStr_str, oW_some, n_gtr, oW_some, bW_dec]
  constructor
  · intro _
    rw [bW_true]
    exact gcV_same rfl
  intro hc
  rw [lenStr_str, oW_some, n_gtr, oW_some, bW_dec]
  constructor
  · intro _
    exact gcV_same rfl
  intro hl
  refine callW_plain.2 (plainR_spec (by omega) fun n hn hw => ?_)
  rw [letH_eq]
  refine boxN ?_
  rw [ldN (n := n) (m := .exact) (by rw [row_app0]; rfl), oW_some]
  refine callW_plain.2 (build_spec hn.2.2 (by omega) ?_)
  generalize h ++ t = H
  rcases built_or hn hw with e | ⟨e, g, hok, h1, h2, h3⟩
  · rw [e, ex0, ex1, oW_some, oW_some, letH_eq]
    refine boxM ?_
    rw [n_neq, oW_some, bW_dec]
    refine ⟨fun _ => ?_, fun q => absurd (by omega) q⟩
    rw [n_eql, oW_some]
    exact gcV_same (by simp)
  · have hfull := built_full hn e
    have hlg : n.mach.whole (bytesN s) = true ↔ n.lg (bytesN s) := mach_lg g hfull
    rw [e, ex0, ex1, oW_some, oW_some, letH_eq]
    generalize n.mach = m at *
    refine boxM ?_
    rw [n_neq, oW_some, bW_dec]
    refine ⟨fun q => absurd rfl q, fun _ => ?_⟩
    have ldn : ldW true 8 (H ++ [nrow n] ++ [mrow m]) (pAt H.length) = some n.enc := ldN (m := .exact) (by rw [List.append_assoc, row_app0]; rfl)
    rw [mrow_end, oW_some, ldn, oW_some]
    refine callW_plain.2 (whole_spec hok h1 h3 (by omega) (by omega) ⟨by simp, callW_plain.2 (whole04_spec hn.2.2 g (by omega) fun b hb => ⟨by simp, ?_⟩)⟩)
    have eb : m.whole (bytesN s) = b := by rw [Bool.eq_iff_iff, hlg, hb]
    rw [eqB_bool, oW_some, eb]
    exact gcV_same (by simp)

end Go.Ax

