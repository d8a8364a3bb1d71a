/- Specs: patterns out of texts. -/
import Derived.Test.YthhknneomcleoaaS13
namespace Go.Ax
open Go Go.Proofs Go.RowKit

abbrev letterN (s : BS) : Nd := .mk 0 s 0 0 []
theorem ixS_str {s : ByteArray} {i : Nat} (h : i < s.size) {K : Value → Prop} (k : K (byte (bytesN s)[i]!)) : oW (ixS (.string s) (.int .i64 (i : Int))) K := by
  have hsz : i < s.data.toList.length := h
  refine ⟨_, ?_, k⟩
  simp only [ixS]
  rw [if_pos (by omega)]
  have e1 : s[(i : Int).toNat]? = some s.data.toList[i] := by
    simp only [Int.toNat_natCast]
    rw [getElem?_pos s i h]; rfl
  rw [e1]
  rw [getElem!_pos (bytesN s) i (by simp [bytesN]; exact h)]
  simp [bytesN]
theorem byte_lt {s : ByteArray} {i : Nat} (h : i < s.size) : (bytesN s)[i]! < 256 := by
  have hsz : i < s.data.toList.length := h
  have e : (bytesN s)[i]! = s.data.toList[i].toNat := by
    rw [getElem!_pos (bytesN s) i (by simp [bytesN]; exact h)]
    simp [bytesN]
  rw [e]; exact UInt8.toNat_lt _
theorem bytesN_len {s : ByteArray} : (bytesN s).length = s.size := by simp [bytesN]

abbrev zrow8 : AObj := .row [.int .i64 0, .int .u64 0, .int .u64 0, .int .u64 0, .int .u64 0, .int .i64 0, .int .i64 0, .slice none 0 0] .exact
abbrev litN (l : List Nat) : Nd := .mk 1 BS.none 0 0 (l.map fun b => letterN (BS.none.with_ b))

def LitI (h : Heap) (s : ByteArray) (k : Nat) (vs : List Value) (H : Heap) : Prop :=
  ∃ (i : Nat) (v : Value) (g : Heap), vs = [.string s, pAt h.length, v, .int .i64 (i : Int)] ∧ H = h ++ [zrow8] ++ g ∧ k = s.size - i ∧ i ≤ s.size ∧ Acc 8 (h.length + 1) H v ((((bytesN s).take i).map fun b => letterN (BS.none.with_ b)).map Nd.enc)

/-- The end of a function that gives a pattern by name. -/
theorem retN {h g : Heap} {n : Nd} {Q : Value → Heap → Prop} (hq : Q n.enc h) :
    sW (stW 8 (h ++ [zrow8] ++ g) (pAt h.length) n.enc) fun h1 => oW (ldP true 8 h1 (pAt h.length)) fun v => gcV h Q v h1 := by
  have hr : getRow (h ++ [zrow8] ++ g) h.length = some ([.int .i64 0, .int .u64 0, .int .u64 0, .int .u64 0, .int .u64 0, .int .i64 0, .int .i64 0, .slice none 0 0], .exact) := by rw [List.append_assoc, row_app0]; rfl
  rw [st_row hr (by simp) n.enc_okv n.enc_len n.enc_ok (by simp), sW_some, writeL_all (by rw [n.enc_len]; rfl), ldP_agg, getRow_set hr, Option.bind_some]
  have hl := n.enc_len
  rw [if_pos (by simp; omega), oW_some]
  obtain ⟨cs, e1, e2⟩ := n.enc_agg
  have e3 : Value.agg (((cellsOf n.enc).drop 0).take 8).toArray = n.enc := by
    rw [List.drop_zero, List.take_of_length_le (by omega), e1]; simp
  rw [e3, List.append_assoc, set_app0]
  exact gcV_end (.cl n.cl) hq

theorem lit_spec {s : ByteArray} (hs : s.size ≤ 1000000) {h : Heap} {Q : Value → Heap → Prop} (hq : Q (litN (bytesN s)).enc h) : acall Try.prog F_homographref02_Lit [.string s] h Q := by
  apply W_homographref02_Lit_ok
  unfold W_homographref02_Lit
  refine ⟨LitI h s, s.size, gcL_same ⟨0, .slice none 0 0, [], rfl, by rw [List.append_nil], rfl, by omega, by simpa using Acc.nil⟩, ?_⟩
  rintro k x6 x7 x8 x9 H ⟨i, v, g, hv, rfl, hk, hi, ac⟩
  simp only [List.cons.injEq, and_true] at hv
  obtain ⟨rfl, rfl, rfl, rfl⟩ := hv
  have hB : (h ++ [zrow8]).length = h.length + 1 := by simp
  rw [lenStr_str, oW_some, n_lss, oW_some, bW_dec]
  constructor
  · intro hlt
    have hlt' : i < s.size := by omega
    have hb := byte_lt hlt'
    have hlb : i < (bytesN s).length := by rw [bytesN_len]; exact hlt'
    have htk : (bytesN s).take (i + 1) = (bytesN s).take i ++ [(bytesN s)[i]!] := by
      rw [List.take_add_one, List.getElem?_eq_getElem hlb, List.getElem!_eq_getElem?_getD, List.getElem?_eq_getElem hlb]; rfl
    rw [show bldW [(.int .u64 0), (.int .u64 0), (.int .u64 0), (.int .u64 0)] [] = some BS.none.enc from rfl, oW_some]
    refine ixS_str hlt' ?_
    refine callW_plain.2 (with_spec hb (callW_plain.2 (setN_spec ?_)))
    have hlen : (((bytesN s).take i).map fun b => letterN (BS.none.with_ b)).length ≤ i := by simp; omega
    refine Acc.push hB ac (by omega) Nd.map_len (Nd.enc_len _) (Nd.enc_okv _) (Nd.enc_ok _) rfl (by simp; omega) (by simp; omega) fun v' g' a2 _ _ _ => ?_
    rw [n_add (by omega), oW_some]
    refine ⟨s.size - (i + 1), by omega, gcL_same ⟨i + 1, v', g', by simp, rfl, rfl, by omega, ?_⟩⟩
    rw [htk, List.map_append, List.map_append]
    exact a2
  · intro hge
    have hil : i = s.size := by omega
    subst hil
    have hbn : (bytesN s).take s.size = bytesN s := List.take_of_length_le (by simp)
    rw [hbn] at ac
    obtain ⟨fr, r, g', f1, f2, f3, f4, f5⟩ := ac.frz hB (by omega) Nd.map_len Nd.map_cl
    refine callW_plain.2 (acall_frz f1 (args2 := [.int .i64 1, lit (((bytesN s).map fun b => letterN (BS.none.with_ b)).map Nd.enc)]) ⟨.cl (.int _ _), f2, trivial⟩ (many_spec ?_))
    exact retN hq

abbrev zrow4 : AObj := .row [.int .u64 0, .int .u64 0, .int .u64 0, .int .u64 0] .exact
def RangeI (h : Heap) (a b : Nat) (k : Nat) (vs : List Value) (H : Heap) : Prop :=
  ∃ (i : Nat) (s : BS), vs = [byte b, pAt h.length, pAt (h.length + 1), .int .i64 (i : Int)] ∧ H = h ++ [zrow4, .row s.cells .exact] ∧ k = 300 - i ∧ i ≤ 256

theorem range_spec {a b : Nat} (ha : a < 256) (hb : b < 256) {h : Heap} {Q : Value → Heap → Prop} (hq : ∀ s : BS, Q s.enc h) : acall Try.prog F_homographref01_Range [byte a, byte b] h Q := by
  apply W_homographref01_Range_ok
  unfold W_homographref01_Range
  have cv : ∀ x : Nat, x < 256 → cvI .i64 (byte x) = some (.int .i64 (x : Int)) := fun x hx => by
    simp only [cvI]; rw [wrap_i64 (by omega)]
  rw [cv a ha, letH_eq, letH_eq, oW_some]
  refine ⟨RangeI h a b, 300 - a, gcL_same ⟨a, BS.none, by simp, by simp [zrow4, BS.cells, BS.none], rfl, by omega⟩, ?_⟩
  rintro k x8 x9 x10 x11 H ⟨i, s, hv, rfl, hk, hi⟩
  simp only [List.cons.injEq, and_true] at hv
  obtain ⟨rfl, rfl, rfl, rfl⟩ := hv
  have hr : getRow (h ++ [zrow4, .row s.cells .exact]) (h.length + 1) = some (s.cells, .exact) := by rw [row_app]; rfl
  have ld : ldW true 4 (h ++ [zrow4, .row s.cells .exact]) (pAt (h.length + 1)) = some s.enc := by rw [ldW_agg, hr]; rfl
  rw [cv b hb, oW_some, n_leq, oW_some, bW_dec]
  constructor
  · intro hle
    rw [ld, oW_some]
    have cu : cvI .u8 (.int .i64 (i : Int)) = some (byte i) := by simp only [cvI]; rw [wrap_u8 (by omega)]
    rw [cu, oW_some]
    refine callW_plain.2 (with_spec (by omega) ?_)
    rw [show (s.with_ i).enc = .agg (s.with_ i).cells.toArray from rfl, stW_agg, hr, Option.bind_some, if_pos (by simp [BS.cells]), sW_some, n_add (by omega), oW_some]
    refine ⟨300 - (i + 1), by omega, gcL_same ⟨i + 1, s.with_ i, by simp, ?_, rfl, by omega⟩⟩
    rw [set_app]; rfl
  · intro hgt
    rw [ld, oW_some, show s.enc = .agg s.cells.toArray from rfl, stW_agg]
    have hr0 : getRow (h ++ [zrow4, .row s.cells .exact]) h.length = some ([.int .u64 0, .int .u64 0, .int .u64 0, .int .u64 0], .exact) := by rw [row_app0]; rfl
    rw [hr0, Option.bind_some, if_pos (by simp [BS.cells]), sW_some, ldP_agg, getRow_set hr0, Option.bind_some, if_pos (by simp [BS.cells, writeL]), oW_some, set_app0]
    exact gcV_end (v2 := s.enc) (.cl (.agg _ (by simp [BS.cells]; exact ⟨.int _ _, .int _ _, .int _ _, .int _ _⟩))) (hq s)

end Go.Ax
