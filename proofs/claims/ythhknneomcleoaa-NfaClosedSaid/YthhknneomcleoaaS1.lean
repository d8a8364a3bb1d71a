/- Specs: sets of bytes, rows of numbers. -/
import Derived.Test.YthhknneomcleoaaC2
import Derived.Test.YthhknneomcleoaaW1
namespace Go.Ax
open Go Go.Proofs Go.RowKit

/-- homographref06.has, and all of its kind. -/
theorem has_spec {l : List Int} {n : Int} {h : Heap} {Q : Value → Heap → Prop} (hl : l.length ≤ 1000000000) (hq : Q (.bool (decide (n ∈ l))) h) :
    acall Try.prog F_homographref06_has [ints l, .int .i64 n] h Q := by
  apply W_homographref06_has_ok
  refine ⟨fun k vs g => ∃ i : Nat, vs = [ints l, .int .i64 n, .int .i64 (i : Int)] ∧ g = h ∧ k = l.length - i ∧ i ≤ l.length ∧ ∀ j (p : j < l.length), j < i → l[j] ≠ n, l.length, gcL_same ⟨0, by simp⟩, ?_⟩
  rintro k x5 x6 x7 g ⟨i, hv, rfl, hk, hi, hno⟩
  simp only [List.cons.injEq, and_true] at hv
  obtain ⟨rfl, rfl, rfl⟩ := hv
  simp
  rw [bW_dec]
  constructor
  · intro hlt
    have hlt' : i < l.length := by omega
    refine ix_ints hlt' ?_
    simp
    rw [bW_dec]
    constructor
    · intro e
      refine gcV_same ?_
      have : decide (n ∈ l) = true := by rw [← e]; simp
      rwa [this] at hq
    · intro e
      rw [n_add (by omega)]
      simp
      refine ⟨l.length - (i + 1), by omega, gcL_same ⟨i + 1, by simp, rfl, rfl, by omega, fun j p q => ?_⟩⟩
      by_cases c : j = i
      · subst c; exact e
      · exact hno j p (by omega)
  · intro hge
    refine gcV_same ?_
    have : decide (n ∈ l) = false := by
      rw [decide_eq_false_iff_not]
      intro hm
      obtain ⟨j, p, e⟩ := List.mem_iff_getElem.1 hm
      exact hno j p (by omega) e
    rwa [this] at hq

/-- A set of bytes. -/
structure BS where
  a : BitVec 64
  b : BitVec 64
  c : BitVec 64
  d : BitVec 64
  deriving DecidableEq
def BS.get (s : BS) : Nat → BitVec 64
  | 0 => s.a
  | 1 => s.b
  | 2 => s.c
  | _ => s.d
def BS.put (s : BS) (w : BitVec 64) : Nat → BS
  | 0 => { s with a := w }
  | 1 => { s with b := w }
  | 2 => { s with c := w }
  | _ => { s with d := w }
def BS.has (s : BS) (x : Nat) : Bool := (s.get (x / 64)).getLsbD (x % 64)
def BS.with_ (s : BS) (x : Nat) : BS := s.put (s.get (x / 64) ||| BitVec.twoPow 64 (x % 64)) (x / 64)
def BS.none : BS := ⟨0, 0, 0, 0⟩
abbrev w64 (w : BitVec 64) : Value := .int .u64 (w.toNat : Int)
abbrev BS.cells (s : BS) : List Value := [w64 s.a, w64 s.b, w64 s.c, w64 s.d]
abbrev BS.enc (s : BS) : Value := .agg #[w64 s.a, w64 s.b, w64 s.c, w64 s.d]
abbrev byte (x : Nat) : Value := .int .u8 (x : Int)

theorem tdiv_nat (a b : Nat) : Int.tdiv (a : Int) (b : Int) = ((a / b : Nat) : Int) := by simp [Int.ofNat_tdiv]
theorem tmod_nat (a b : Nat) : Int.tmod (a : Int) (b : Int) = ((a % b : Nat) : Int) := rfl

theorem byte_quo {x : Nat} (hx : x < 256) : binN .quo (byte x) (.int .u8 64) = some (byte (x / 64)) := by
  have e := tdiv_nat x 64
  simp only [binN, intOp, if_true]
  rw [if_neg (by decide)]
  rw [show ((64 : Int)) = ((64 : Nat) : Int) from rfl, e, wrap_u8 (by omega)]
theorem byte_rem {x : Nat} : binN .rem (byte x) (.int .u8 64) = some (byte (x % 64)) := by
  have e := tmod_nat x 64
  simp only [binN, intOp, if_true]
  rw [if_neg (by decide), show ((64 : Int)) = ((64 : Nat) : Int) from rfl, e]
theorem byte_quo4 {x : Nat} (hx : x < 256) : x / 64 < 4 := by omega

theorem BS.at_ (s : BS) {i : Nat} (hi : i < 4) : ([w64 s.a, w64 s.b, w64 s.c, w64 s.d] : List Value)[i]? = some (w64 (s.get i)) := by
  match i, hi with
  | 0, _ => rfl
  | 1, _ => rfl
  | 2, _ => rfl
  | 3, _ => rfl

theorem ofInt_nat (w : BitVec 64) : BitVec.ofInt 64 (w.toNat : Int) = w := by
  apply BitVec.eq_of_toNat_eq
  rw [BitVec.toNat_ofInt]
  have := w.isLt
  omega
theorem w_and (x y : BitVec 64) : binN .and (w64 x) (w64 y) = some (w64 (x &&& y)) := by
  have h1 : binN .and (w64 x) (w64 y) = some (.int .u64 (IntKind.u64.wrap (BitVec.ofInt 64 (x.toNat : Int) &&& BitVec.ofInt 64 (y.toNat : Int)).toNat)) := rfl
  rw [h1, ofInt_nat, ofInt_nat, wrap_u64']
  have := (x &&& y).isLt
  congr 2; omega
theorem w_or (x y : BitVec 64) : binN .or (w64 x) (w64 y) = some (w64 (x ||| y)) := by
  have h1 : binN .or (w64 x) (w64 y) = some (.int .u64 (IntKind.u64.wrap (BitVec.ofInt 64 (x.toNat : Int) ||| BitVec.ofInt 64 (y.toNat : Int)).toNat)) := rfl
  rw [h1, ofInt_nat, ofInt_nat, wrap_u64']
  have := (x ||| y).isLt
  congr 2; omega
theorem w_shr (x : BitVec 64) {m : Nat} (hm : m < 64) : binN .shr (w64 x) (byte m) = some (w64 (x >>> m)) := by
  simp only [binN]
  rw [if_neg (by omega)]
  have e : min (m : Int).toNat IntKind.u64.bits = m := by
    have : IntKind.u64.bits = 64 := rfl
    omega
  rw [e]
  have h2 : ((2 : Int) ^ m) = ((2 ^ m : Nat) : Int) := by simp
  have h3 : (x >>> m).toNat = x.toNat / 2 ^ m := by rw [BitVec.toNat_ushiftRight, Nat.shiftRight_eq_div_pow]
  rw [h2, Int.fdiv_eq_ediv_of_nonneg _ (Int.natCast_nonneg _), ← Int.natCast_ediv, ← h3]
theorem w_one {m : Nat} (hm : m < 64) : binN .shl (.int .u64 1) (byte m) = some (w64 (BitVec.twoPow 64 m)) := by
  simp only [binN]
  rw [if_neg (by omega)]
  have e : min (m : Int).toNat IntKind.u64.bits = m := by
    have : IntKind.u64.bits = 64 := rfl
    omega
  have h2 : (1 * (2 : Int) ^ m) = ((2 ^ m : Nat) : Int) := by simp
  have h3 : (BitVec.twoPow 64 m).toNat = 2 ^ m % 18446744073709551616 := by rw [BitVec.toNat_twoPow]
  rw [e, wrap_u64', h2, show ((18446744073709551616 : Int)) = ((18446744073709551616 : Nat) : Int) from rfl, ← Int.natCast_emod, ← h3]

theorem bit_r (w : BitVec 64) {m : Nat} (hm : m < 64) : decide (((w >>> m &&& 1#64).toNat : Int) = 1) = w.getLsbD m := by
  rw [BitVec.getLsbD, Nat.testBit_eq_decide_div_mod_eq, BitVec.toNat_and, BitVec.toNat_ushiftRight, Nat.shiftRight_eq_div_pow]
  have : (1#64).toNat = 1 := rfl
  rw [this, Nat.and_one_is_mod]
  congr 1
  apply propext
  omega
theorem bit_l (w : BitVec 64) {m : Nat} (hm : m < 64) : decide (¬ ((w &&& BitVec.twoPow 64 m).toNat : Int) = 0) = w.getLsbD m := by
  rw [BitVec.and_twoPow]
  cases h : w.getLsbD m with
  | true =>
    have h1 : (BitVec.twoPow 64 m).toNat = 2 ^ m := by rw [BitVec.toNat_twoPow, Nat.mod_eq_of_lt (Nat.pow_lt_pow_right (by omega) hm)]
    have h2 : 0 < 2 ^ m := Nat.pow_pos (by omega)
    rw [if_pos rfl, h1]
    simp only [decide_eq_true_eq]
    omega
  | false => simp

/-- homographref01.Has -/
theorem refHas_spec {s : BS} {x : Nat} (hx : x < 256) {h : Heap} {Q : Value → Heap → Prop} (hq : Q (.bool (s.has x)) h) : acall Try.prog F_homographref01_Has [s.enc, byte x] h Q := by
  apply W_homographref01_Has_ok
  unfold W_homographref01_Has
  have h4 := byte_quo4 hx
  have hm : x % 64 < 64 := by omega
  simp only [box_agg, hW_some, byte_quo hx, oW_some, iaA_ptr h4]
  rw [ld_at row_app0 (by simpa using s.at_ h4), oW_some, byte_rem, oW_some, w_shr _ hm, oW_some]
  have e := w_and (s.get (x / 64) >>> (x % 64)) 1#64
  rw [show (Value.int .u64 1) = w64 1#64 from rfl, e, oW_some, n_eql, oW_some]
  have e2 := bit_r (s.get (x / 64)) hm
  have e3 : ((1#64).toNat : Int) = 1 := rfl
  rw [e3, e2]
  exact gcV_end (.cl (.bool _)) hq

/-- byteset.Has -/
theorem bsHas_spec {s : BS} {x : Nat} (hx : x < 256) {h : Heap} {Q : Value → Heap → Prop} (hq : Q (.bool (s.has x)) h) : acall Try.prog F_byteset_Has [s.enc, byte x] h Q := by
  apply W_byteset_Has_ok
  unfold W_byteset_Has
  have h4 := byte_quo4 hx
  have hm : x % 64 < 64 := by omega
  simp only [box_agg, hW_some, byte_quo hx, oW_some, iaA_ptr h4]
  rw [ld_at row_app0 (by simpa using s.at_ h4), oW_some, byte_rem, oW_some, w_one hm, oW_some, w_and, oW_some, n_neq, oW_some, bit_l _ hm]
  exact gcV_end (.cl (.bool _)) hq

/-- homographref01.With -/
theorem with_spec {s : BS} {x : Nat} (hx : x < 256) {h : Heap} {Q : Value → Heap → Prop} (hq : Q (s.with_ x).enc h) : acall Try.prog F_homographref01_With [s.enc, byte x] h Q := by
  apply W_homographref01_With_ok
  unfold W_homographref01_With
  have h4 := byte_quo4 hx
  have hm : x % 64 < 64 := by omega
  simp only [box_agg, hW_some, letH_eq, byte_quo hx, oW_some, iaA_ptr h4, List.append_assoc]
  rw [ld_at row_app0 (by simpa using s.at_ h4), oW_some, byte_rem, oW_some, w_one hm, oW_some, w_or, oW_some]
  rw [st1 row_app0 (by simp) rfl rfl rfl (by simp; omega)]
  have hw : s.cells.set (0 + x / 64 * 1) (w64 (s.get (x / 64) ||| BitVec.twoPow 64 (x % 64))) = (s.with_ x).cells := by
    unfold BS.with_
    generalize s.get (x / 64) ||| BitVec.twoPow 64 (x % 64) = w
    match x / 64, h4 with
    | 0, _ => rfl
    | 1, _ => rfl
    | 2, _ => rfl
    | 3, _ => rfl
  rw [hw]
  generalize s.with_ x = s' at hq ⊢
  simp
  exact gcV_end (.cl (.agg _ (by simp; exact ⟨.int _ _, .int _ _, .int _ _, .int _ _⟩))) hq

end Go.Ax
