/- Specs: Plain; the law's beginning. -/
import Derived.Test.YthhknneomcleoaaS16
namespace Go.Ax
open Go Go.Proofs Go.RowKit

theorem bytesOfV_map : ∀ (bs : List Nat), (∀ b ∈ bs, b < 256) → bytesOfV (bs.map byte) = some (bs.map UInt8.ofNat)
  | [], _ => rfl
  | b :: bs, h => by
    have e := bytesOfV_map bs fun x hx => h x (by simp [hx])
    show (bytesOfV (bs.map byte)).map (UInt8.ofNat ((b : Int).toNat) :: ·) = _
    rw [e]; simp
theorem byte_len {l : List Nat} : ∀ x ∈ l.map byte, (cellsOf x).length = 1 := fun x hx => by
  obtain ⟨n, _, rfl⟩ := List.mem_map.1 hx; rfl
theorem cvBS_acc {n : Nat} {H : Heap} {v : Value} {bs : List Nat} (a : Acc 1 n H v (bs.map byte)) (hb : ∀ b ∈ bs, b < 256) : ∃ t : ByteArray, cvBS H v = some (.string t) ∧ bytesN t = bs := by
  refine ⟨⟨(bs.map UInt8.ofNat).toArray⟩, ?_, ?_⟩
  · rcases a with ⟨rfl, e⟩ | ⟨i, cap, c, m, h1, rfl, h3, h4, h5, h6, h7⟩
    · have : bs = [] := List.map_eq_nil_iff.1 e
      subst this; rfl
    · have hfl : (bs.map byte).flatMap cellsOf = bs.map byte := flat_one fun e he => by obtain ⟨n, _, rfl⟩ := List.mem_map.1 he; rfl
      simp only [List.length_map, Nat.mul_one] at *
      simp only [cvBS, h3]
      rw [if_pos (by omega), List.drop_zero, h7, hfl, bytesOfV_map bs hb]; rfl
  · simp only [bytesN, List.map_map]
    conv => rhs; rw [← List.map_id bs]
    refine List.map_congr_left fun b hb' => ?_
    have := hb b hb'
    simp; omega

def PlI (h : Heap) (s : ByteArray) (k : Nat) (vs : List Value) (H : Heap) : Prop :=
  ∃ (i : Nat) (v : Value) (g : Heap) (bs : List Nat), vs = [.string s, pAt h.length, v, .int .i64 (i : Int)] ∧ H = h ++ [zrow8] ++ g ∧ k = s.size - i ∧ i ≤ s.size ∧ Acc 1 (h.length + 1) H v (bs.map byte) ∧ bs.length ≤ i ∧ ∀ b ∈ bs, b < 256 ∧ b % 8 < 6

theorem plainR_spec {s : ByteArray} (hs : s.size ≤ 10) {h : Heap} {Q : Value → Heap → Prop} (hq : ∀ n : Nd, n.Ok 20 → n.wt ≤ 100000000 → Q n.enc h) : acall Try.prog F_homographref02_Plain [.string s] h Q := by
  apply W_homographref02_Plain_ok
  unfold W_homographref02_Plain
  refine ⟨PlI h s, s.size, gcL_same ⟨0, .slice none 0 0, [], [], rfl, by rw [List.append_nil], rfl, by omega, Acc.nil, by simp, by simp⟩, ?_⟩
  rintro k x6 x7 x8 x9 H ⟨i, v, g, bs, hv, rfl, hk, hi, ac, hl, hbs⟩
  simp only [List.cons.injEq, and_true] at hv
  obtain ⟨rfl, rfl, rfl, rfl⟩ := hv
  have hB : (h ++ [zrow8]).length = h.length + 1 := by simp
  rw [lenStr_str, oW_some, n_lss, oW_some, bW_dec]
  constructor
  · intro hlt
    have hlt' : i < s.size := by omega
    have hb := byte_lt hlt'
    have hlb : i < (bytesN s).length := by rw [bytesN_len]; exact hlt'
    refine ixS_str hlt' ?_
    generalize hc : (bytesN s)[i]! = c at hb
    have r8 : binN .rem (byte c) (.int .u8 8) = some (byte (c % 8)) := by
      have e : (c : Int).tmod 8 = ((c % 8 : Nat) : Int) := by rw [Int.tmod_eq_emod_of_nonneg (by omega)]; omega
      rw [n_rem (by omega), e]
    rw [r8, oW_some, n_lss, oW_some, bW_dec]
    constructor
    · intro h6
      refine ixS_str hlt' ?_
      rw [hc]
      refine Acc.push hB ac (by omega) byte_len rfl rfl rfl rfl (by simp; omega) (by simp; omega) fun v' g' a2 _ _ _ => ?_
      rw [n_add (by omega), oW_some]
      refine ⟨s.size - (i + 1), by omega, gcL_same ⟨i + 1, v', g', bs ++ [c], by simp, rfl, rfl, by omega, by simpa using a2, by simp; omega, fun b hb' => ?_⟩⟩
      rcases List.mem_append.1 hb' with q | q
      · exact hbs b q
      · simp at q; subst q; omega
    · intro h6
      rw [n_add (by omega), oW_some]
      exact ⟨s.size - (i + 1), by omega, gcL_same ⟨i + 1, x8, g, bs, by simp, rfl, rfl, by omega, ac, by omega, hbs⟩⟩
  · intro hge
    obtain ⟨t, e1, e2⟩ := cvBS_acc ac fun b hb => (hbs b hb).1
    have ht : t.size = bs.length := by rw [← e2, bytesN_len]
    rw [e1, oW_some]
    refine callW_plain.2 (make_spec (by omega) (fun b hb => (hbs b (by rw [← e2]; exact hb)).2) fun n hn hw => ?_)
    refine retN (hq n hn ?_)
    have : 6 ^ t.size ≤ 6 ^ 10 := Nat.pow_le_pow_right (by omega) (by omega)
    have : (6 : Nat) ^ 10 = 60466176 := rfl
    omega

end Go.Ax
