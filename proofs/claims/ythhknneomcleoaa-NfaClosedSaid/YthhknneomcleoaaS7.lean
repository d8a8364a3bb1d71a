/- Specs: nfa.Whole; the reference's closure and step. -/
import Derived.Test.YthhknneomcleoaaS6
import Derived.Test.YthhknneomcleoaaW2
namespace Go.Ax
open Go Go.Proofs Go.RowKit

theorem index_spec {l : List Int} {x : Int} {h : Heap} {Q : Value → Heap → Prop} (hl : l.length ≤ 1000000000) (hq : ∀ i : Int, (0 ≤ i ↔ x ∈ l) → Q (.int .i64 i) h) : acall Try.prog F_slices_Index_int_int [ints l, .int .i64 x] h Q := by
  apply W_slices_Index_int_int_ok
  unfold W_slices_Index_int_int
  rw [lenS_lit, oW_some]
  refine ⟨fun k vs g => ∃ i : Nat, vs = [ints l, .int .i64 x, .int .i64 ((l.map fun n => Value.int .i64 n).length : Int), .int .i64 (i : Int)] ∧ g = h ∧ k = l.length - i ∧ i ≤ l.length ∧ ∀ j (p : j < l.length), j < i → l[j] ≠ x, l.length, gcL_same ⟨0, by simp⟩, ?_⟩
  rintro k x5 x6 x7 x8 g ⟨i, hv, rfl, hk, hi, hno⟩
  simp only [List.cons.injEq, and_true] at hv
  obtain ⟨rfl, rfl, rfl, rfl⟩ := hv
  rw [n_lss, oW_some, bW_dec]
  simp only [List.length_map]
  constructor
  · intro hlt
    have hlt' : i < l.length := by omega
    refine ix_ints hlt' ?_
    rw [n_eql, oW_some, bW_dec]
    constructor
    · intro e
      exact gcV_same (hq _ ⟨fun _ => by rw [e]; simp, fun _ => by omega⟩)
    · intro e
      rw [n_add (by omega), oW_some]
      refine ⟨l.length - (i + 1), by omega, gcL_same ⟨i + 1, by simp, rfl, rfl, by omega, fun j p q => ?_⟩⟩
      by_cases c : j = i
      · subst c; exact fun e2 => e e2.symm
      · exact hno j p (by omega)
  · intro hge
    refine gcV_same (hq _ ⟨fun q => by omega, fun hm => ?_⟩)
    obtain ⟨j, p, e⟩ := List.mem_iff_getElem.1 hm
    exact absurd e (hno j p (by omega))

theorem contains_spec {l : List Int} {x : Int} {h : Heap} {Q : Value → Heap → Prop} (hl : l.length ≤ 1000000000) (hq : Q (.bool (decide (x ∈ l))) h) : acall Try.prog F_slices_Contains_int_int [ints l, .int .i64 x] h Q := by
  apply W_slices_Contains_int_int_ok
  unfold W_slices_Contains_int_int
  refine callW_plain.2 (index_spec hl fun i hi => ?_)
  rw [n_geq, oW_some]
  have : decide (0 ≤ i) = decide (x ∈ l) := by simp only [hi]
  rw [this]
  exact gcV_same hq

noncomputable def Mch.run (m : Mch) : List Int → List Nat → List Int
  | l, [] => l
  | l, b :: r => m.run (m.step l b) r
noncomputable def Mch.whole (m : Mch) (s : List Nat) : Bool := decide (m.stop ∈ m.run (m.clo [m.start]) s)

/-- The bytes of a text. -/
abbrev bytesN (s : ByteArray) : List Nat := s.data.toList.map UInt8.toNat

theorem clo_len (m : Mch) (l : List Int) : (m.clo l).length ≤ m.count := by
  unfold Mch.clo
  exact Nat.le_trans (List.length_filter_le _ _) (by simp)

def WholeI (h : Heap) (m : Mch) (s : ByteArray) (k : Nat) (vs : List Value) (H : Heap) : Prop :=
  ∃ (i : Nat) (t : Heap) (j : Nat), vs = [.pointer (some ⟨h.length, 0, none⟩), ints (m.run (m.clo [m.start]) ((bytesN s).take i)), .slice (some ⟨j, 0, none⟩) s.size s.size, .int .i64 (s.size : Int), .int .i64 (i : Int)] ∧
    H = h ++ mrow m :: t ∧ getRow H j = some (bytesV s, .grown 1) ∧ k = s.size - i ∧ i ≤ s.size

theorem run_append {m : Mch} : ∀ {l : List Int} {a : List Nat} {b : Nat}, m.run l (a ++ [b]) = m.step (m.run l a) b
  | _, [], _ => rfl
  | l, x :: a, b => by simp only [List.cons_append, Mch.run]; exact run_append
theorem run_len {m : Mch} : ∀ {a : List Nat} {l : List Int}, l.length ≤ m.count → (m.run l a).length ≤ m.count
  | [], l, h => h
  | x :: a, l, _ => by simp only [Mch.run]; exact run_len (clo_len _ _)

theorem whole_spec {m : Mch} {s : ByteArray} (hok : m.ok) (hl : m.eps.length ≤ 1000000000) (hla : m.arcs.length ≤ 100000000) (hc : m.count ≤ 5000) (hs : s.size ≤ 1000000000) {h : Heap} {Q : Value → Heap → Prop} (hq : Q (.bool (m.whole (bytesN s))) h) :
    acall Try.prog F_nfa_Whole [m.enc, .string s] h Q := by
  apply W_nfa_Whole_ok
  unfold W_nfa_Whole
  simp [-exists_and_right]
  refine bsl1 rfl rfl rfl ?_
  have a0 : Acc 1 (h ++ [mrow m]).length (h ++ [mrow m] ++ [AObj.row (cellsOf (Value.int IntKind.i64 m.start)) Md.exact]) (.slice (some ⟨(h ++ [mrow m]).length, 0, none⟩) 1 1) ([m.start].map fun x => .int .i64 x) :=
    Acc.made (l := [.int .i64 m.start]) (int_len (l := [m.start])) (Nat.le_refl _)
  obtain ⟨fr, r, g', f1, f2, f3, f4, f5⟩ := a0.frz rfl (by omega) int_len int_cl
  have hst := hok.2.2.1
  have hsp := hok.2.2.2
  unfold inR at hst hsp
  refine acall_frz f1 (args2 := [m.enc, ints [m.start]]) ⟨.cl (.agg _ (by simp; exact ⟨.int _ _, Cl.lit' encP_cl, Cl.lit' encA_cl, .int _ _, .int _ _⟩)), f2, trivial⟩ ?_
  refine close_spec hok.1 hl hc (by simp) (fun x hx => by simp at hx; subst hx; omega) ?_
  rw [show ∀ (H : Heap), cvSB H (.string s) = some (.slice (some ⟨H.length, 0, none⟩) s.size s.size, H ++ [.row (bytesV s) (.grown 1)]) from fun _ => rfl, hW_some, lenS_slice, oW_some]
  have eH : h ++ [mrow m] ++ g' ++ [AObj.row (bytesV s) (.grown 1)] = h ++ mrow m :: (g' ++ [AObj.row (bytesV s) (.grown 1)]) := by simp
  have hrow : ∀ t, getRow (h ++ mrow m :: t) h.length = some ([.int .i64 (m.count : Int), lit (m.eps.map encP), lit (m.arcs.map encA), .int .i64 m.start, .int .i64 m.stop], .exact) := fun t => by rw [row_app0]; rfl
  refine ⟨WholeI h m s, s.size, gcL_same ⟨0, g' ++ [AObj.row (bytesV s) (.grown 1)], (h ++ [mrow m] ++ g').length, by simp [Mch.run], by rw [eH], by rw [row_app0]; rfl, rfl, by omega⟩, ?_⟩
  rintro k x17 x18 x19 x20 x21 H ⟨i, t, j, hv, rfl, hj, hk, hi⟩
  simp only [List.cons.injEq, and_true] at hv
  obtain ⟨rfl, rfl, rfl, rfl, rfl⟩ := hv
  rw [n_lss, oW_some, bW_dec]
  have hbl : (bytesV s).length = s.size := by simp [bytesV]
  have hrl : (m.run (m.clo [m.start]) ((bytesN s).take i)).length ≤ m.count := run_len (clo_len _ _)
  constructor
  · intro hlt
    have hlt' : i < s.size := by omega
    rw [iaS_slice (by omega), oW_some, ldW_one, hj, Option.bind_some]
    have hnl : i < (bytesN s).length := by simp; exact hlt'
    have hbv : (bytesV s)[0 + i * 1]? = some (byte (bytesN s)[i]) := by
      have : 0 + i * 1 = i := by omega
      have hsz : i < s.data.toList.length := hlt'
      rw [this]
      unfold bytesV
      rw [List.getElem?_map, List.getElem?_eq_getElem hsz]
      simp [bytesN]
    rw [hbv, oW_some, ldW_agg, hrow, Option.bind_some, if_pos (by simp), oW_some]
    show acall Try.prog F_nfa_Step [m.enc, ints (m.run (m.clo [m.start]) ((bytesN s).take i)), byte (bytesN s)[i]] _ _
    refine step_spec (by simp [bytesN]; exact UInt8.toNat_lt _) hok hl hla hc (by omega) ?_
    rw [n_add (by omega), oW_some]
    refine ⟨s.size - (i + 1), by omega, gcL_same ⟨i + 1, t, j, ?_, rfl, hj, rfl, by omega⟩⟩
    rw [List.take_add_one, List.getElem?_eq_getElem hnl]
    simp only [Option.toList, run_append]
    simp
  · intro hge
    have hil : i = s.size := by omega
    subst hil
    rw [fa_ptr, oW_some, ldW_one, hrow]
    show oW (some (.int .i64 m.stop)) _
    rw [oW_some]
    refine contains_spec (by omega) ?_
    have hbn : (bytesN s).take s.size = bytesN s := List.take_of_length_le (by simp)
    rw [hbn]
    exact gcV_end (.cl (.bool _)) hq

end Go.Ax
