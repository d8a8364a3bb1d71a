/- Contracts of the machines' whole walks, and of the builder. -/
import Derived.Test.YthhknneomcleoaaT1
import Derived.Test.YthhknneomcleoaaW2
namespace Go.Ax
open Go Go.Proofs Go.RowKit

theorem index_spec {l : List Int} {x : Int} {h : Heap} {Q : Value → Heap → Prop} (hl : l.length ≤ 1000000000) (hq : ∀ i : Int, (0 ≤ i ↔ x ∈ l) → Q (.int .i64 i) h) : acall Try.prog F_slices_Index_int_int [ints l, .int .i64 x] h Q := by
  apply W_slices_Index_int_int_ok
  unfold W_slices_Index_int_int
  rw [lenS_lit, oW_some]
  refine ⟨fun k vs g => ∃ i : Nat, vs = [ints l, .int .i64 x, .int .i64 ((l.map fun n => Value.int .i64 n).length : Int), .int .i64 (i : Int)] ∧ g = h ∧ k = l.length - i ∧ i ≤ l.length ∧ ∀ j (p : j < l.length), j < i → l[j] ≠ x, l.length, gcL_same ⟨0, by simp⟩, ?_⟩
  rintro k x5 x6 x7 x8 g ⟨i, hv, rfl, hk, hi, hno⟩
  simp only [List.cons.injEq, and_true] at hv
  obtain ⟨rfl, rfl, rfl, rfl⟩ := hv
  rw [n_lss, oW_some, bW_dec]
  simp only [List.length_map]
  constructor
  · intro hlt
    have hlt' : i < l.length := by omega
    refine ix_ints hlt' ?_
    rw [n_eql, oW_some, bW_dec]
    constructor
    · intro e
      exact gcV_same (hq _ ⟨fun _ => by rw [e]; simp, fun _ => by omega⟩)
    · intro e
      rw [n_add (by omega), oW_some]
      refine ⟨l.length - (i + 1), by omega, gcL_same ⟨i + 1, by simp, rfl, rfl, by omega, fun j p q => ?_⟩⟩
      by_cases c : j = i
      · subst c; exact fun e2 => e e2.symm
      · exact hno j p (by omega)
  · intro hge
    refine gcV_same (hq _ ⟨fun q => by omega, fun hm => ?_⟩)
    obtain ⟨j, p, e⟩ := List.mem_iff_getElem.1 hm
    exact absurd e (hno j p (by omega))

theorem contains_spec {l : List Int} {x : Int} {h : Heap} {Q : Value → Heap → Prop} (hl : l.length ≤ 1000000000) (hq : Q (.bool (decide (x ∈ l))) h) : acall Try.prog F_slices_Contains_int_int [ints l, .int .i64 x] h Q := by
  apply W_slices_Contains_int_int_ok
  unfold W_slices_Contains_int_int
  refine callW_plain.2 (index_spec hl fun i hi => ?_)
  rw [n_geq, oW_some]
  have : decide (0 ≤ i) = decide (x ∈ l) := by simp only [hi]
  rw [this]
  exact gcV_same hq

noncomputable def Mch.run (m : Mch) : List Int → List Nat → List Int
  | l, [] => l
  | l, b :: r => m.run (m.step l b) r
noncomputable def Mch.whole (m : Mch) (s : List Nat) : Bool := decide (m.stop ∈ m.run (m.clo [m.start]) s)

/-- The bytes of a text. -/
abbrev bytesN (s : ByteArray) : List Nat := s.data.toList.map UInt8.toNat

theorem clo_len (m : Mch) (l : List Int) : (m.clo l).length ≤ m.count := by
  unfold Mch.clo
  exact Nat.le_trans (List.length_filter_le _ _) (by simp)

def WholeI (h : Heap) (m : Mch) (s : ByteArray) (k : Nat) (vs : List Value) (H : Heap) : Prop :=
  ∃ (i : Nat) (t : Heap) (j : Nat), vs = [.pointer (some ⟨h.length, 0, none⟩), ints (m.run (m.clo [m.start]) ((bytesN s).take i)), .slice (some ⟨j, 0, none⟩) s.size s.size, .int .i64 (s.size : Int), .int .i64 (i : Int)] ∧
    H = h ++ mrow m :: t ∧ getRow H j = some (bytesV s, .grown 1) ∧ k = s.size - i ∧ i ≤ s.size

theorem run_append {m : Mch} : ∀ {l : List Int} {a : List Nat} {b : Nat}, m.run l (a ++ [b]) = m.step (m.run l a) b
  | _, [], _ => rfl
  | l, x :: a, b => by simp only [List.cons_append, Mch.run]; exact run_append
theorem run_len {m : Mch} : ∀ {a : List Nat} {l : List Int}, l.length ≤ m.count → (m.run l a).length ≤ m.count
  | [], l, h => h
  | x :: a, l, _ => by simp only [Mch.run]; exact run_len (clo_len _ _)

theorem whole_spec {m : Mch} {s : ByteArray} (hok : m.ok) (hl : m.eps.length ≤ 1000000000) (hla : m.arcs.length ≤ 100000000) (hc : m.count ≤ 5000) (hs : s.size ≤ 1000000000) {h : Heap} {Q : Value → Heap → Prop} (hq : Q (.bool (m.whole (bytesN s))) h) :
    acall Try.prog F_nfa_Whole [m.enc, .string s] h Q := by
  apply W_nfa_Whole_ok
  unfold W_nfa_Whole
  simp [-exists_and_right]
  refine bsl1 rfl rfl rfl ?_
  have a0 : Acc 1 (h ++ [mrow m]).length (h ++ [mrow m] ++ [AObj.row (cellsOf (Value.int IntKind.i64 m.start)) Md.exact]) (.slice (some ⟨(h ++ [mrow m]).length, 0, none⟩) 1 1) ([m.start].map fun x => .int .i64 x) :=
    Acc.made (l := [.int .i64 m.start]) (int_len (l := [m.start])) (Nat.le_refl _)
  obtain ⟨fr, r, g', f1, f2, f3, f4, f5⟩ := a0.frz rfl (by omega) int_len int_cl
  have hst := hok.2.2.1
  have hsp := hok.2.2.2
  unfold inR at hst hsp
  refine acall_frz f1 (args2 := [m.enc, ints [m.start]]) ⟨.cl (.agg _ (by simp; exact ⟨.int _ _, Cl.lit' encP_cl, Cl.lit' encA_cl, .int _ _, .int _ _⟩)), f2, trivial⟩ ?_
  refine close_spec hok.1 hl hc (by simp) (fun x hx => by simp at hx; subst hx; omega) ?_
  rw [show ∀ (H : Heap), cvSB H (.string s) = some (.slice (some ⟨H.length, 0, none⟩) s.size s.size, H ++ [.row (bytesV s) (.grown 1)]) from fun _ => rfl, hW_some, lenS_slice, oW_some]
  have eH : h ++ [mrow m] ++ g' ++ [AObj.row (bytesV s) (.grown 1)] = h ++ mrow m :: (g' ++ [AObj.row (bytesV s) (.grown 1)]) := by simp
  have hrow : ∀ t, getRow (h ++ mrow m :: t) h.length = some ([.int .i64 (m.count : Int), lit (m.eps.map encP), lit (m.arcs.map encA), .int .i64 m.start, .int .i64 m.stop], .exact) := fun t => by rw [row_app0]; rfl
  refine ⟨WholeI h m s, s.size, gcL_same ⟨0, g' ++ [AObj.row (bytesV s) (.grown 1)], (h ++ [mrow m] ++ g').length, by simp [Mch.run], by rw [eH], by rw [row_app0]; rfl, rfl, by omega⟩, ?_⟩
  rintro k x17 x18 x19 x20 x21 H ⟨i, t, j, hv, rfl, hj, hk, hi⟩
  simp only [List.cons.injEq, and_true] at hv
  obtain ⟨rfl, rfl, rfl, rfl, rfl⟩ := hv
  rw [n_lss, oW_some, bW_dec]
  have hbl : (bytesV s).length = s.size := by simp [bytesV]
  have hrl : (m.run (m.clo [m.start]) ((bytesN s).take i)).length ≤ m.count := run_len (clo_len _ _)
  constructor
  · intro hlt
    have hlt' : i < s.size := by omega
    rw [iaS_slice (by omega), oW_some, ldW_one, hj, Option.bind_some]
    have hnl : i < (bytesN s).length := by simp; exact hlt'
    have hbv : (bytesV s)[0 + i * 1]? = some (byte (bytesN s)[i]) := by
      have : 0 + i * 1 = i := by omega
      have hsz : i < s.data.toList.length := hlt'
      rw [this]
      unfold bytesV
      rw [List.getElem?_map, List.getElem?_eq_getElem hsz]
      simp [bytesN]
    rw [hbv, oW_some, ldW_agg, hrow, Option.bind_some, if_pos (by simp), oW_some]
    show acall Try.prog F_nfa_Step [m.enc, ints (m.run (m.clo [m.start]) ((bytesN s).take i)), byte (bytesN s)[i]] _ _
    refine step_spec (by simp [bytesN]; exact UInt8.toNat_lt _) hok hl hla hc (by omega) ?_
    rw [n_add (by omega), oW_some]
    refine ⟨s.size - (i + 1), by omega, gcL_same ⟨i + 1, t, j, ?_, rfl, hj, rfl, by omega⟩⟩
    rw [List.take_add_one, List.getElem?_eq_getElem hnl]
    simp only [Option.toList, run_append]
    simp
  · intro hge
    have hil : i = s.size := by omega
    subst hil
    rw [fa_ptr, oW_some, ldW_one, hrow]
    show oW (some (.int .i64 m.stop)) _
    rw [oW_some]
    refine contains_spec (by omega) ?_
    have hbn : (bytesN s).take s.size = bytesN s := List.take_of_length_le (by simp)
    rw [hbn]
    exact gcV_end (.cl (.bool _)) hq

end Go.Ax

namespace Go.Ax
open Go Go.Proofs Go.RowKit

/-- The places that are marked, among the first ones. -/
def marked (c : List Bool) (n : Nat) : List Int := ((List.range n).filter fun i => c.getD i false).map fun (i : Nat) => (i : Int)
theorem marked_succ (c : List Bool) (n : Nat) : marked c (n + 1) = if c.getD n false = true then marked c n ++ [(n : Int)] else marked c n := by
  unfold marked
  rw [List.range_succ, List.filter_append, List.map_append]
  by_cases h : c.getD n false = true
  · rw [if_pos h, List.filter_cons_of_pos (by simpa using h)]; rfl
  · rw [if_neg h, List.filter_cons_of_neg (by simpa using h)]; simp
theorem marked_len (c : List Bool) (n : Nat) : (marked c n).length ≤ n := by
  unfold marked
  rw [List.length_map]
  exact Nat.le_trans (List.length_filter_le _ _) (by simp)
theorem mem_marked {c : List Bool} {n : Nat} {x : Int} : x ∈ marked c n ↔ inR n x ∧ c.getD x.toNat false = true := by
  unfold marked
  rw [List.mem_map]
  constructor
  · rintro ⟨i, hi, rfl⟩
    rw [List.mem_filter, List.mem_range] at hi
    exact ⟨⟨by omega, by omega⟩, by simpa using hi.2⟩
  · rintro ⟨⟨h1, h2⟩, h3⟩
    exact ⟨x.toNat, by rw [List.mem_filter, List.mem_range]; exact ⟨by omega, h3⟩, by omega⟩
theorem marked_sorted (c : List Bool) (n : Nat) : (marked c n).Pairwise (· < ·) := by
  unfold marked
  rw [List.pairwise_map]
  exact (List.pairwise_lt_range.filter _).imp (by intro a b h; omega)

theorem bool_len {l : List Bool} : ∀ x ∈ l.map (fun n => Value.bool n), (cellsOf x).length = 1 := fun x hx => by
  obtain ⟨n, _, rfl⟩ := List.mem_map.1 hx; rfl
theorem bool_cl {l : List Bool} : ∀ e ∈ l.map (fun n => Value.bool n), ∀ x ∈ cellsOf e, Cl x := fun e he x hx => by
  obtain ⟨n, _, rfl⟩ := List.mem_map.1 he
  simp at hx; subst hx; exact .bool _
theorem ix_bools {l : List Bool} {n : Nat} {k : IntKind} {h : Heap} {K : Value → Prop} (hn : n < l.length) (k1 : K (.bool l[n])) :
    oW (iaS 1 (bools l) (.int k (n : Int))) fun v => oW (ldW false 1 h v) K := ix_lit hn rfl ⟨_, ld_plit1, k1⟩

theorem rising_spec {c : List Bool} {h : Heap} {Q : Value → Heap → Prop} (hc : c.length ≤ 1000000000) (hq : Q (ints (marked c c.length)) h) : acall Try.prog F_homographref06_rising [bools c] h Q := by
  apply W_homographref06_rising_ok
  refine ⟨fun k vs H => ∃ (i : Nat) (v : Value) (g : Heap), vs = [bools c, v, .int .i64 (i : Int)] ∧ H = h ++ g ∧ k = c.length - i ∧ i ≤ c.length ∧ Acc 1 h.length H v ((marked c i).map fun x => .int .i64 x), c.length, gcL_same ⟨0, _, [], rfl, by simp, by omega, by omega, Acc.nil⟩, ?_⟩
  rintro k x5 x6 x7 H ⟨i, v, g, hv, rfl, hk, hi, ac⟩
  simp only [List.cons.injEq, and_true] at hv
  obtain ⟨rfl, rfl, rfl⟩ := hv
  rw [lenS_lit, oW_some, n_lss, oW_some, bW_dec]
  simp only [List.length_map]
  have hml := marked_len c i
  constructor
  · intro hlt
    have hlt' : i < c.length := by omega
    refine ix_bools hlt' ?_
    have hms := marked_succ c i
    have hg : c.getD i false = c[i] := by simp [hlt']
    rw [hg] at hms
    rw [bW_bool]
    constructor
    · intro hp
      refine Acc.push rfl ac (by omega) int_len rfl rfl rfl rfl (by simp; omega) (by simp; omega) fun v' g' a2 _ _ _ => ?_
      rw [n_add (by omega), oW_some]
      exact ⟨c.length - (i + 1), by omega, gcL_same ⟨i + 1, v', g', by simp, rfl, rfl, by omega, by rw [hms, if_pos hp, List.map_append]; exact a2⟩⟩
    · intro hp
      rw [n_add (by omega), oW_some]
      exact ⟨c.length - (i + 1), by omega, gcL_same ⟨i + 1, x6, g, by simp, rfl, rfl, by omega, by rw [hms, if_neg (by simp [hp])]; exact ac⟩⟩
  · intro hge
    have : i = c.length := by omega
    subst this
    exact ac.done rfl ⟨[], by simp⟩ (by omega) int_len int_cl hq

def RefI1 (h : Heap) (m : Mch) (l : List Int) (k : Nat) (vs : List Value) (H : Heap) : Prop :=
  ∃ (i : Nat) (v : Value) (g : Heap) (c : List Bool), vs = [ints l, .pointer (some ⟨h.length, 0, none⟩), v, .int .i64 (i : Int)] ∧ H = h ++ [mrow m] ++ g ∧ k = l.length - i ∧ i ≤ l.length ∧ Acc 1 (h.length + 1) H v (c.map fun x => .bool x) ∧
    c.length = m.count ∧ ∀ x : Nat, x < m.count → (c.getD x false = true ↔ (x : Int) ∈ l.take i)

def falses (c : List Bool) : Nat := c.count false

def RefI2 (h : Heap) (m : Mch) (l : List Int) (k : Nat) (vs : List Value) (H : Heap) : Prop :=
  ∃ (v : Value) (g : Heap) (c : List Bool) (more : Bool), vs = [.pointer (some ⟨h.length, 0, none⟩), v, .bool more] ∧ H = h ++ [mrow m] ++ g ∧ k = falses c + (if more = true then 1 else 0) ∧ Acc 1 (h.length + 1) H v (c.map fun x => .bool x) ∧
    c.length = m.count ∧ (∀ x : Nat, x < m.count → (x : Int) ∈ l → c.getD x false = true) ∧ (∀ x : Nat, x < m.count → c.getD x false = true → EReach m.eps (fun x => x ∈ l ∧ inR m.count x) x) ∧
    (more = false → ∀ p ∈ m.eps, c.getD p.1.toNat false = true → c.getD p.2.toNat false = true)

def RefI3 (h : Heap) (m : Mch) (l : List Int) (f0 : Nat) (k : Nat) (vs : List Value) (H : Heap) : Prop :=
  ∃ (v : Value) (g : Heap) (c : List Bool) (more : Bool) (i : Nat), vs = [.pointer (some ⟨h.length, 0, none⟩), v, .bool more, .int .i64 (i : Int)] ∧ H = h ++ [mrow m] ++ g ∧ k = m.eps.length - i ∧ i ≤ m.eps.length ∧ Acc 1 (h.length + 1) H v (c.map fun x => .bool x) ∧
    c.length = m.count ∧ (∀ x : Nat, x < m.count → (x : Int) ∈ l → c.getD x false = true) ∧ (∀ x : Nat, x < m.count → c.getD x false = true → EReach m.eps (fun x => x ∈ l ∧ inR m.count x) x) ∧
    (more = false → falses c = f0 ∧ ∀ p ∈ m.eps.take i, c.getD p.1.toNat false = true → c.getD p.2.toNat false = true) ∧ (more = true → falses c < f0)

theorem getD_set {c : List Bool} {i j : Nat} {b : Bool} (hi : i < c.length) : (c.set i b).getD j false = if j = i then b else c.getD j false := by
  rw [List.getD_eq_getElem?_getD, List.getElem?_set]
  by_cases e : i = j
  · subst e; simp [hi]
  · rw [if_neg e, if_neg (Ne.symm e)]; rfl
theorem falses_set {c : List Bool} {i : Nat} (hi : i < c.length) (hf : c.getD i false = false) : falses (c.set i true) < falses c := by
  unfold falses
  induction c generalizing i with
  | nil => simp at hi
  | cons x c ih =>
    cases i with
    | zero => simp at hf; subst hf; simp
    | succ i =>
      have := ih (i := i) (by simpa using hi) (by simpa using hf)
      simp [List.count_cons] at this ⊢
      omega

theorem refClose_spec {m : Mch} {l : List Int} (hok : ∀ p ∈ m.eps, inR m.count p.1 ∧ inR m.count p.2) (hl : m.eps.length ≤ 1000000000) (hc : m.count ≤ 5000) (hl2 : l.length ≤ 100000000) {h : Heap} {Q : Value → Heap → Prop} (hq : Q (ints (m.clo l)) h) :
    acall Try.prog F_homographref06_Close [m.enc, ints l] h Q := by
  apply W_homographref06_Close_ok
  unfold W_homographref06_Close
  simp [-exists_and_right]
  have hmm : minmaxA true [Value.int .i64 (m.count : Int), .int .i64 0] = some (.int .i64 (m.count : Int)) := by
    simp only [minmaxA, List.foldlM]
    by_cases h0 : (0 : Int) > (m.count : Int)
    · omega
    · simp [h0]
  rw [hmm, oW_some]
  have hrep : repA [Value.bool false] m.count = (List.replicate m.count false).map fun x => Value.bool x := by rw [repA_one, List.map_replicate]
  refine ⟨_, _, by
    simp only [mksW]
    rw [if_pos (by omega)], ?_⟩
  simp only [Int.toNat_natCast]
  rw [hrep]
  generalize hv6 : Value.slice (some ⟨(h ++ [mrow m]).length, 0, none⟩) m.count m.count = v6
  have a6 : Acc 1 (h.length + 1) (h ++ [mrow m] ++ [AObj.row ((List.replicate m.count false).map fun x => Value.bool x) .exact]) v6 ((List.replicate m.count false).map fun x => Value.bool x) := by
    have h1 := Acc.made (sz := 1) (n := h.length + 1) (H := h ++ [mrow m]) (l := (List.replicate m.count false).map fun x => Value.bool x) bool_len (by simp)
    have h2 : ((List.replicate m.count false).map fun x => Value.bool x).flatMap cellsOf = (List.replicate m.count false).map fun x => Value.bool x := flat_one fun e he => by
      obtain ⟨n, _, rfl⟩ := List.mem_map.1 he; rfl
    rw [h2] at h1
    rw [← hv6]
    simpa using h1
  refine ⟨RefI1 h m l, l.length, gcL_same ⟨0, v6, [AObj.row ((List.replicate m.count false).map fun x => Value.bool x) .exact], List.replicate m.count false, rfl, rfl, rfl, by omega, a6, by simp, fun x hx => by simp [hx]⟩, ?_⟩
  rintro k x12 x13 x14 x15 H ⟨i, v, g, c, hv, rfl, hk, hi, ac, hcl, hm⟩
  simp only [List.cons.injEq, and_true] at hv
  obtain ⟨rfl, rfl, rfl, rfl⟩ := hv
  have hB : (h ++ [mrow m]).length = h.length + 1 := by simp
  have hrow : ∀ t, getRow (h ++ [mrow m] ++ t) h.length = some ([.int .i64 (m.count : Int), lit (m.eps.map encP), lit (m.arcs.map encA), .int .i64 m.start, .int .i64 m.stop], .exact) := fun t => by
    rw [List.append_assoc, row_app0]; rfl
  rw [lenS_lit, oW_some, n_lss, oW_some, bW_dec]
  simp only [List.length_map]
  constructor
  · intro hlt
    have hlt' : i < l.length := by omega
    have htk : l.take (i + 1) = l.take i ++ [l[i]] := by rw [List.take_add_one, List.getElem?_eq_getElem hlt']; rfl
    refine ix_ints hlt' ?_
    rw [n_geq, oW_some, bW_dec]
    have skip : ¬ inR m.count l[i] → oW (binN .add (.int .i64 (i : Int)) (.int .i64 1)) fun v31 => ∃ m10, m10 < k ∧ gcL h (RefI1 h m l m10) [ints l, .pointer (some ⟨h.length, 0, none⟩), x14, v31] (h ++ [mrow m] ++ g) := fun hn => by
      rw [n_add (by omega), oW_some]
      refine ⟨l.length - (i + 1), by omega, gcL_same ⟨i + 1, x14, g, c, by simp, rfl, rfl, by omega, ac, hcl, fun x hx => ?_⟩⟩
      rw [hm x hx, htk, List.mem_append]
      constructor
      · exact .inl
      · rintro (q | q)
        · exact q
        · simp at q; rw [← q] at hn; exact absurd ⟨by omega, by omega⟩ hn
    constructor
    · intro h0
      refine ix_ints hlt' ?_
      rw [ac.len, oW_some, n_lss, oW_some, bW_dec]
      simp only [List.length_map, hcl]
      constructor
      · intro h1
        refine ix_ints hlt' ?_
        have hcast : l[i] = ((l[i].toNat : Nat) : Int) := by omega
        generalize hq : l[i].toNat = q at hcast
        rw [hcast] at h1 htk ⊢
        refine ac.set hB (by omega) bool_len rfl rfl rfl (by simp; omega) fun g2 ac2 _ => ?_
        rw [n_add (by omega), oW_some]
        refine ⟨l.length - (i + 1), by omega, gcL_same ⟨i + 1, x14, g2, c.set q true, by simp, rfl, rfl, by omega, by rw [List.map_set]; exact ac2, by simp [hcl], fun x hx => ?_⟩⟩
        rw [getD_set (by omega), htk, List.mem_append, ← hm x hx]
        by_cases e : x = q
        · rw [if_pos e]; simp [e]
        · rw [if_neg e]; simp; intro e2; exact absurd (by omega) e
      · intro h1
        exact skip fun q => h1 (by unfold inR at q; omega)
    · intro h0
      exact skip fun q => h0 (by unfold inR at q; omega)
  · intro hge
    have hil : i = l.length := by omega
    subst hil
    rw [List.take_length] at hm
    refine ⟨RefI2 h m l, falses c + 1, gcL_same ⟨x14, g, c, true, rfl, rfl, by simp, ac, hcl, fun x hx q => (hm x hx).2 q, fun x hx q => .base ⟨(hm x hx).1 q, ⟨by omega, by omega⟩⟩, fun q => by cases q⟩, ?_⟩
    rintro k x42 x43 x44 H ⟨v2, g2, c2, more, hv, rfl, hk2, ac2, hcl2, b1, b2, b3⟩
    simp only [List.cons.injEq, and_true] at hv
    obtain ⟨rfl, rfl, rfl⟩ := hv
    rw [bW_bool]
    constructor
    · intro hmore
      subst hmore
      refine ⟨RefI3 h m l (falses c2), m.eps.length, gcL_same ⟨x43, g2, c2, false, 0, rfl, rfl, rfl, by omega, ac2, hcl2, b1, b2, fun _ => ⟨rfl, by simp⟩, fun q => by cases q⟩, ?_⟩
      rintro k3 x50 x51 x52 x53 H ⟨v3, g3, c3, more, j, hv, rfl, hk3, hj, ac3, hcl3, d1, d2, d3, d4⟩
      simp only [List.cons.injEq, and_true] at hv
      obtain ⟨rfl, rfl, rfl, rfl⟩ := hv
      rw [fa_ptr, oW_some, ldW_one, hrow]
      show oW (some (lit (m.eps.map encP))) _
      rw [oW_some, lenS_lit, oW_some, n_lss, oW_some, bW_dec]
      simp only [List.length_map]
      constructor
      · intro hlt
        have hlt' : j < m.eps.length := by omega
        have htk : m.eps.take (j + 1) = m.eps.take j ++ [m.eps[j]] := by rw [List.take_add_one, List.getElem?_eq_getElem hlt']; rfl
        have hpe : m.eps[j] ∈ m.eps := by simp
        have hp := hok _ hpe
        have ld : ∀ (K : Value → Prop), K (lit (m.eps.map encP)) → oW (faW 1 1 (.pointer (some ⟨h.length, 0, none⟩))) fun v59 => oW (ldW false 1 (h ++ [mrow m] ++ g3) v59) K := fun K hK => by
          rw [fa_ptr, oW_some, ldW_one, hrow]
          exact oW_some.2 hK
        refine ld _ ?_
        refine ix_lit hlt' rfl ?_
        generalize hpj : m.eps[j] = p at htk hpe hp
        unfold inR at hp
        have hp1 : p.1 = ((p.1.toNat : Nat) : Int) := by omega
        have hp2 : p.2 = ((p.2.toNat : Nat) : Int) := by omega
        rw [show iaA 2 1 (plit (cellsOf (encP p))) (.int .i64 0) = some (plit [.int .i64 p.1]) by simp [iaA, plitSub], oW_some, ld_plit1, oW_some]
        refine ld _ ?_
        refine ix_lit (f := encP) hlt' rfl ?_
        rw [hpj, show iaA 2 1 (plit (cellsOf (encP p))) (.int .i64 1) = some (plit [.int .i64 p.2]) by simp [iaA, plitSub], oW_some, ld_plit1, oW_some, hp1, hp2]
        have x1 : p.1.toNat < c3.length := by omega
        have x2 : p.2.toNat < c3.length := by omega
        have y1 : c3.getD p.1.toNat false = c3[p.1.toNat] := by simp [x1]
        have y2 : c3.getD p.2.toNat false = c3[p.2.toNat] := by simp [x2]
        have stay : (c3[p.1.toNat] = true → c3[p.2.toNat] = true) → oW (binN .add (.int .i64 (j : Int)) (.int .i64 1)) fun v77 => ∃ m48, m48 < k3 ∧ gcL h (RefI3 h m l (falses c2) m48) [.pointer (some ⟨h.length, 0, none⟩), x51, .bool more, v77] (h ++ [mrow m] ++ g3) := fun hs => by
          rw [n_add (by omega), oW_some]
          refine ⟨m.eps.length - (j + 1), by omega, gcL_same ⟨x51, g3, c3, more, j + 1, by simp, rfl, rfl, by omega, ac3, hcl3, d1, d2, fun q => ⟨(d3 q).1, fun p' hp' => ?_⟩, d4⟩⟩
          rw [htk] at hp'
          rcases List.mem_append.1 hp' with r | r
          · exact (d3 q).2 p' r
          · simp at r; subst r
            rw [y1, y2]; exact hs
        refine ac3.at_ (by omega) bool_len (by simp; exact x1) (fun q => by cases q) (fun _ => by simp) ?_
        simp only [List.getElem_map]
        rw [bW_bool]
        constructor
        · intro t1
          refine ac3.at_ (by omega) bool_len (by simp; exact x2) (fun q => by cases q) (fun _ => by simp) ?_
          simp only [List.getElem_map]
          rw [u_not, oW_some, bW_bool]
          constructor
          · intro t2
            have t2' : c3[p.2.toNat] = false := by simpa using t2
            refine ac3.set hB (by omega) bool_len rfl rfl rfl (by simp; exact x2) fun g4 ac4 _ => ?_
            rw [n_add (by omega), oW_some]
            have hlt4 := falses_set x2 (y2.trans t2')
            have hle : falses c3 ≤ falses c2 := by
              cases more with
              | true => have := d4 rfl; omega
              | false => have := (d3 rfl).1; omega
            refine ⟨m.eps.length - (j + 1), by omega, gcL_same ⟨x51, g4, c3.set p.2.toNat true, true, j + 1, by simp, rfl, rfl, by omega, by rw [List.map_set]; exact ac4, by simp [hcl3], fun x hx q => ?_, fun x hx q => ?_, (fun q => by cases q), fun _ => by omega⟩⟩
            · rw [getD_set x2]
              split
              · rfl
              · exact d1 x hx q
            · rw [getD_set x2] at q
              by_cases e : x = p.2.toNat
              · subst e
                rw [← hp2]
                refine .step (x := p.1) ?_ hpe
                have := d2 p.1.toNat (by omega) (y1.trans t1)
                rwa [← hp1] at this
              · rw [if_neg e] at q; exact d2 x hx q
          · intro t2
            have t2' : c3[p.2.toNat] = true := by simpa using t2
            exact stay fun _ => t2'
        · intro t1
          exact stay fun q => by rw [t1] at q; cases q
      · intro hge3
        have hje : j = m.eps.length := by omega
        subst hje
        rw [List.take_length] at d3
        cases more with
        | true =>
          have := d4 rfl
          exact ⟨falses c3 + 1, by simp at hk2; omega, gcL_same ⟨x51, g3, c3, true, rfl, rfl, by simp, ac3, hcl3, d1, d2, fun q => by cases q⟩⟩
        | false =>
          obtain ⟨e1, e2⟩ := d3 rfl
          exact ⟨falses c3, by simp at hk2; omega, gcL_same ⟨x51, g3, c3, false, rfl, rfl, by simp, ac3, hcl3, d1, d2, fun _ => e2⟩⟩
    · intro hno
      have hclosed := b3 hno
      obtain ⟨fr, r, g', f1, f2, f3, f4, f5⟩ := ac2.frz hB (by omega) bool_len bool_cl
      refine acall_frz f1 (args2 := [bools c2]) ⟨f2, trivial⟩ (rising_spec (by omega) ?_)
      have : marked c2 c2.length = m.clo l := rising_eq (marked_sorted _ _) (m.clo_sorted l) fun x => by
        rw [mem_marked, Mch.mem_clo, hcl2]
        constructor
        · rintro ⟨h1, h2⟩
          have h1' := h1
          unfold inR at h1
          have := b2 x.toNat (by omega) h2
          rw [show ((x.toNat : Nat) : Int) = x by omega] at this
          exact ⟨h1', this⟩
        · rintro ⟨h1, h2⟩
          refine ⟨h1, ?_⟩
          clear h1
          induction h2 with
          | base h0 =>
            obtain ⟨q1, q2⟩ := h0
            unfold inR at q2
            exact b1 _ (by omega) (by rw [show ((_ : Int).toNat : Int) = _ from Int.toNat_of_nonneg q2.1]; exact q1)
          | step _ e ih => exact hclosed _ e ih
      rw [this, List.append_assoc]
      exact gcV_end (.cl (Cl.lit' int_cl)) hq

end Go.Ax

namespace Go.Ax
open Go Go.Proofs Go.RowKit

theorem Mch.cl (m : Mch) : Cl m.enc := .agg _ (by simp; exact ⟨.int _ _, Cl.lit' encP_cl, Cl.lit' encA_cl, .int _ _, .int _ _⟩)

theorem toTake_len {m : Mch} {l : List Int} {b i : Nat} : (toTake m l b i).length ≤ i := by
  unfold toTake
  rw [List.length_map]
  exact Nat.le_trans (List.length_filter_le _ _) (by rw [List.length_take]; omega)
theorem toTake_all {m : Mch} {l : List Int} {b : Nat} : toTake m l b m.arcs.length = m.to l b := by unfold toTake Mch.to; rw [List.take_length]

def RStepI (h : Heap) (m : Mch) (l : List Int) (b : Nat) (k : Nat) (vs : List Value) (H : Heap) : Prop :=
  ∃ (i : Nat) (v : Value) (g : Heap), vs = [ints l, byte b, .pointer (some ⟨h.length, 0, none⟩), v, .int .i64 (i : Int)] ∧
    H = h ++ [mrow m] ++ g ∧ k = m.arcs.length - i ∧ i ≤ m.arcs.length ∧ Acc 1 (h.length + 1) H v ((toTake m l b i).map fun x => .int .i64 x)

theorem refStep_spec {m : Mch} {l : List Int} {b : Nat} (hb : b < 256) (hok : m.ok) (hl : m.eps.length ≤ 1000000000) (hla : m.arcs.length ≤ 100000000) (hc : m.count ≤ 5000) (hl2 : l.length ≤ 100000000) {h : Heap} {Q : Value → Heap → Prop} (hq : Q (ints (m.step l b)) h) :
    acall Try.prog F_homographref06_Step [m.enc, ints l, byte b] h Q := by
  apply W_homographref06_Step_ok
  unfold W_homographref06_Step
  simp [-exists_and_right]
  refine ⟨RStepI h m l b, m.arcs.length, gcL_same ⟨0, .slice none 0 0, [], by simp, by simp, by simp, by omega, by simpa [toTake] using Acc.nil⟩, ?_⟩
  rintro k x7 x8 x9 x10 x11 H ⟨i, v, g, hv, rfl, hk, hi, ac⟩
  simp only [List.cons.injEq, and_true] at hv
  obtain ⟨rfl, rfl, rfl, rfl, rfl⟩ := hv
  have hB : (h ++ [mrow m]).length = h.length + 1 := by simp
  have hrow : ∀ t, getRow (h ++ [mrow m] ++ t) h.length = some ([.int .i64 (m.count : Int), lit (m.eps.map encP), lit (m.arcs.map encA), .int .i64 m.start, .int .i64 m.stop], .exact) := fun t => by
    rw [List.append_assoc, row_app0]; rfl
  have hlen := toTake_len (m := m) (l := l) (b := b) (i := i)
  have ld : ∀ (g : Heap) (K : Value → Prop), K (lit (m.arcs.map encA)) → oW (faW 2 1 (.pointer (some ⟨h.length, 0, none⟩))) fun v59 => oW (ldW false 1 (h ++ [mrow m] ++ g) v59) K := fun g K hK => by
    rw [fa_ptr, oW_some, ldW_one, hrow]
    exact oW_some.2 hK
  refine ld _ _ ?_
  rw [lenS_lit, oW_some, n_lss, oW_some, bW_dec]
  simp only [List.length_map]
  constructor
  · intro hlt
    have hlt' : i < m.arcs.length := by omega
    have hts := toTake_succ (l := l) (b := b) hlt'
    have fin : ∀ (v' : Value) (g' : Heap) (p : Bool), (decide (m.arcs[i].1 ∈ l) && m.arcs[i].2.2.has b) = p → Acc 1 (h.length + 1) (h ++ [mrow m] ++ g') v' ((if p = true then toTake m l b i ++ [m.arcs[i].2.1] else toTake m l b i).map fun x => .int .i64 x) →
        oW (binN .add (.int .i64 (i : Int)) (.int .i64 1)) fun v55 => ∃ m26, m26 < k ∧ gcL h (RStepI h m l b m26) [ints l, byte b, .pointer (some ⟨h.length, 0, none⟩), v', v55] (h ++ [mrow m] ++ g') := fun v' g' p hp ha => by
      rw [n_add (by omega), oW_some]
      exact ⟨m.arcs.length - (i + 1), by omega, gcL_same ⟨i + 1, v', g', by simp, rfl, rfl, by omega, by rw [hts, hp]; exact ha⟩⟩
    refine ld _ _ ?_
    refine ix_lit hlt' rfl ?_
    rw [show faW 0 1 (plit (cellsOf (encA m.arcs[i]))) = some (plit [.int .i64 m.arcs[i].1]) by rw [fa_plit (by simp)]; rfl, oW_some, ld_plit1, oW_some]
    refine has_spec (by omega) ?_
    rw [bW_dec]
    constructor
    · intro hin
      refine ld _ _ ?_
      refine ix_lit hlt' rfl ?_
      rw [show faW 2 4 (plit (cellsOf (encA m.arcs[i]))) = some (plit [w64 m.arcs[i].2.2.a, w64 m.arcs[i].2.2.b, w64 m.arcs[i].2.2.c, w64 m.arcs[i].2.2.d]) by rw [fa_plit (by simp)]; rfl, oW_some, ld_plit (sz := 4) rfl, oW_some]
      refine refHas_spec (s := m.arcs[i].2.2) hb ?_
      rw [bW_bool]
      constructor
      · intro hp
        refine ld _ _ ?_
        refine ix_lit hlt' rfl ?_
        rw [show faW 1 1 (plit (cellsOf (encA m.arcs[i]))) = some (plit [.int .i64 m.arcs[i].2.1]) by rw [fa_plit (by simp)]; rfl, oW_some, ld_plit1, oW_some]
        refine Acc.push hB ac (by omega) int_len rfl rfl rfl rfl (by simp; omega) (by simp; omega) fun v' g' a2 _ _ _ => ?_
        exact fin v' g' true (by simp [hin, hp]) (by simpa using a2)
      · intro hp
        exact fin _ _ false (by simp [hin, hp]) (by simpa using ac)
    · intro hnin
      exact fin _ _ false (by simp [hnin]) (by simpa using ac)
  · intro hge
    have hil : i = m.arcs.length := by omega
    subst hil
    rw [toTake_all] at ac hlen
    rw [ldW_agg, hrow, Option.bind_some, if_pos (by simp), oW_some]
    show acall Try.prog F_homographref06_Close [m.enc, x10] _ _
    obtain ⟨fr, r, g', f1, f2, f3, f4, f5⟩ := ac.frz hB (by omega) int_len int_cl
    refine acall_frz f1 (args2 := [m.enc, ints (m.to l b)]) ⟨.cl m.cl, f2, trivial⟩ ?_
    refine refClose_spec hok.1 hl hc (by omega) ?_
    rw [List.append_assoc]
    exact gcV_end (.cl (Cl.lit' int_cl)) hq

theorem Acc.cell {sz n : Nat} {H : Heap} {v : Value} {l : List Value} (a : Acc sz n H v l) : okVal v = true ∧ cellsOf v = [v] ∧ okCell v = true := by
  rcases a with ⟨rfl, rfl⟩ | ⟨i, cap, c, m, h1, rfl, _⟩ <;> exact ⟨rfl, rfl, rfl⟩
theorem Acc.kept {sz n : Nat} {H : Heap} {v : Value} {l : List Value} (a : Acc sz n H v l) : ∃ (ad : Option Addr) (x y : Nat), v = .slice ad x y := by
  rcases a with ⟨rfl, rfl⟩ | ⟨i, cap, c, m, h1, rfl, _⟩ <;> exact ⟨_, _, _, rfl⟩

theorem Acc.base {sz n : Nat} {B B' g : Heap} {v : Value} {l : List Value} (a : Acc sz n (B ++ g) v l) (hB : B.length = n) (hB' : B'.length = n) : Acc sz n (B' ++ g) v l :=
  a.congr fun i hi => by
    have := a.ge hi
    rw [List.getElem?_append_right (by omega), List.getElem?_append_right (by omega), hB, hB']

def PlainI (h : Heap) (m : Mch) (k : Nat) (vs : List Value) (H : Heap) : Prop :=
  ∃ (i : Nat) (v : Value) (g : Heap), vs = [.pointer (some ⟨h.length, 0, none⟩), .pointer (some ⟨h.length + 1, 0, none⟩), .pointer (some ⟨h.length + 2, 0, none⟩), .int .i64 (i : Int)] ∧
    H = h ++ [mrow m, .row [.int .i64 0, .slice none 0 0, .slice none 0 0, .int .i64 0, .int .i64 0] .exact, .row [.int .i64 (m.count : Int), lit (m.eps.map encP), v, .int .i64 m.start, .int .i64 m.stop] .exact] ++ g ∧
    k = m.arcs.length - i ∧ i ≤ m.arcs.length ∧ Acc 6 (h.length + 3) H v ((m.arcs.take i).map encA)

theorem plainL_spec {m : Mch} (hla : m.arcs.length ≤ 100000000) {h : Heap} {Q : Value → Heap → Prop} (hq : Q m.enc h) :
    acall Try.prog F_homographlaw06_plain [m.enc] h Q := by
  apply W_homographlaw06_plain_ok
  unfold W_homographlaw06_plain
  simp [-exists_and_right, Nat.add_assoc]
  refine ⟨PlainI h m, m.arcs.length, gcL_same ⟨0, .slice none 0 0, [], rfl, by rw [List.append_nil], by omega, by omega, by simpa using Acc.nil⟩, ?_⟩
  rintro k x19 x20 x21 x22 H ⟨i, v, g, hv, rfl, hk, hi, ac⟩
  simp only [List.cons.injEq, and_true] at hv
  obtain ⟨rfl, rfl, rfl, rfl⟩ := hv
  generalize hz : AObj.row [.int .i64 0, .slice none 0 0, .slice none 0 0, .int .i64 0, .int .i64 0] .exact = z at *
  generalize hw : AObj.row [.int .i64 (m.count : Int), lit (m.eps.map encP), v, .int .i64 m.start, .int .i64 m.stop] .exact = w at *
  have hB : (h ++ [mrow m, z, w]).length = h.length + 3 := by simp
  have hrow : ∀ t, getRow (h ++ [mrow m, z, w] ++ t) h.length = some ([.int .i64 (m.count : Int), lit (m.eps.map encP), lit (m.arcs.map encA), .int .i64 m.start, .int .i64 m.stop], .exact) := fun t => by
    rw [List.append_assoc, row_app0]; rfl
  have hroww : ∀ t, getRow (h ++ [mrow m, z, w] ++ t) (h.length + 2) = some ([.int .i64 (m.count : Int), lit (m.eps.map encP), v, .int .i64 m.start, .int .i64 m.stop], .exact) := fun t => by
    rw [List.append_assoc, row_app, ← hw]; rfl
  have hrowz : ∀ t, getRow (h ++ [mrow m, z, w] ++ t) (h.length + 1) = some ([.int .i64 0, .slice none 0 0, .slice none 0 0, .int .i64 0, .int .i64 0], .exact) := fun t => by
    rw [List.append_assoc, row_app, ← hz]; rfl
  have ld : ∀ (g : Heap) (K : Value → Value → Prop), K (.pointer (some ⟨h.length, 0 + 2, none⟩)) (lit (m.arcs.map encA)) → oW (faW 2 1 (.pointer (some ⟨h.length, 0, none⟩))) fun v59 => oW (ldW false 1 (h ++ [mrow m, z, w] ++ g) v59) (K v59) := fun g K hK => by
    rw [fa_ptr, oW_some, ldW_one, hrow]
    exact oW_some.2 hK
  refine ld _ _ ?_
  rw [lenS_lit, oW_some, n_lss, oW_some, bW_dec]
  simp only [List.length_map]
  constructor
  · intro hlt
    have hlt' : i < m.arcs.length := by omega
    have htk : m.arcs.take (i + 1) = m.arcs.take i ++ [m.arcs[i]] := by rw [List.take_add_one, List.getElem?_eq_getElem hlt']; rfl
    rw [fa_ptr, oW_some, ldW_one, hroww]
    show oW (some v) _
    rw [oW_some]
    refine ld _ _ ?_
    refine ix_lit hlt' rfl ?_
    rw [show faW 0 1 (plit (cellsOf (encA m.arcs[i]))) = some (plit [.int .i64 m.arcs[i].1]) by rw [fa_plit (by simp)]; rfl, oW_some, ld_plit1, oW_some]
    refine ld _ _ ?_
    refine ix_lit hlt' rfl ?_
    rw [show faW 1 1 (plit (cellsOf (encA m.arcs[i]))) = some (plit [.int .i64 m.arcs[i].2.1]) by rw [fa_plit (by simp)]; rfl, oW_some, ld_plit1, oW_some]
    refine ld _ _ ?_
    refine ix_lit hlt' rfl ?_
    rw [show faW 2 4 (plit (cellsOf (encA m.arcs[i]))) = some (plit [w64 m.arcs[i].2.2.a, w64 m.arcs[i].2.2.b, w64 m.arcs[i].2.2.c, w64 m.arcs[i].2.2.d]) by rw [fa_plit (by simp)]; rfl, oW_some, ld_plit (sz := 4) rfl, oW_some]
    simp [-exists_and_right]
    refine bsl1 (sz := 6) rfl rfl rfl ?_
    have e0 : h ++ mrow m :: z :: w :: g ++ [AObj.row (cellsOf (encA m.arcs[i])) .exact] = h ++ [mrow m, z, w] ++ (g ++ [AObj.row (cellsOf (encA m.arcs[i])) .exact]) := by simp
    refine ⟨⟨by rw [e0]; simp, by rw [e0]; simp⟩, ?_⟩
    have hsrc := src1 (H := h ++ mrow m :: z :: w :: g) (e := encA m.arcs[i]) (sz := 6) rfl
    rw [e0] at hsrc ⊢
    have ac0 := ac.app (t := [AObj.row (cellsOf (encA m.arcs[i])) .exact])
    rw [List.append_assoc] at ac0
    refine Acc.more hB ac0 (by omega) encA_len (es := [encA m.arcs[i]]) (encA_len (l := [_])) (by simp) hsrc (by simp; omega) (by simp; omega) fun v' g' a2 _ _ _ => ⟨by simp, ?_⟩
    rw [st1 (hroww _) (by simp) a2.cell.1 a2.cell.2.1 a2.cell.2.2 (by simp), sW_some, n_add (by omega), oW_some, List.append_assoc, set_app]
    refine ⟨m.arcs.length - (i + 1), by omega, gcL_same ⟨i + 1, v', g', by simp, by simp [hz, ← hw], rfl, by omega, ?_⟩⟩
    rw [htk, List.map_append]
    have := a2.base (B' := h ++ [mrow m, z, AObj.row [Value.int IntKind.i64 ↑m.count, lit (List.map encP m.eps), v', Value.int IntKind.i64 m.start, Value.int IntKind.i64 m.stop] .exact]) hB (by simp)
    simpa using this
  · intro hge
    have hil : i = m.arcs.length := by omega
    subst hil
    rw [List.take_length] at ac
    rw [ldW_agg, hroww, Option.bind_some, if_pos (by simp [ac.cell.2.2]), oW_some]
    simp only [List.drop_zero, List.take_succ_cons, List.take_zero, stW_agg]
    rw [hrowz, Option.bind_some, if_pos (by simp [ac.cell.2.2]), sW_some]
    have e1 : ∀ o, (h ++ [mrow m, z, w] ++ g).set (h.length + 1) o = h ++ ([mrow m, o, w] ++ g) := fun o => by rw [List.append_assoc, set_app]; rfl
    rw [e1]
    have e2 : ∀ o, (h ++ [mrow m, o, w]).length = h.length + 3 := by simp
    simp only [ldP_agg]
    rw [row_app]
    have a3 := ac.base hB (e2 (AObj.row [Value.int IntKind.i64 ↑m.count, lit (List.map encP m.eps), v, Value.int IntKind.i64 m.start, Value.int IntKind.i64 m.stop] .exact))
    simp [-exists_and_right]
    refine gcV_end ?_ hq
    refine Gv.aggL (xs := [_, _, _, _, _]) ⟨.cl (.int _ _), .cl (Cl.lit' encP_cl), ?_, .cl (.int _ _), .cl (.int _ _), trivial⟩
    simp only [List.append_assoc, List.cons_append, List.nil_append] at a3
    exact a3.gv (fun i hi => ⟨by have := a3.ge hi; omega, by simp⟩) (by omega) encA_len encA_cl

theorem same_spec {a b : List Int} (ha : a.length ≤ 1000000000) (hb : b.length ≤ 1000000000) {h : Heap} {Q : Value → Heap → Prop} (hq : Q (.bool (decide (a = b))) h) : acall Try.prog F_homographref04_Same [ints a, ints b] h Q := by
  apply W_homographref04_Same_ok
  unfold W_homographref04_Same
  rw [lenS_lit, oW_some, lenS_lit, oW_some, n_neq, oW_some, bW_dec]
  simp only [List.length_map]
  constructor
  · intro hne
    rw [decide_eq_false (fun e => hne (by rw [e]))] at hq
    exact gcV_same hq
  · intro heq
    have hl : a.length = b.length := by omega
    refine ⟨fun k vs g => ∃ i : Nat, vs = [ints a, ints b, .int .i64 (i : Int)] ∧ g = h ∧ k = a.length - i ∧ i ≤ a.length ∧ a.take i = b.take i, a.length, gcL_same ⟨0, by simp⟩, ?_⟩
    rintro k x8 x9 x10 g ⟨i, hv, rfl, hk, hi, hno⟩
    simp only [List.cons.injEq, and_true] at hv
    obtain ⟨rfl, rfl, rfl⟩ := hv
    rw [lenS_lit, oW_some, n_lss, oW_some, bW_dec]
    simp only [List.length_map]
    constructor
    · intro hlt
      have h1 : i < a.length := by omega
      have h2 : i < b.length := by omega
      refine ix_ints h1 ?_
      refine ix_ints h2 ?_
      rw [n_neq, oW_some, bW_dec]
      constructor
      · intro hne
        rw [decide_eq_false (fun e => hne (by subst e; rfl))] at hq
        exact gcV_same hq
      · intro he
        rw [n_add (by omega), oW_some]
        refine ⟨a.length - (i + 1), by omega, gcL_same ⟨i + 1, by simp, rfl, rfl, by omega, ?_⟩⟩
        rw [List.take_add_one, List.take_add_one, hno, List.getElem?_eq_getElem h1, List.getElem?_eq_getElem h2, Decidable.not_not.1 he]
    · intro hge
      rw [List.take_of_length_le (by omega), List.take_of_length_le (by omega)] at hno
      rw [decide_eq_true hno] at hq
      exact gcV_same hq

end Go.Ax

namespace Go.Ax
open Go Go.Proofs Go.RowKit

def Nd.cnt : Nd → Bool
  | .mk op _ mn mx ks => decide (0 ≤ op) && decide (op ≤ 5) && (decide (op ≠ 0) || decide (ks.length = 0)) && (decide (op ≠ 3) || decide (ks.length = 1)) && (decide (op ≠ 5) || decide (ks.length = 1)) &&
    decide (0 ≤ mn) && decide (mn ≤ 32) && decide (mx ≤ 32) && (decide (mx < 0) || decide (mn ≤ mx))
mutual
def Nd.plain : Nd → Bool
  | .mk op _ _ _ ks => decide (op ≠ 4) && decide (op ≠ 5) && Nd.plains ks
def Nd.plains : List Nd → Bool
  | [] => true
  | k :: ks => Nd.plain k && Nd.plains ks
end
theorem Nd.plains_eq : ∀ {l : List Nd}, Nd.plains l = l.all Nd.plain
  | [] => rfl
  | k :: ks => by rw [Nd.plains, Nd.plains_eq]; rfl
def Nd.may : Nat → Nd → Bool
  | 0, _ => false
  | d + 1, n => n.cnt && match n with | .mk _ _ _ _ ks => ks.all (Nd.may d)

theorem bW_ndec {p : Prop} [Decidable p] {A B : Prop} : bW (.bool !decide p) A B ↔ (¬ p → A) ∧ (p → B) := by simp [bW_bool]

theorem counts_spec {n : Nd} (hn : ∀ op s mn mx ks, n = .mk op s mn mx ks → ks.length ≤ 1000000000) {h : Heap} {Q : Value → Heap → Prop} (hq : Q (.bool n.cnt) h) : acall Try.prog F_regex_counts [n.enc] h Q := by
  apply W_regex_counts_ok
  cases n with
  | mk op s mn mx ks =>
    have hk := hn _ _ _ _ _ rfl
    rw [Nd.enc_mk]
    have hf : ∀ b : Bool, (Nd.mk op s mn mx ks).cnt = b → ∀ t, gcV h Q (.bool b) (h ++ t) := fun b hb t => gcV_end (.cl (.bool _)) (hb ▸ hq)
    generalize hc : (Nd.mk op s mn mx ks).cnt = c at hf
    simp only [Nd.cnt] at hc
    unfold W_regex_counts
    simp [-exists_and_right, -List.length_eq_zero_iff, bW_dec, bW_ndec]
    refine ⟨fun vs H => vs = [.pointer (some ⟨h.length, 0, none⟩)] ∧ H = h ++ [AObj.row [.int .i64 op, w64 s.a, w64 s.b, w64 s.c, w64 s.d, .int .i64 mn, .int .i64 mx, lit (ks.map Nd.enc)] .exact] ∧
      0 ≤ op ∧ op ≤ 5 ∧ (op = 0 → ks.length = 0) ∧ (op = 3 → ks.length = 1) ∧ (op = 5 → ks.length = 1), ?_, ?_⟩
    all_goals try simp only [Bool.and_eq_true, Bool.or_eq_true, decide_eq_true_eq] at hc
    · repeat' (first | (intro _) | (refine And.intro ?_ ?_))
      all_goals first
        | exact gcL_same ⟨rfl, rfl, by omega, by omega, by omega, by omega, by omega⟩
        | exact hf false (by rw [← hc]; simp only [Bool.and_eq_false_iff, Bool.or_eq_false_iff, decide_eq_false_iff_not]; omega) _
    · rintro x H ⟨hv, rfl, h1, h2, h3, h4, h5⟩
      simp only [List.cons.injEq, and_true] at hv
      subst hv
      simp [-exists_and_right, bW_dec]
      repeat' (first | (intro _) | (refine And.intro ?_ ?_))
      all_goals first
        | exact hf false (by rw [← hc]; simp only [Bool.and_eq_false_iff, Bool.or_eq_false_iff, decide_eq_false_iff_not]; omega) _
        | exact hf true (by rw [← hc]; simp only [Bool.and_eq_true, Bool.or_eq_true, decide_eq_true_eq]; omega) _
        | (refine hf _ ?_ _; rw [← hc, Bool.eq_iff_iff]; simp only [Bool.and_eq_true, Bool.or_eq_true, decide_eq_true_eq]; omega)

/-- slices.IndexFunc at patterns. -/
theorem indexFuncN_spec {l : List Nd} {f : Value} {p : Nd → Bool} (hl : l.length ≤ 1000000000) {h : Heap} (hf : ∀ k ∈ l, ∀ K : Value → Heap → Prop, K (.bool (p k)) h → callW Try.prog f [k.enc] h K) {Q : Value → Heap → Prop}
    (hq : ∀ i : Int, (0 ≤ i ↔ l.any p = true) → Q (.int .i64 i) h) : acall Try.prog F_slices_IndexFunc_api_Node_api_Node [lit (l.map Nd.enc), f] h Q := by
  apply W_slices_IndexFunc_api_Node_api_Node_ok
  unfold W_slices_IndexFunc_api_Node_api_Node
  rw [lenS_lit, oW_some]
  refine ⟨fun k vs g => ∃ i : Nat, vs = [lit (l.map Nd.enc), f, .int .i64 ((l.map Nd.enc).length : Int), .int .i64 (i : Int)] ∧ g = h ∧ k = l.length - i ∧ i ≤ l.length ∧ ∀ j (q : j < l.length), j < i → p l[j] = false, l.length, gcL_same ⟨0, by simp⟩, ?_⟩
  rintro k x5 x6 x7 x8 g ⟨i, hv, rfl, hk, hi, hno⟩
  simp only [List.cons.injEq, and_true] at hv
  obtain ⟨rfl, rfl, rfl, rfl⟩ := hv
  rw [n_lss, oW_some, bW_dec]
  simp only [List.length_map]
  constructor
  · intro hlt
    have hlt' : i < l.length := by omega
    refine ix_lit hlt' (Nd.enc_len _) ?_
    obtain ⟨cs, e1, e2⟩ := l[i].enc_agg
    rw [ld_plit (by rw [e1]; simpa using e2), oW_some, show Value.agg (cellsOf l[i].enc).toArray = l[i].enc by rw [e1]; simp]
    refine hf _ (by simp) _ ?_
    rw [bW_bool]
    constructor
    · intro e
      exact gcV_same (hq _ ⟨fun _ => List.any_eq_true.2 ⟨l[i], by simp, e⟩, fun _ => by omega⟩)
    · intro e
      rw [n_add (by omega), oW_some]
      refine ⟨l.length - (i + 1), by omega, gcL_same ⟨i + 1, by simp, rfl, rfl, by omega, fun j q r => ?_⟩⟩
      by_cases c : j = i
      · subst c; exact e
      · exact hno j q (by omega)
  · intro hge
    refine gcV_same (hq _ ⟨fun q => by omega, fun hm => ?_⟩)
    obtain ⟨x, hx, e⟩ := List.any_eq_true.1 hm
    obtain ⟨j, q, rfl⟩ := List.mem_iff_getElem.1 hx
    rw [hno j q (by omega)] at e; cases e

theorem containsFuncN_spec {l : List Nd} {f : Value} {p : Nd → Bool} (hl : l.length ≤ 1000000000) {h : Heap} (hf : ∀ k ∈ l, ∀ K : Value → Heap → Prop, K (.bool (p k)) h → callW Try.prog f [k.enc] h K) {Q : Value → Heap → Prop}
    (hq : Q (.bool (l.any p)) h) : acall Try.prog F_slices_ContainsFunc_api_Node_api_Node [lit (l.map Nd.enc), f] h Q := by
  apply W_slices_ContainsFunc_api_Node_api_Node_ok
  unfold W_slices_ContainsFunc_api_Node_api_Node
  refine callW_plain.2 (indexFuncN_spec hl hf fun i hi => ?_)
  rw [n_geq, oW_some]
  have : decide (0 ≤ i) = l.any p := by rw [Bool.eq_iff_iff, decide_eq_true_eq]; exact hi
  rw [this]
  exact gcV_same hq

/-- No row of kids is very long. -/
inductive Nd.Fin : Nd → Prop
  | mk {op : Int} {s : BS} {mn mx : Int} {ks : List Nd} (h : ks.length ≤ 1000000000) (hk : ∀ k ∈ ks, Nd.Fin k) : Nd.Fin (.mk op s mn mx ks)

theorem plain_spec {n : Nd} (hn : n.Fin) : ∀ {h : Heap} {Q : Value → Heap → Prop}, Q (.bool n.plain) h → acall Try.prog F_nfa_plain [n.enc] h Q := by
  induction hn with
  | @mk op s mn mx ks hl hk ih =>
    intro h Q hq
    apply W_nfa_plain_ok
    rw [Nd.enc_mk]
    rw [Nd.plain, Nd.plains_eq] at hq
    unfold W_nfa_plain
    simp [-exists_and_right, bW_dec, bW_ndec]
    refine ⟨fun h4 => ⟨fun h5 => ?_, fun h5 => ?_⟩, fun h4 => ?_⟩
    · refine containsFuncN_spec (p := fun k => !k.plain) hl (fun k hm K hK => ?_) ?_
      · refine callW_plain.2 ?_
        apply W_nfa_plain_D1_ok
        unfold W_nfa_plain_D1
        obtain ⟨cs, e1, e2⟩ := k.enc_agg
        have : k.enc = .agg cs := e1
        rw [this]
        simp [-exists_and_right]
        have e3 : cs.toList.take 8 = cs.toList := List.take_of_length_le (by simp; omega)
        rw [if_pos (by omega)]
        simp [-exists_and_right]
        rw [e3, show Value.agg cs.toList.toArray = k.enc by rw [this]]
        refine ih k hm ?_
        rw [u_not, oW_some]
        rw [show ∀ a b : AObj, h ++ [a, b] = (h ++ [a]) ++ [b] from fun a b => by simp]
        exact gcV_end (.cl (.bool _)) hK
      · rw [u_not, oW_some]
        refine gcV_end (.cl (.bool _)) ?_
        rw [decide_eq_true h4, decide_eq_true h5] at hq
        have : (!ks.any fun k => !k.plain) = ks.all Nd.plain := by simp [List.all_eq_not_any_not]
        rw [this]; exact hq
    · rw [h5] at hq
      exact gcV_end (.cl (.bool _)) hq
    · rw [h4] at hq
      exact gcV_end (.cl (.bool _)) hq

theorem shallow_spec : ∀ {d : Nat} {n : Nd}, n.Fin → d ≤ 1000 → ∀ {h : Heap} {Q : Value → Heap → Prop}, Q (.bool (n.may d)) h → acall Try.prog F_regex_shallow [n.enc, .int .i64 (d : Int)] h Q
  | d, .mk op s mn mx ks, hf, hd, h, Q, hq => by
    have hf' := hf
    obtain ⟨hl, hk⟩ := hf
    apply W_regex_shallow_ok
    rw [Nd.enc_mk]
    unfold W_regex_shallow
    simp [-exists_and_right, bW_dec, bW_ndec]
    rw [← Nd.enc_mk]
    refine ⟨fun h0 => ?_, fun h0 => ?_⟩
    · obtain ⟨d, rfl⟩ : ∃ d', d = d' + 1 := ⟨d - 1, by omega⟩
      refine counts_spec (fun op' s' mn' mx' ks' e => by cases e; exact hl) ?_
      rw [bW_bool]
      constructor
      · intro hc
        simp [-exists_and_right]
        refine containsFuncN_spec (p := fun k => !k.may d) hl (fun k hm K hK => ?_) ?_
        · refine callW_known.2 ?_
          apply W_regex_shallow_D1_ok
          unfold W_regex_shallow_D1
          obtain ⟨cs, e1, e2⟩ := k.enc_agg
          rw [e1]
          simp [-exists_and_right]
          have e3 : cs.toList.take 8 = cs.toList := List.take_of_length_le (by simp; omega)
          rw [if_pos (by omega)]
          simp [-exists_and_right]
          rw [n_sub (by omega), oW_some, e3, show Value.agg cs.toList.toArray = k.enc by rw [e1], show ((d : Int) + 1 - 1) = (d : Int) by omega]
          refine shallow_spec (hk k hm) (by omega) ?_
          rw [u_not, oW_some]
          rw [show ∀ a b c : AObj, h ++ [a, b, c] = (h ++ [a, b]) ++ [c] from fun a b c => by simp]
          exact gcV_end (.cl (.bool _)) hK
        · rw [u_not, oW_some]
          refine gcV_end (.cl (.bool _)) ?_
          rw [Nd.may, hc, Bool.true_and] at hq
          have : (!ks.any fun k => !k.may d) = ks.all (Nd.may d) := by simp [List.all_eq_not_any_not]
          rw [this]; exact hq
      · intro hc
        rw [Nd.may, hc, Bool.false_and] at hq
        exact gcV_end (.cl (.bool _)) hq
    · have : d = 0 := by omega
      subst this
      rw [Nd.may] at hq
      exact gcV_end (.cl (.bool _)) hq

theorem check_spec {n : Nd} (hf : n.Fin) {h : Heap} {Q : Value → Heap → Prop} (hq : Q (.int .i64 (if n.may 64 = true then 0 else 1)) h) : acall Try.prog F_regex_Check [n.enc] h Q := by
  apply W_regex_Check_ok
  unfold W_regex_Check
  obtain ⟨cs, e1, e2⟩ := n.enc_agg
  rw [e1]
  simp [-exists_and_right]
  have e3 : cs.toList.take 8 = cs.toList := List.take_of_length_le (by simp; omega)
  rw [if_pos (by omega)]
  simp [-exists_and_right]
  rw [e3, show Value.agg cs.toList.toArray = n.enc by rw [e1]]
  refine shallow_spec (d := 64) hf (by omega) ?_
  rw [u_not, oW_some, bW_bool]
  constructor
  · intro c
    rw [if_neg (by simpa using c)] at hq
    exact gcV_end (.cl (.int _ _)) hq
  · intro c
    rw [if_pos (by simpa using c)] at hq
    exact gcV_end (.cl (.int _ _)) hq

end Go.Ax

namespace Go.Ax
open Go Go.Proofs Go.RowKit

/-- What the builder holds. -/
structure Bs where
  count : Nat
  eps : List (Int × Int)
  arcs : List (Int × Int × BS)
  full : Bool
def Bs.eps1 (s : Bs) (a b : Nat) : Bs := { s with eps := s.eps ++ [((a : Int), (b : Int))] }
def Bs.new (s : Bs) : Bs := { s with count := s.count + 2, full := s.full || decide (4096 < s.count + 2) }
def onF (f : Bs → Bs) (p : Bs × Nat) : Bs × Nat := ((f p.1).eps1 p.2 p.1.count, p.1.count + 1)
def rpt {α : Type} (f : α → α) : Nat → α → α
  | 0, a => a
  | k + 1, a => f (rpt f k a)
def againF (f : Bs → Bs) (mn mx : Int) (e : Nat) (p : Bs × Nat) : Bs × Nat :=
  let q := rpt (onF f) mn.toNat p
  if mx < 0 then (((onF f q).1.eps1 (q.1.count + 1) q.1.count).eps1 (q.1.count + 1) e, q.2)
  else rpt (fun p => onF f (p.1.eps1 p.2 e, p.2)) (mx - mn).toNat q
def altF (b e : Nat) (s : Bs) (f : Bs → Bs) : Bs := ((f s).eps1 b s.count).eps1 (s.count + 1) e
def body (op : Int) (set : BS) (mn mx : Int) (fs : List (Bs → Bs)) (s0 : Bs) : Bs :=
  let b := s0.count
  let s := s0.new
  if s.full = true then s
  else if op = 0 then { s with arcs := s.arcs ++ [((b : Int), ((b + 1 : Nat) : Int), set)] }
  else if op = 2 then fs.foldl (altF b (b + 1)) s
  else if op = 1 then (fun p : Bs × Nat => p.1.eps1 p.2 (b + 1)) (fs.foldl (fun p f => onF f p) (s, b))
  else match fs with
    | [] => s
    | f :: _ => (fun p : Bs × Nat => p.1.eps1 p.2 (b + 1)) (againF f mn mx (b + 1) (s, b))
mutual
def Nd.pc : Nd → Bs → Bs
  | .mk op s mn mx ks => body op s mn mx (Nd.pcs ks)
def Nd.pcs : List Nd → List (Bs → Bs)
  | [] => []
  | k :: ks => Nd.pc k :: Nd.pcs ks
end
theorem Nd.pcs_eq : ∀ {l : List Nd}, Nd.pcs l = l.map Nd.pc
  | [] => rfl
  | k :: ks => by rw [Nd.pcs, Nd.pcs_eq]; rfl
theorem Nd.pc_mk {op : Int} {s : BS} {mn mx : Int} {ks : List Nd} : (Nd.mk op s mn mx ks).pc = body op s mn mx (ks.map Nd.pc) := by rw [Nd.pc, Nd.pcs_eq]

/- How many pieces there may be. -/
mutual
def Nd.wt : Nd → Nat
  | .mk op _ mn mx ks => 1 + (if op = 3 then (mn.toNat + (mx - mn).toNat + 1) * Nd.wts ks else Nd.wts ks)
def Nd.wts : List Nd → Nat
  | [] => 0
  | k :: ks => Nd.wt k + Nd.wts ks
end

/-- Patterns that the builder takes. -/
inductive Nd.Good : Nd → Prop
  | set {s : BS} {mn mx : Int} : Nd.Good (.mk 0 s mn mx [])
  | cat {s : BS} {mn mx : Int} {ks : List Nd} (h : ∀ k ∈ ks, Nd.Good k) : Nd.Good (.mk 1 s mn mx ks)
  | alt {s : BS} {mn mx : Int} {ks : List Nd} (h : ∀ k ∈ ks, Nd.Good k) : Nd.Good (.mk 2 s mn mx ks)
  | rep {s : BS} {mn mx : Int} {k : Nd} (h : Nd.Good k) (h1 : 0 ≤ mn) (h2 : mn ≤ 32) (h3 : mx ≤ 32) (h4 : mx < 0 ∨ mn ≤ mx) : Nd.Good (.mk 3 s mn mx [k])

/-- How much a state may still grow. -/
def Bs.fits (s : Bs) (w : Nat) : Prop := s.count + 4 * w ≤ 1000000000000 ∧ s.eps.length + 4 * w ≤ 1000000000000 ∧ s.arcs.length + 4 * w ≤ 1000000000000
/-- What a step adds at most: so many pieces, so many steps by nothing less. -/
def Bs.grows (s s' : Bs) (w d : Nat) : Prop := s'.count ≤ s.count + 2 * w ∧ s'.eps.length + d ≤ s.eps.length + 4 * w ∧ s'.arcs.length ≤ s.arcs.length + w

theorem Bs.eps1_eps {s : Bs} {a b : Nat} : (s.eps1 a b).eps.length = s.eps.length + 1 := by simp [Bs.eps1]
theorem Bs.eps1_count {s : Bs} {a b : Nat} : (s.eps1 a b).count = s.count := rfl
theorem Bs.eps1_arcs {s : Bs} {a b : Nat} : (s.eps1 a b).arcs = s.arcs := rfl
theorem Bs.new_count {s : Bs} : s.new.count = s.count + 2 := rfl
theorem Bs.new_eps {s : Bs} : s.new.eps = s.eps := rfl
theorem Bs.new_arcs {s : Bs} : s.new.arcs = s.arcs := rfl

theorem pc_full {n : Nd} {s : Bs} (h : s.new.full = true) : n.pc s = s.new := by
  cases n; rw [Nd.pc_mk]; simp only [body]; rw [if_pos h]
theorem pc_set {st : BS} {mn mx : Int} {ks : List Nd} {s : Bs} (h : ¬ s.new.full = true) : (Nd.mk 0 st mn mx ks).pc s = { s.new with arcs := s.arcs ++ [((s.count : Int), ((s.count + 1 : Nat) : Int), st)] } := by
  rw [Nd.pc_mk]; simp only [body]; rw [if_neg h, if_pos trivial]; rfl
theorem pc_alt {st : BS} {mn mx : Int} {ks : List Nd} {s : Bs} (h : ¬ s.new.full = true) : (Nd.mk 2 st mn mx ks).pc s = (ks.map Nd.pc).foldl (altF s.count (s.count + 1)) s.new := by
  rw [Nd.pc_mk]; simp only [body]; rw [if_neg h, if_neg (by omega), if_pos trivial]
theorem pc_cat {st : BS} {mn mx : Int} {ks : List Nd} {s : Bs} (h : ¬ s.new.full = true) : (Nd.mk 1 st mn mx ks).pc s = (fun p : Bs × Nat => p.1.eps1 p.2 (s.count + 1)) ((ks.map Nd.pc).foldl (fun p f => onF f p) (s.new, s.count)) := by
  rw [Nd.pc_mk]; simp only [body]; rw [if_neg h, if_neg (by omega), if_neg (by omega), if_pos trivial]
theorem pc_rep {st : BS} {mn mx : Int} {k : Nd} {s : Bs} (h : ¬ s.new.full = true) : (Nd.mk 3 st mn mx [k]).pc s = (fun p : Bs × Nat => p.1.eps1 p.2 (s.count + 1)) (againF k.pc mn mx (s.count + 1) (s.new, s.count)) := by
  rw [Nd.pc_mk]; simp only [body, List.map_cons]; rw [if_neg h, if_neg (by omega), if_neg (by omega), if_neg (by omega)]

theorem onF_by {f : Bs → Bs} {w : Nat} (hf : ∀ s : Bs, s.grows (f s) w 3) (p : Bs × Nat) : p.1.grows (onF f p).1 w 2 := by
  have := hf p.1
  unfold Bs.grows at *
  simp only [onF, Bs.eps1_eps, Bs.eps1_count, Bs.eps1_arcs]; omega
theorem rpt_by {g : Bs × Nat → Bs × Nat} {w : Nat} (hg : ∀ p : Bs × Nat, p.1.grows (g p).1 w 0) : ∀ (n : Nat) (p : Bs × Nat), p.1.grows (rpt g n p).1 (n * w) 0
  | 0, p => by unfold Bs.grows; simp [rpt]
  | n + 1, p => by
    have h1 := rpt_by hg n p
    have h2 := hg (rpt g n p)
    unfold Bs.grows at *
    have e : (n + 1) * w = n * w + w := Nat.succ_mul n w
    rw [rpt, e]; omega
theorem foldAlt_by {b e : Nat} : ∀ {ks : List Nd} {s : Bs}, (∀ k ∈ ks, ∀ s : Bs, s.grows (k.pc s) k.wt 3) → s.grows ((ks.map Nd.pc).foldl (altF b e) s) (Nd.wts ks) 0
  | [], s, _ => by unfold Bs.grows; simp [Nd.wts]
  | k :: ks, s, h => by
    rw [List.map_cons, List.foldl_cons, Nd.wts]
    have h1 := h k (by simp) s
    have h2 := foldAlt_by (ks := ks) (s := altF b e s k.pc) (fun k hk => h k (by simp [hk])) (b := b) (e := e)
    unfold Bs.grows at *
    simp only [altF, Bs.eps1_eps, Bs.eps1_count, Bs.eps1_arcs] at h1 h2 ⊢
    omega
theorem foldCat_by : ∀ {ks : List Nd} {p : Bs × Nat}, (∀ k ∈ ks, ∀ s : Bs, s.grows (k.pc s) k.wt 3) → p.1.grows ((ks.map Nd.pc).foldl (fun p f => onF f p) p).1 (Nd.wts ks) 0
  | [], s, _ => by unfold Bs.grows; simp [Nd.wts]
  | k :: ks, s, h => by
    rw [List.map_cons, List.foldl_cons, Nd.wts]
    have h1 := onF_by (h k (by simp)) s
    have h2 := foldCat_by (ks := ks) (p := onF k.pc s) (fun k hk => h k (by simp [hk]))
    unfold Bs.grows at *
    omega

theorem Nd.wt_pos {n : Nd} : 1 ≤ n.wt := by cases n; rw [Nd.wt]; omega
theorem pc_by {n : Nd} (g : n.Good) : ∀ s : Bs, s.grows (n.pc s) n.wt 3 := by
  induction g with
  | @set st mn mx =>
    intro s
    by_cases hf : s.new.full = true
    · rw [pc_full hf]; simp [Bs.grows, Nd.wt, Nd.wts, Bs.new]
    · rw [pc_set hf]; simp [Bs.grows, Nd.wt, Nd.wts, Bs.new]
  | @cat st mn mx ks h ih =>
    intro s
    have h1 := foldCat_by (p := (s.new, s.count)) ih
    have h0 := Nd.wt_pos (n := .mk 1 st mn mx ks)
    by_cases hf : s.new.full = true
    · rw [pc_full hf]; simp [Bs.grows, Bs.new]; omega
    · rw [pc_cat hf]
      simp only [Nd.wt]
      rw [if_neg (by omega)]
      unfold Bs.grows at *
      simp only [Bs.eps1_eps, Bs.eps1_count, Bs.eps1_arcs, Bs.new_count, Bs.new_eps, Bs.new_arcs] at h1 ⊢
      omega
  | @alt st mn mx ks h ih =>
    intro s
    have h1 := foldAlt_by (b := s.count) (e := s.count + 1) (s := s.new) ih
    have h0 := Nd.wt_pos (n := .mk 2 st mn mx ks)
    by_cases hf : s.new.full = true
    · rw [pc_full hf]; simp [Bs.grows, Bs.new]; omega
    · rw [pc_alt hf]
      simp only [Nd.wt]
      rw [if_neg (by omega)]
      unfold Bs.grows at *
      simp only [Bs.new_count, Bs.new_eps, Bs.new_arcs] at h1 ⊢
      omega
  | @rep st mn mx k h h1 h2 h3 h4 ih =>
    intro s
    have h0 := Nd.wt_pos (n := .mk 3 st mn mx [k])
    by_cases hf : s.new.full = true
    · rw [pc_full hf]; simp [Bs.grows, Bs.new]; omega
    · rw [pc_rep hf]
      simp only [Nd.wt, Nd.wts, Nat.add_zero]
      rw [if_pos trivial, Nat.add_mul, Nat.add_mul, Nat.one_mul]
      have a1 := rpt_by (g := onF k.pc) (w := k.wt) (fun p => by have := onF_by ih p; unfold Bs.grows at *; omega) mn.toNat (s.new, s.count)
      have a2 := onF_by ih (rpt (onF k.pc) mn.toNat (s.new, s.count))
      have a3 := rpt_by (g := fun p => onF k.pc (p.1.eps1 p.2 (s.count + 1), p.2)) (w := k.wt) (fun p => by
        have := onF_by ih (p.1.eps1 p.2 (s.count + 1), p.2)
        unfold Bs.grows at *
        simp only [Bs.eps1_eps, Bs.eps1_count, Bs.eps1_arcs] at this
        omega) (mx - mn).toNat (rpt (onF k.pc) mn.toNat (s.new, s.count))
      simp only [againF]
      unfold Bs.grows at *
      split
      · simp only [Bs.eps1_eps, Bs.eps1_count, Bs.eps1_arcs, Bs.new_count, Bs.new_eps, Bs.new_arcs] at a1 a2 ⊢
        omega
      · simp only [Bs.eps1_eps, Bs.eps1_count, Bs.eps1_arcs, Bs.new_count, Bs.new_eps, Bs.new_arcs] at a1 a3 ⊢
        omega


/-! In memory. -/
/-- One element more, wherever the row lies; with what is kept between. -/
theorem Acc.pushK {sz bytes n : Nat} {H : Heap} {v e : Value} {l zs : List Value} (hn : n ≤ H.length) (a : Acc sz n H v l) (hs : 0 < sz) (hz : ∀ x ∈ l, (cellsOf x).length = sz) (he : (cellsOf e).length = sz) (hk : okVal e = true) (hok : (cellsOf e).all okCell = true)
    (hzs : zs.length = sz) (hb : (l.length + 1) * bytes ≤ 140737488355328) (h63 : l.length + 1 ≤ 9223372036854775807) {A : Heap → Prop} {C : Heap → Heap → Prop} {K : Value → Heap → Prop}
    (k : ∀ o, A (H ++ [o]) ∧ ∀ v' H', Acc sz n H' v' (l ++ [e]) → (∀ j, j < H.length → ¬ lies v j → H'[j]? = H[j]?) → (∀ j, lies v' j → lies v j ∨ H.length ≤ j) → H.length ≤ H'.length → C (H ++ [o]) H' ∧ K v' H') :
    hW (bslW H 1 zs [(0, sz, e)]) fun v1 h1 => A h1 ∧ hW (apW sz bytes h1 v v1) fun v' h' => C h1 h' ∧ K v' h' := by
  refine bsl1 he hk hzs ⟨(k _).1, ?_⟩
  have hB : (H.take n).length = n := by simp; omega
  have eH : H ++ [AObj.row (cellsOf e) .exact] = H.take n ++ (H.drop n ++ [AObj.row (cellsOf e) .exact]) := by rw [← List.append_assoc, List.take_append_drop]
  have hsrc := src1 (H := H) (e := e) he
  have a2 := a.app (t := [AObj.row (cellsOf e) .exact])
  rw [eH] at hsrc a2
  have key := Acc.more (bytes := bytes) hB a2 hs hz (es := [e]) (by simpa using he) (by simpa using hok) hsrc (by simpa using hb) (by simpa using h63) (K := fun v' h' => C (H ++ [AObj.row (cellsOf e) .exact]) h' ∧ K v' h') fun v' g' a' f1 f2 f3 => by
    rw [← eH] at f1 f2 f3
    refine (k (AObj.row (cellsOf e) .exact)).2 v' _ a' (fun j hj hq => ?_) (fun j hj => ?_) (by simp at f3 ⊢; omega)
    · rw [f1 j (by simp; omega) hq, List.getElem?_append_left hj]
    · exact (f2 j hj).imp id fun q => by simp at q; omega
  rw [← eH] at key
  exact key

theorem Acc.pushT {sz bytes n : Nat} {H : Heap} {v e : Value} {l zs : List Value} (hn : n ≤ H.length) (a : Acc sz n H v l) (hs : 0 < sz) (hz : ∀ x ∈ l, (cellsOf x).length = sz) (he : (cellsOf e).length = sz) (hk : okVal e = true) (hok : (cellsOf e).all okCell = true)
    (hzs : zs.length = sz) (hb : (l.length + 1) * bytes ≤ 140737488355328) (h63 : l.length + 1 ≤ 9223372036854775807) {K : Value → Heap → Prop}
    (k : ∀ v' H', Acc sz n H' v' (l ++ [e]) → (∀ j, j < H.length → ¬ lies v j → H'[j]? = H[j]?) → (∀ j, lies v' j → lies v j ∨ H.length ≤ j) → H.length ≤ H'.length → K v' H') :
    hW (bslW H 1 zs [(0, sz, e)]) fun v1 h1 => hW (apW sz bytes h1 v v1) K := by
  obtain ⟨v1, h1, e1, _, v2, h2, e2, _, k⟩ := Acc.pushK (bytes := bytes) hn a hs hz he hk hok hzs hb h63 (A := fun _ => True) (C := fun _ _ => True) (K := K) fun o => ⟨trivial, fun v' H' x1 x2 x3 x4 => ⟨trivial, k v' H' x1 x2 x3 x4⟩⟩
  exact ⟨v1, h1, e1, v2, h2, e2, k⟩

/-- The builder in memory; the objects that it takes. -/
def Bld (lo i : Nat) (U : Nat → Prop) (H : Heap) (s : Bs) : Prop :=
  ∃ ev av, getRow H i = some ([.int .i64 (s.count : Int), ev, av, .int .i64 0, .int .i64 0, .bool s.full], .exact) ∧ Acc 2 lo H ev (s.eps.map encP) ∧ Acc 6 lo H av (s.arcs.map encA) ∧
    (∀ j, lies ev j → ¬ lies av j) ∧ ¬ lies ev i ∧ ¬ lies av i ∧ (∀ j, U j ↔ j = i ∨ lies ev j ∨ lies av j) ∧ lo ≤ H.length

/-- What stays. -/
def Stay (X U : Nat → Prop) (h : Heap) (U' : Nat → Prop) (h' : Heap) : Prop := h.length ≤ h'.length ∧ ∀ j, j < h.length → ¬ U j → ¬ U' j ∧ (¬ X j → h'[j]? = h[j]?)
theorem Stay.rfl {X U : Nat → Prop} {h : Heap} : Stay X U h U h := ⟨Nat.le_refl _, fun _ _ q => ⟨q, fun _ => .refl _⟩⟩
theorem Stay.trans {X U U' U2 : Nat → Prop} {h h' h2 : Heap} (a : Stay X U h U' h') (b : Stay X U' h' U2 h2) : Stay X U h U2 h2 :=
  ⟨Nat.le_trans a.1 b.1, fun j hj hu => by
    obtain ⟨x1, x2⟩ := a.2 j hj hu
    obtain ⟨y1, y2⟩ := b.2 j (Nat.lt_of_lt_of_le hj a.1) x1
    exact ⟨y1, fun q => (y2 q).trans (x2 q)⟩⟩
theorem Stay.app {X U : Nat → Prop} {h t : Heap} : Stay X U h U (h ++ t) := ⟨by simp, fun j hj q => ⟨q, fun _ => List.getElem?_append_left hj⟩⟩
theorem Stay.low {X U U' : Nat → Prop} {h t h' : Heap} (a : Stay X U (h ++ t) U' h') : Stay X U h U' h' := Stay.app.trans a
theorem Stay.weak {X Y U U' : Nat → Prop} {h h' : Heap} (a : Stay X U h U' h') (e : ∀ j, X j → Y j) : Stay Y U h U' h' := ⟨a.1, fun j hj hu => ⟨(a.2 j hj hu).1, fun q => (a.2 j hj hu).2 fun r => q (e j r)⟩⟩
/-- What was changed lies above. -/
theorem Stay.above {X U U' : Nat → Prop} {h h2 h' : Heap} (a : Stay X U h U' h') (b : h.length ≤ h2.length) : h.length ≤ h2.length := b
theorem Stay.setA {X U : Nat → Prop} {h : Heap} {i : Nat} {o : AObj} (hx : X i) : Stay X U h U (h.set i o) :=
  ⟨by simp, fun j hj hu => ⟨hu, fun q => List.getElem?_set_ne fun r => q (by rw [← r]; exact hx)⟩⟩

theorem Bld.lt {lo i : Nat} {U : Nat → Prop} {H : Heap} {s : Bs} (b : Bld lo i U H s) {j : Nat} (hj : U j) : j < H.length := by
  obtain ⟨ev, av, h1, h2, h3, h4, h5, h6, h7, h8⟩ := b
  rcases (h7 j).1 hj with rfl | q | q
  · exact getRow_lt h1
  · exact h2.lt q
  · exact h3.lt q
theorem Bld.app {lo i : Nat} {U : Nat → Prop} {H t : Heap} {s : Bs} (b : Bld lo i U H s) : Bld lo i U (H ++ t) s := by
  obtain ⟨ev, av, h1, h2, h3, h4, h5, h6, h7, h8⟩ := b
  exact ⟨ev, av, getRow_app h1, h2.app, h3.app, h4, h5, h6, h7, by simp; omega⟩
theorem Bld.congr {lo i : Nat} {U : Nat → Prop} {H H' : Heap} {s : Bs} (b : Bld lo i U H s) (e : ∀ j, U j → H'[j]? = H[j]?) (hl : H.length ≤ H'.length) : Bld lo i U H' s := by
  obtain ⟨ev, av, h1, h2, h3, h4, h5, h6, h7, h8⟩ := b
  exact ⟨ev, av, (getRow_same (e i ((h7 i).2 (.inl rfl)))).trans h1, h2.congr fun j q => e j ((h7 j).2 (.inr (.inl q))), h3.congr fun j q => e j ((h7 j).2 (.inr (.inr q))), h4, h5, h6, h7, Nat.le_trans h8 hl⟩
theorem Bld.set {lo i : Nat} {U : Nat → Prop} {H : Heap} {s : Bs} (b : Bld lo i U H s) {k : Nat} {o : AObj} (hk : ¬ U k) : Bld lo i U (H.set k o) s :=
  b.congr (fun j hj => List.getElem?_set_ne fun r => hk (by rw [r]; exact hj)) (by simp)
theorem Bld.u {lo i : Nat} {U : Nat → Prop} {H : Heap} {s : Bs} (b : Bld lo i U H s) : U i := by
  obtain ⟨ev, av, h1, h2, h3, h4, h5, h6, h7, h8⟩ := b
  exact (h7 i).2 (.inl rfl)

theorem beps_spec {lo i : Nat} {U : Nat → Prop} {s : Bs} {a b : Nat} {h : Heap} {Q : Value → Heap → Prop} (bl : Bld lo i U h s) (hs : s.eps.length ≤ 1000000000000)
    (hq : ∀ h' U', Bld lo i U' h' (s.eps1 a b) → Stay (fun _ => False) U h U' h' → Q (.tuple #[]) h') :
    acall Try.prog F_nfa_builder_eps [.pointer (some ⟨i, 0, none⟩), .int .i64 (a : Int), .int .i64 (b : Int)] h Q := by
  obtain ⟨ev, av, h1, h2, h3, h4, h5, h6, h7, h8⟩ := bl
  apply W_nfa_builder_eps_ok
  unfold W_nfa_builder_eps
  simp [-exists_and_right, h1]
  refine Acc.pushT h8 h2 (by omega) encP_len rfl rfl rfl rfl (by simp; omega) (by simp; omega) fun v' H' a2 f1 f2 f3 => ?_
  have hi : i < h.length := getRow_lt h1
  have hr : getRow H' i = getRow h i := getRow_same (f1 i hi h5)
  rw [st1 (hr.trans h1) (by simp) a2.cell.1 a2.cell.2.1 a2.cell.2.2 (by simp), sW_some]
  have n1 : ¬ lies v' i := fun q => (f2 i q).elim h5 fun r => by omega
  refine gcV_same (hq _ (fun j => j = i ∨ lies v' j ∨ lies av j) ⟨v', av, ?_, ?_, ?_, fun j q r => ?_, n1, h6, fun j => Iff.rfl, by simp; omega⟩ ⟨by simpa using f3, fun j hj hu => ⟨fun q => ?_, fun _ => ?_⟩⟩)
  · exact getRow_set (hr.trans h1) _ _
  · have a3 := a2.congr (H' := H'.set i (AObj.row ([Value.int IntKind.i64 ↑s.count, ev, av, Value.int IntKind.i64 0, Value.int IntKind.i64 0, Value.bool s.full].set 1 v') .exact)) fun j q => List.getElem?_set_ne fun r => n1 (by rw [r]; exact q)
    simpa [Bs.eps1] using a3
  · exact h3.congr fun j q => (List.getElem?_set_ne fun r => h6 (by rw [r]; exact q)).trans (f1 j (h3.lt q) fun r => h4 j r q)
  · rcases f2 j q with x | x
    · exact h4 j x r
    · have := h3.lt r; omega
  · rw [h7 j] at hu
    rcases q with x | x | x
    · exact hu (.inl x)
    · rcases f2 j x with y | y
      · exact hu (.inr (.inl y))
      · omega
    · exact hu (.inr (.inr x))
  · rw [h7 j] at hu
    rw [List.getElem?_set_ne fun r => hu (.inl r.symm)]
    exact f1 j hj fun q => hu (.inr (.inl q))

end Go.Ax

namespace Go.Ax
open Go Go.Proofs Go.RowKit

abbrev no : Nat → Prop := fun _ => False
abbrev pAt (i : Nat) : Value := .pointer (some ⟨i, 0, none⟩)
abbrev two (s : Bs) : Value := .tuple #[.int .i64 (s.count : Int), .int .i64 ((s.count + 1 : Nat) : Int)]

def PieceOk (n : Nd) : Prop := ∀ {lo i : Nat} {U : Nat → Prop} {s : Bs} {h : Heap} {Q : Value → Heap → Prop}, Bld lo i U h s → s.fits n.wt →
  (∀ h' U', Bld lo i U' h' (n.pc s) → Stay no U h U' h' → Q (two s) h') → acall Try.prog F_nfa_builder_piece [pAt i, n.enc] h Q

theorem Bld.upd {lo i : Nat} {U : Nat → Prop} {H : Heap} {s : Bs} (b : Bld lo i U H s) : ∃ ev av, getRow H i = some ([.int .i64 (s.count : Int), ev, av, .int .i64 0, .int .i64 0, .bool s.full], .exact) ∧
    ∀ (c : Nat) (f : Bool) , Bld lo i U (H.set i (.row [.int .i64 (c : Int), ev, av, .int .i64 0, .int .i64 0, .bool f] .exact)) { s with count := c, full := f } := by
  obtain ⟨ev, av, h1, h2, h3, h4, h5, h6, h7, h8⟩ := b
  refine ⟨ev, av, h1, fun c f => ⟨ev, av, getRow_set h1 _ _, h2.congr fun j q => List.getElem?_set_ne fun r => h5 (by rw [r]; exact q), h3.congr fun j q => List.getElem?_set_ne fun r => h6 (by rw [r]; exact q), h4, h5, h6, h7, by simpa using h8⟩⟩

theorem Bs.fits.sub {s : Bs} {w w' : Nat} (h : s.fits w) (e : w' ≤ w) : s.fits w' := by unfold Bs.fits at *; omega

theorem d1_spec {k : Nd} (g : k.Good) (hp : PieceOk k) {lo i jb jh : Nat} {U : Nat → Prop} {s : Bs} {c : Nat} {h : Heap} {Q : Value → Heap → Prop} (bl : Bld lo i U h s) (hf : s.fits k.wt)
    (rb : getRow h jb = some ([pAt i], .exact)) (rh : getRow h jh = some ([.int .i64 (c : Int)], .exact)) (ub : ¬ U jb) (uh : ¬ U jh)
    (hq : ∀ h' U', Bld lo i U' h' (onF k.pc (s, c)).1 → getRow h' jh = some ([.int .i64 ((s.count + 1 : Nat) : Int)], .exact) → Stay (· = jh) U h U' h' → Q (two s) h') :
    acall Try.prog F_nfa_builder_piece_D1 [k.enc, pAt jb, pAt jh] h Q := by
  apply W_nfa_builder_piece_D1_ok
  unfold W_nfa_builder_piece_D1
  obtain ⟨cs, e1, e2⟩ := k.enc_agg
  have e3 : cs.toList.take 8 = cs.toList := List.take_of_length_le (by simp; omega)
  have e4 : Value.agg cs.toList.toArray = k.enc := by rw [e1]
  have rb' : ∀ t, getRow (h ++ t) jb = some ([pAt i], .exact) := fun t => getRow_app rb
  have lb := getRow_lt rb
  have lh := getRow_lt rh
  rw [e1]
  simp [-exists_and_right, rb']
  rw [if_pos (by omega)]
  simp [-exists_and_right]
  rw [e3, e4]
  refine hp bl.app hf fun h1 U1 b1 s1 => ?_
  have s1' := s1.low
  have q1 := s1'.2 jb lb ub
  have q2 := s1'.2 jh lh uh
  have rb1 : getRow h1 jb = some ([pAt i], .exact) := (getRow_same (q1.2 id)).trans rb
  have rh1 : getRow h1 jh = some ([.int .i64 (c : Int)], .exact) := (getRow_same (q2.2 id)).trans rh
  simp [-exists_and_right, rb1, rh1]
  have gb := pc_by g s
  have e5 : ((s.count : Int) + 1) = ((s.count + 1 : Nat) : Int) := by omega
  rw [e5]
  unfold Bs.grows at gb
  unfold Bs.fits at hf
  refine beps_spec b1 (by omega) fun h2 U2 b2 s2 => ?_
  have q3 := s2.2 jh (Nat.lt_of_lt_of_le lh s1'.1) q2.1
  have rh2 : getRow h2 jh = some ([.int .i64 (c : Int)], .exact) := (getRow_same (q3.2 id)).trans rh1
  rw [rh2, Option.bind_some, if_pos (by simp), sW_some]
  refine gcV_same (hq _ U2 (b2.set q3.1) ?_ ?_)
  · rw [getRow_set rh2]; rfl
  · exact ((s1'.trans s2).weak (fun j q => q.elim)).trans (Stay.setA rfl)

def PieceM (lo i : Nat) (U : Nat → Prop) (h : Heap) (s : Bs) (cs : List Value) (vs : List Value) (H : Heap) : Prop :=
  vs = [pAt h.length, pAt (h.length + 1), .int .i64 (s.count : Int), .int .i64 ((s.count + 1 : Nat) : Int)] ∧ Bld lo i U H s.new ∧ getRow H h.length = some ([pAt i], .exact) ∧
    getRow H (h.length + 1) = some (cs, .exact) ∧ Stay no U h U H

/-- Where a piece's function value may be called. -/
def On (lo i jb jh : Nat) (U0 : Nat → Prop) (h0 : Heap) (p : Bs × Nat) (U : Nat → Prop) (H : Heap) : Prop :=
  Bld lo i U H p.1 ∧ getRow H jb = some ([pAt i], .exact) ∧ getRow H jh = some ([.int .i64 (p.2 : Int)], .exact) ∧ ¬ U jb ∧ ¬ U jh ∧ jb ≠ jh ∧ Stay (· = jh) U0 h0 U H
theorem On.app {lo i jb jh : Nat} {U0 : Nat → Prop} {h0 : Heap} {p : Bs × Nat} {U : Nat → Prop} {H t : Heap} (o : On lo i jb jh U0 h0 p U H) : On lo i jb jh U0 h0 p U (H ++ t) :=
  ⟨o.1.app, getRow_app o.2.1, getRow_app o.2.2.1, o.2.2.2.1, o.2.2.2.2.1, o.2.2.2.2.2.1, o.2.2.2.2.2.2.trans Stay.app⟩
theorem on_step {k : Nd} (g : k.Good) (hp : PieceOk k) {lo i jb jh : Nat} {U0 : Nat → Prop} {h0 : Heap} {p : Bs × Nat} {U : Nat → Prop} {H : Heap} {Q : Value → Heap → Prop} (o : On lo i jb jh U0 h0 p U H) (hf : p.1.fits k.wt)
    (hq : ∀ H' U', On lo i jb jh U0 h0 (onF k.pc p) U' H' → Stay (· = jh) U H U' H' → Q (two p.1) H') : callW Try.prog (.func (.func F_nfa_builder_piece_D1) #[] #[pAt jb, pAt jh]) [k.enc] H Q := by
  obtain ⟨b, rb, rh, ub, uh, hne, st⟩ := o
  refine callW_known.2 ?_
  show acall Try.prog F_nfa_builder_piece_D1 [k.enc, pAt jb, pAt jh] H Q
  refine d1_spec g hp b hf rb rh ub uh fun H' U' b' rh' st' => hq H' U' ⟨b', ?_, rh', ?_, ?_, hne, st.trans st'⟩ st'
  · exact (getRow_same ((st'.2 jb (getRow_lt rb) ub).2 hne)).trans rb
  · exact (st'.2 jb (getRow_lt rb) ub).1
  · exact (st'.2 jh (getRow_lt rh) uh).1
theorem on_eps {lo i jb jh : Nat} {U0 : Nat → Prop} {h0 : Heap} {p : Bs × Nat} {U : Nat → Prop} {H : Heap} {Q : Value → Heap → Prop} {a b : Nat} (o : On lo i jb jh U0 h0 p U H) (hf : p.1.eps.length ≤ 1000000000000)
    (hq : ∀ H' U', On lo i jb jh U0 h0 (p.1.eps1 a b, p.2) U' H' → Stay no U H U' H' → Q (.tuple #[]) H') : acall Try.prog F_nfa_builder_eps [pAt i, .int .i64 (a : Int), .int .i64 (b : Int)] H Q := by
  obtain ⟨bl, rb, rh, ub, uh, hne, st⟩ := o
  refine beps_spec bl hf fun H' U' b' st' => hq H' U' ⟨b', ?_, ?_, ?_, ?_, hne, st.trans (st'.weak fun _ q => q.elim)⟩ st'
  · exact (getRow_same ((st'.2 jb (getRow_lt rb) ub).2 id)).trans rb
  · exact (getRow_same ((st'.2 jh (getRow_lt rh) uh).2 id)).trans rh
  · exact (st'.2 jb (getRow_lt rb) ub).1
  · exact (st'.2 jh (getRow_lt rh) uh).1

def CatI (lo i jh : Nat) (U : Nat → Prop) (h : Heap) (s : Bs) (ks : List Nd) (k : Nat) (vs : List Value) (H : Heap) : Prop :=
  ∃ (j : Nat) (U' : Nat → Prop), vs = [pAt h.length, .int .i64 (s.count : Int), .int .i64 ((s.count + 1 : Nat) : Int), pAt jh, .func (.func F_nfa_builder_piece_D1) #[] #[pAt h.length, pAt jh], lit (ks.map Nd.enc), .int .i64 (ks.length : Int), .int .i64 (j : Int)] ∧
    On lo i h.length jh U h (((ks.take j).map Nd.pc).foldl (fun p f => onF f p) (s.new, s.count)) U' H ∧ k = ks.length - j ∧ j ≤ ks.length

theorem ldPlitN {h : Heap} {n : Nd} : ldW true 8 h (plit (cellsOf n.enc)) = some n.enc := by
  obtain ⟨cs, e1, e2⟩ := n.enc_agg
  rw [ld_plit (by rw [e1]; simpa using e2), e1]; simp
theorem ldN {H : Heap} {n : Nd} {i : Nat} {m : Md} (r : getRow H i = some (cellsOf n.enc, m)) : ldW true 8 H (pAt i) = some n.enc := by
  obtain ⟨cs, e1, e2⟩ := n.enc_agg
  rw [e1] at r ⊢
  have e3 : cs.toList.take 8 = cs.toList := List.take_of_length_le (by simp; omega)
  simp [r, e3, e2]
theorem ldN2 {H : Heap} {n : Nd} : ((getRow (H ++ [.row (cellsOf n.enc) .exact]) H.length).bind fun x => if 8 ≤ x.1.length then some (Value.agg (x.1.take 8).toArray) else none) = some n.enc := by
  rw [row_app0]
  show (if 8 ≤ (cellsOf n.enc).length then some (Value.agg ((cellsOf n.enc).take 8).toArray) else none) = some n.enc
  have := n.enc_len
  rw [if_pos (by omega), List.take_of_length_le (by omega)]
  obtain ⟨cs, e1, e2⟩ := n.enc_agg
  rw [e1]; simp
theorem boxN {H : Heap} {n : Nd} {K : Heap → Prop} (k : K (H ++ [.row (cellsOf n.enc) .exact])) :
    sW (stW 8 (H ++ [.row [.int .i64 0, .int .u64 0, .int .u64 0, .int .u64 0, .int .u64 0, .int .i64 0, .int .i64 0, .slice none 0 0] .exact]) (.pointer (some ⟨H.length, 0, none⟩)) n.enc) K := by
  rw [st_row (c := [.int .i64 0, .int .u64 0, .int .u64 0, .int .u64 0, .int .u64 0, .int .i64 0, .int .i64 0, .slice none 0 0]) (m := .exact) (by simp) (by simp) n.enc_okv n.enc_len n.enc_ok (by simp), sW_some, writeL_all (by rw [n.enc_len]; rfl), set_app0]
  exact k

theorem wts_take {l : List Nd} {j : Nat} (h : j < l.length) : Nd.wts (l.take (j + 1)) = Nd.wts (l.take j) + l[j].wt := by
  induction l generalizing j with
  | nil => simp at h
  | cons k l ih =>
    cases j with
    | zero => simp [Nd.wts]
    | succ j =>
      have := ih (j := j) (by simpa using h)
      simp [Nd.wts, this]; omega
theorem wts_le {l : List Nd} : ∀ {j : Nat}, Nd.wts (l.take j) ≤ Nd.wts l := by
  induction l with
  | nil => intro j; simp
  | cons k l ih =>
    intro j
    cases j with
    | zero => simp [Nd.wts]
    | succ j => have := ih (j := j); simp [Nd.wts]; omega
theorem wts_len {l : List Nd} : l.length ≤ Nd.wts l := by
  induction l with
  | nil => simp
  | cons k l ih => have := Nd.wt_pos (n := k); simp [Nd.wts]; omega

def AltI (lo i : Nat) (U : Nat → Prop) (h : Heap) (s : Bs) (ks : List Nd) (k : Nat) (vs : List Value) (H : Heap) : Prop :=
  ∃ (j : Nat) (U' : Nat → Prop), vs = [pAt h.length, .int .i64 (s.count : Int), .int .i64 ((s.count + 1 : Nat) : Int), lit (ks.map Nd.enc), .int .i64 (ks.length : Int), .int .i64 (j : Int)] ∧
    Bld lo i U' H (((ks.take j).map Nd.pc).foldl (altF s.count (s.count + 1)) s.new) ∧ Stay no U h U' H ∧ getRow H h.length = some ([pAt i], .exact) ∧ ¬ U' h.length ∧ k = ks.length - j ∧ j ≤ ks.length

def AgI (lo i jb jh : Nat) (U0 : Nat → Prop) (h0 : Heap) (p : Bs × Nat) (kd : Nd) (st : BS) (mn mx : Int) (e : Nat) (n : Nat) (k : Nat) (vs : List Value) (G : Heap) : Prop :=
  ∃ (j : Nat) (U' : Nat → Prop), vs = [pAt i, .int .i64 (e : Int), pAt jh, .func (.func F_nfa_builder_piece_D1) #[] #[pAt jb, pAt jh], pAt n, pAt (n + 1), .int .i64 mn, .int .i64 (j : Int)] ∧
    On lo i jb jh U0 h0 (rpt (onF kd.pc) j p) U' G ∧ getRow G n = some ([.int .i64 3, w64 st.a, w64 st.b, w64 st.c, w64 st.d, .int .i64 mn, .int .i64 mx, lit [kd.enc]], .exact) ∧ getRow G (n + 1) = some (cellsOf kd.enc, .exact) ∧ ¬ U' n ∧ ¬ U' (n + 1) ∧ k = mn.toNat - j ∧ j ≤ mn.toNat

def AgI2 (lo i jb jh : Nat) (U0 : Nat → Prop) (h0 : Heap) (p : Bs × Nat) (kd : Nd) (mn mx : Int) (e : Nat) (n : Nat) (k : Nat) (vs : List Value) (G : Heap) : Prop :=
  ∃ (j : Nat) (U' : Nat → Prop), vs = [pAt i, .int .i64 (e : Int), pAt jh, .func (.func F_nfa_builder_piece_D1) #[] #[pAt jb, pAt jh], pAt (n + 1), .int .i64 (mx - mn), .int .i64 (j : Int)] ∧
    On lo i jb jh U0 h0 (rpt (fun p => onF kd.pc (p.1.eps1 p.2 e, p.2)) j (rpt (onF kd.pc) mn.toNat p)) U' G ∧ getRow G (n + 1) = some (cellsOf kd.enc, .exact) ∧ ¬ U' (n + 1) ∧ k = (mx - mn).toNat - j ∧ j ≤ (mx - mn).toNat

theorem Stay.row {X U U' : Nat → Prop} {h h' : Heap} {j : Nat} {c : List Value × Md} (s : Stay X U h U' h') (r : getRow h j = some c) (hu : ¬ U j) (hx : ¬ X j) : getRow h' j = some c ∧ ¬ U' j :=
  ⟨(getRow_same ((s.2 j (getRow_lt r) hu).2 hx)).trans r, (s.2 j (getRow_lt r) hu).1⟩

theorem On.here {lo i jb jh : Nat} {U0 : Nat → Prop} {h0 : Heap} {p : Bs × Nat} {U : Nat → Prop} {H : Heap} (o : On lo i jb jh U0 h0 p U H) (c : Nat) : On lo i jb jh U0 h0 (p.1, c) U (H.set jh (.row [.int .i64 (c : Int)] .exact)) :=
  ⟨o.1.set o.2.2.2.2.1, (getRow_same (List.getElem?_set_ne (Ne.symm o.2.2.2.2.2.1))).trans o.2.1, getRow_set o.2.2.1 _ _, o.2.2.2.1, o.2.2.2.2.1, o.2.2.2.2.2.1, o.2.2.2.2.2.2.trans (Stay.setA rfl)⟩

theorem again_spec {kd : Nd} (g : kd.Good) (hp : PieceOk kd) {mn mx : Int} (m1 : 0 ≤ mn) (m2 : mn ≤ 32) (m3 : mx ≤ 32) (m4 : mx < 0 ∨ mn ≤ mx) {st : BS} {lo i jb jh : Nat} {U0 : Nat → Prop} {h0 : Heap} {p : Bs × Nat} {e : Nat} {U : Nat → Prop} {H : Heap} {Q : Value → Heap → Prop}
    (o : On lo i jb jh U0 h0 p U H) (hf : p.1.fits ((mn.toNat + (mx - mn).toNat + 1) * kd.wt)) (hq : ∀ H' U', On lo i jb jh U0 h0 (againF kd.pc mn mx e p) U' H' → Q (.tuple #[]) H') :
    acall Try.prog F_nfa_builder_again [pAt i, .agg #[.int .i64 3, w64 st.a, w64 st.b, w64 st.c, w64 st.d, .int .i64 mn, .int .i64 mx, lit [kd.enc]], .int .i64 (e : Int), pAt jh, .func (.func F_nfa_builder_piece_D1) #[] #[pAt jb, pAt jh]] H Q := by
  apply W_nfa_builder_again_ok
  unfold W_nfa_builder_again
  rw [box_agg, hW_some]
  have ljh := getRow_lt o.2.2.1
  have uu : ∀ j, U j → j < H.length := fun j hj => o.1.lt hj
  have x1 := onF_by (fun s => pc_by g s)
  simp [-exists_and_right]
  rw [show iaS 8 (lit [kd.enc]) (.int .i64 0) = some (plit (cellsOf kd.enc)) from iaS_lit (by omega) rfl kd.enc_len, oW_some, ldPlitN, oW_some]
  have e7 : ∀ a b : AObj, H ++ [a, b] = (H ++ [a]) ++ [b] := fun a b => by simp
  rw [e7, show (Value.pointer (some ⟨H.length + 1, 0, none⟩)) = .pointer (some ⟨(H ++ [AObj.row [.int .i64 3, w64 st.a, w64 st.b, w64 st.c, w64 st.d, .int .i64 mn, .int .i64 mx, lit [kd.enc]] .exact]).length, 0, none⟩) by simp]
  refine boxN ?_
  have o1 := (o.app (t := [AObj.row [.int .i64 3, w64 st.a, w64 st.b, w64 st.c, w64 st.d, .int .i64 mn, .int .i64 mx, lit [kd.enc]] .exact])).app (t := [AObj.row (cellsOf kd.enc) .exact])
  have r1 : getRow (H ++ [AObj.row [.int .i64 3, w64 st.a, w64 st.b, w64 st.c, w64 st.d, .int .i64 mn, .int .i64 mx, lit [kd.enc]] .exact] ++ [AObj.row (cellsOf kd.enc) .exact]) H.length = some ([.int .i64 3, w64 st.a, w64 st.b, w64 st.c, w64 st.d, .int .i64 mn, .int .i64 mx, lit [kd.enc]], .exact) := by
    rw [← e7, row_app0]; rfl
  have r2 : getRow (H ++ [AObj.row [.int .i64 3, w64 st.a, w64 st.b, w64 st.c, w64 st.d, .int .i64 mn, .int .i64 mx, lit [kd.enc]] .exact] ++ [AObj.row (cellsOf kd.enc) .exact]) (H.length + 1) = some (cellsOf kd.enc, .exact) := by
    rw [← e7, row_app]; rfl
  have ll : (H ++ [AObj.row [.int .i64 3, w64 st.a, w64 st.b, w64 st.c, w64 st.d, .int .i64 mn, .int .i64 mx, lit [kd.enc]] .exact]).length = H.length + 1 := by simp
  rw [ll, r1]
  show oW (some (.int .i64 mn)) _
  rw [oW_some]
  generalize H ++ [AObj.row [.int .i64 3, w64 st.a, w64 st.b, w64 st.c, w64 st.d, .int .i64 mn, .int .i64 mx, lit [kd.enc]] .exact] ++ [AObj.row (cellsOf kd.enc) .exact] = H1 at *
  refine ⟨AgI lo i jb jh U0 h0 p kd st mn mx e H.length, mn.toNat, gcL_same ⟨0, U, rfl, o1, r1, r2, fun q => by have := uu _ q; omega, fun q => by have := uu _ q; omega, rfl, by omega⟩, ?_⟩
  rintro k x15 x16 x17 x18 x19 x20 x21 x22 G ⟨j, U1, hv, o2, r3, r4, u3, u4, hk, hj⟩
  simp only [List.cons.injEq, and_true] at hv
  obtain ⟨rfl, rfl, rfl, rfl, rfl, rfl, rfl, rfl⟩ := hv
  have gw : ∀ j, p.1.grows (rpt (onF kd.pc) j p).1 (j * kd.wt) 0 := fun j => rpt_by (fun q => by have := x1 q; unfold Bs.grows at *; omega) j p
  have hgj := gw j
  have f0 := hf
  rw [Nat.add_mul, Nat.add_mul, Nat.one_mul] at f0
  unfold Bs.fits at f0
  unfold Bs.grows at hgj
  have hjm : j * kd.wt ≤ mn.toNat * kd.wt := Nat.mul_le_mul_right _ hj
  have nj1 : ¬ H.length = jh := by omega
  have nj2 : ¬ H.length + 1 = jh := by omega
  rw [n_lss, oW_some, bW_dec]
  constructor
  · intro hlt
    rw [ldN r4, oW_some]
    refine on_step g hp o2 (by unfold Bs.fits; omega) fun G1 U2 o3 y3 => ?_
    rw [n_add (by omega), oW_some]
    have z3 := y3.row r3 u3 nj1
    have z4 := y3.row r4 u4 nj2
    exact ⟨mn.toNat - (j + 1), by omega, gcL_same ⟨j + 1, U2, by simp, o3, z3.1, z4.1, z3.2, z4.2, rfl, by omega⟩⟩
  · intro hge
    have hjj : j = mn.toNat := by omega
    subst hjj
    rw [fa_ptr, oW_some, ldW_one, r3]
    show oW (some (.int .i64 mx)) _
    rw [oW_some, n_lss, oW_some, bW_dec]
    have x2 := x1 (rpt (onF kd.pc) mn.toNat p)
    generalize hq5 : rpt (onF kd.pc) mn.toNat p = q5 at *
    unfold Bs.grows at x2
    constructor
    · intro hneg
      have hag : againF kd.pc mn mx e p = (((onF kd.pc q5).1.eps1 (q5.1.count + 1) q5.1.count).eps1 (q5.1.count + 1) e, q5.2) := by
        simp only [againF, hq5]; rw [if_pos hneg]
      rw [nc_ptr, oW_some, ldW_one, o2.2.2.1]
      show oW (some (.int .i64 _)) _
      rw [oW_some, ldN r4, oW_some]
      refine on_step g hp o2 (by unfold Bs.fits; omega) fun G1 U2 o3 y3 => ?_
      rw [extract_tuple, extract_tuple]
      show oW (some _) fun v99 => oW (some _) fun v100 => _
      rw [oW_some, oW_some, oW_some, st1 o3.2.2.1 (by simp) rfl rfl rfl (by simp), sW_some]
      have o4 := o3.here q5.2
      refine on_eps o4 (by simp only; omega) fun G2 U4 o5 y5 => ?_
      refine on_eps o5 (by rw [Bs.eps1_eps]; simp only; omega) fun G3 U5 o6 y6 => ?_
      refine gcV_same (hq _ U5 ?_)
      rw [hag]; exact o6
    · intro hpos
      have hag : againF kd.pc mn mx e p = rpt (fun p => onF kd.pc (p.1.eps1 p.2 e, p.2)) (mx - mn).toNat q5 := by
        simp only [againF, hq5]; rw [if_neg hpos]
      rw [fa_ptr, oW_some, ldW_one, r3]
      show oW (some (.int .i64 mx)) _
      rw [oW_some, oW_some, ldW_one, r3]
      show oW (some (.int .i64 mn)) _
      rw [oW_some, n_sub (by omega), oW_some]
      refine ⟨AgI2 lo i jb jh U0 h0 p kd mn mx e H.length, (mx - mn).toNat, gcL_same ⟨0, U1, rfl, by rw [hq5]; exact o2, r4, u4, rfl, by omega⟩, ?_⟩
      rintro k2 x54 x55 x56 x57 x58 x59 x60 G4 ⟨j, U3, hv, o3, r5, u5, hk3, hj3⟩
      simp only [List.cons.injEq, and_true] at hv
      obtain ⟨rfl, rfl, rfl, rfl, rfl, rfl, rfl⟩ := hv
      rw [hq5] at o3
      have gj := rpt_by (g := fun p => onF kd.pc (p.1.eps1 p.2 e, p.2)) (w := kd.wt) (fun p => by
        have := x1 (p.1.eps1 p.2 e, p.2)
        unfold Bs.grows at *
        simp only [Bs.eps1_eps, Bs.eps1_count, Bs.eps1_arcs] at this
        omega) j q5
      unfold Bs.grows at gj
      have hjm2 : j * kd.wt ≤ (mx - mn).toNat * kd.wt := Nat.mul_le_mul_right _ hj3
      rw [n_lss, oW_some, bW_dec]
      constructor
      · intro hlt
        rw [nc_ptr, oW_some, ldW_one, o3.2.2.1]
        show oW (some (.int .i64 _)) _
        rw [oW_some]
        refine on_eps o3 (by omega) fun G5 U5 o5 y5 => ?_
        have z5 := y5.row r5 u5 id
        have hj6 : (j + 1) * kd.wt ≤ (mx - mn).toNat * kd.wt := Nat.mul_le_mul_right _ (by omega)
        rw [Nat.add_mul, Nat.one_mul] at hj6
        have hwp := Nd.wt_pos (n := kd)
        rw [ldN z5.1, oW_some]
        refine on_step g hp o5 (by unfold Bs.fits; simp only [Bs.eps1_eps, Bs.eps1_count, Bs.eps1_arcs]; omega) fun G6 U6 o6 y6 => ?_
        have z6 := y6.row z5.1 z5.2 nj2
        rw [n_add (by omega), oW_some]
        exact ⟨(mx - mn).toNat - (j + 1), by omega, gcL_same ⟨j + 1, U6, by simp, by rw [hq5]; exact o6, z6.1, z6.2, rfl, by omega⟩⟩
      · intro hge
        have hj5 : j = (mx - mn).toNat := by omega
        subst hj5
        refine gcV_same (hq _ U3 ?_)
        rw [hag]; exact o3

theorem piece_step {op : Int} {st : BS} {mn mx : Int} {ks : List Nd} (g : (Nd.mk op st mn mx ks).Good) (hp : ∀ k ∈ ks, PieceOk k) : PieceOk (.mk op st mn mx ks) := by
  intro lo i U s h Q bl hf hq
  apply W_nfa_builder_piece_ok
  unfold W_nfa_builder_piece
  obtain ⟨ev, av, r0, r1⟩ := bl.upd
  have hi := getRow_lt r0
  have r0' : ∀ t, getRow (h ++ t) i = some ([.int .i64 (s.count : Int), ev, av, .int .i64 0, .int .i64 0, .bool s.full], .exact) := fun t => getRow_app r0
  have fs := hf
  unfold Bs.fits at fs
  have w1 := Nd.wt_pos (n := Nd.mk op st mn mx ks)
  rw [Nd.enc_mk]
  simp [-exists_and_right, r0']
  rw [n_add (by omega), n_add (by omega)]
  simp [-exists_and_right, r0']
  have e0 : ∀ o t, (h ++ t).set i o = h.set i o ++ t := fun o t => List.set_append_left i o hi
  rw [e0]
  have c2 : ((s.count : Int) + 2) = ((s.count + 2 : Nat) : Int) := by omega
  have c1 : ((s.count : Int) + 1) = ((s.count + 1 : Nat) : Int) := by omega
  rw [c1, c2]
  have b1 := (r1 (s.count + 2) s.full).app (t := [AObj.row [pAt i] .exact, AObj.row [.int .i64 op, w64 st.a, w64 st.b, w64 st.c, w64 st.d, .int .i64 mn, .int .i64 mx, lit (ks.map Nd.enc)] .exact])
  have y1 : Stay no U h U ((h.set i (.row [.int .i64 ((s.count + 2 : Nat) : Int), ev, av, .int .i64 0, .int .i64 0, .bool s.full] .exact)) ++ [AObj.row [pAt i] .exact, AObj.row [.int .i64 op, w64 st.a, w64 st.b, w64 st.c, w64 st.d, .int .i64 mn, .int .i64 mx, lit (ks.map Nd.enc)] .exact]) :=
    ⟨by simp, fun j hj hu => ⟨hu, fun _ => by rw [List.getElem?_append_left (by simpa using hj)]; exact List.getElem?_set_ne fun r => hu (by rw [← r]; exact bl.u)⟩⟩
  have l1 : ((h.set i (.row [.int .i64 ((s.count + 2 : Nat) : Int), ev, av, .int .i64 0, .int .i64 0, .bool s.full] .exact)) ++ [AObj.row [pAt i] .exact, AObj.row [.int .i64 op, w64 st.a, w64 st.b, w64 st.c, w64 st.d, .int .i64 mn, .int .i64 mx, lit (ks.map Nd.enc)] .exact]).length = h.length + 2 := by simp
  have rb : getRow ((h.set i (.row [.int .i64 ((s.count + 2 : Nat) : Int), ev, av, .int .i64 0, .int .i64 0, .bool s.full] .exact)) ++ [AObj.row [pAt i] .exact, AObj.row [.int .i64 op, w64 st.a, w64 st.b, w64 st.c, w64 st.d, .int .i64 mn, .int .i64 mx, lit (ks.map Nd.enc)] .exact]) h.length = some ([pAt i], .exact) := by
    have := row_app0 (h := h.set i (.row [.int .i64 ((s.count + 2 : Nat) : Int), ev, av, .int .i64 0, .int .i64 0, .bool s.full] .exact)) (t := [AObj.row [pAt i] .exact, AObj.row [.int .i64 op, w64 st.a, w64 st.b, w64 st.c, w64 st.d, .int .i64 mn, .int .i64 mx, lit (ks.map Nd.enc)] .exact])
    rw [List.length_set] at this; rw [this]; rfl
  have rn : getRow ((h.set i (.row [.int .i64 ((s.count + 2 : Nat) : Int), ev, av, .int .i64 0, .int .i64 0, .bool s.full] .exact)) ++ [AObj.row [pAt i] .exact, AObj.row [.int .i64 op, w64 st.a, w64 st.b, w64 st.c, w64 st.d, .int .i64 mn, .int .i64 mx, lit (ks.map Nd.enc)] .exact]) (h.length + 1) = some ([.int .i64 op, w64 st.a, w64 st.b, w64 st.c, w64 st.d, .int .i64 mn, .int .i64 mx, lit (ks.map Nd.enc)], .exact) := by
    have := row_app (h := h.set i (.row [.int .i64 ((s.count + 2 : Nat) : Int), ev, av, .int .i64 0, .int .i64 0, .bool s.full] .exact)) (t := [AObj.row [pAt i] .exact, AObj.row [.int .i64 op, w64 st.a, w64 st.b, w64 st.c, w64 st.d, .int .i64 mn, .int .i64 mx, lit (ks.map Nd.enc)] .exact]) (k := 1)
    rw [List.length_set] at this; rw [this]; rfl
  generalize (h.set i (.row [.int .i64 ((s.count + 2 : Nat) : Int), ev, av, .int .i64 0, .int .i64 0, .bool s.full] .exact)) ++ [AObj.row [pAt i] .exact, AObj.row [.int .i64 op, w64 st.a, w64 st.b, w64 st.c, w64 st.d, .int .i64 mn, .int .i64 mx, lit (ks.map Nd.enc)] .exact] = H1 at *
  have ubj : ¬ U h.length := fun q => by have := bl.lt q; omega
  have unj : ¬ U (h.length + 1) := fun q => by have := bl.lt q; omega
  refine ⟨PieceM lo i U h s [.int .i64 op, w64 st.a, w64 st.b, w64 st.c, w64 st.d, .int .i64 mn, .int .i64 mx, lit (ks.map Nd.enc)], ?_, ?_⟩
  · rw [rb]
    obtain ⟨ev1, av1, q0, q1⟩ := b1.upd
    have hi1 := getRow_lt q0
    have done : ∀ f, (s.full || decide (4096 < s.count + 2)) = f → gcL h (PieceM lo i U h s [.int .i64 op, w64 st.a, w64 st.b, w64 st.c, w64 st.d, .int .i64 mn, .int .i64 mx, lit (ks.map Nd.enc)]) [pAt h.length, pAt (h.length + 1), .int .i64 (s.count : Int), .int .i64 ((s.count + 1 : Nat) : Int)]
        (H1.set i (.row [.int .i64 ((s.count + 2 : Nat) : Int), ev1, av1, .int .i64 0, .int .i64 0, .bool f] .exact)) := fun f hfe => by
      refine gcL_same ⟨rfl, ?_, ?_, ?_, y1.trans ⟨by simp, fun j hj hu => ⟨hu, fun _ => List.getElem?_set_ne fun r => hu (by rw [← r]; exact bl.u)⟩⟩⟩
      · have := q1 (s.count + 2) f
        rw [← hfe] at this ⊢; exact this
      · exact (getRow_same (List.getElem?_set_ne (by omega))).trans rb
      · exact (getRow_same (List.getElem?_set_ne (by omega))).trans rn
    simp [-exists_and_right, q0]
    rw [bW_bool]
    constructor
    · intro hfu
      rw [hfu] at done
      exact done true rfl
    · intro hfu
      rw [hfu] at done
      refine done _ ?_
      rw [Bool.false_or, Bool.eq_iff_iff, decide_eq_true_eq, decide_eq_true_eq]; omega
  · rintro x44 x45 x46 x47 H ⟨hv, b2, rb2, rn2, y2⟩
    simp only [List.cons.injEq, and_true] at hv
    obtain ⟨rfl, rfl, rfl, rfl⟩ := hv
    have lH := getRow_lt rn2
    obtain ⟨ev2, av2, q0, q1⟩ := b2.upd
    rw [ldW_one, rb2]
    simp [-exists_and_right, q0]
    rw [bW_bool]
    constructor
    · intro hfu
      refine gcV_same (hq _ _ ?_ y2)
      rw [pc_full hfu]; exact b2
    · intro hfu
      have nf : ¬ s.new.full = true := by rw [hfu]; simp
      have rn3 : ∀ t, getRow (H ++ t) (h.length + 1) = some ([.int .i64 op, w64 st.a, w64 st.b, w64 st.c, w64 st.d, .int .i64 mn, .int .i64 mx, lit (ks.map Nd.enc)], .exact) := fun t => getRow_app rn2
      have rb3 : ∀ t, getRow (H ++ t) h.length = some ([pAt i], .exact) := fun t => getRow_app rb2
      simp [-exists_and_right, rn3, rb3]
      have u0 : ∀ j, U j → j < h.length := fun j hj => bl.lt hj
      have b3 : Bld lo i U (H ++ [.row [.int .i64 (s.count : Int)] .exact]) s.new := b2.app
      have y3 : Stay no U h U (H ++ [.row [.int .i64 (s.count : Int)] .exact]) := y2.trans Stay.app
      have q3 : getRow (H ++ [.row [.int .i64 (s.count : Int)] .exact]) i = _ := getRow_app q0
      have rh3 : getRow (H ++ [.row [.int .i64 (s.count : Int)] .exact]) H.length = some ([.int .i64 (s.count : Int)], .exact) := by simp
      have rb4 := rb3 [.row [.int .i64 (s.count : Int)] .exact]
      have rn4 := rn3 [.row [.int .i64 (s.count : Int)] .exact]
      have l4 : (H ++ [AObj.row [.int .i64 (s.count : Int)] .exact]).length = H.length + 1 := by simp
      generalize H ++ [AObj.row [.int .i64 (s.count : Int)] .exact] = H2 at *
      rw [c1]
      rw [bW_dec]
      constructor
      · intro h0
        subst h0
        obtain ⟨ev, av, h1, h2, h3, h4, h5, h6, h7, h8⟩ := b3
        rw [h1]
        show oW (some av) _
        rw [oW_some]
        have hi2 := getRow_lt h1
        refine Acc.pushK (e := encA ((s.count : Int), ((s.count + 1 : Nat) : Int), st)) h8 h3 (by omega) encA_len rfl rfl rfl rfl (by simp [Bs.new]; omega) (by simp [Bs.new]; omega) fun o => ⟨⟨?_, ?_, ?_⟩, fun v' H' a2 f1 f2 f3 => ⟨⟨?_, ?_⟩, ?_⟩⟩
        · exact List.getElem?_append_left (by omega)
        · exact List.getElem?_append_left (by omega)
        · exact List.getElem?_append_left (by omega)
        · rw [List.getElem?_append_left (by omega)]; exact f1 _ (by omega) fun q => by have := u0 _ ((h7 _).2 (.inr (.inr q))); omega
        · rw [List.getElem?_append_left (by omega)]; exact f1 _ (by omega) fun q => by have := u0 _ ((h7 _).2 (.inr (.inr q))); omega
        · have hr : getRow H' i = getRow H2 i := getRow_same (f1 i hi2 h6)
          rw [st1 (hr.trans h1) (by simp) a2.cell.1 a2.cell.2.1 a2.cell.2.2 (by simp), sW_some]
          have n1 : ¬ lies v' i := fun q => (f2 i q).elim h6 fun r => by omega
          refine gcV_same (hq _ (fun j => j = i ∨ lies ev j ∨ lies v' j) ?_ (y3.trans ⟨by simpa using f3, fun j hj hu => ⟨fun q => ?_, fun _ => ?_⟩⟩))
          · rw [pc_set nf]
            refine ⟨ev, v', getRow_set (hr.trans h1) _ _, ?_, ?_, fun j q r => ?_, h5, n1, fun j => Iff.rfl, by simp; omega⟩
            · exact h2.congr fun j q => (List.getElem?_set_ne fun r => h5 (by rw [r]; exact q)).trans (f1 j (h2.lt q) fun r => h4 j q r)
            · have a3 := a2.congr (H' := H'.set i (AObj.row ([Value.int IntKind.i64 ↑s.new.count, ev, av, Value.int IntKind.i64 0, Value.int IntKind.i64 0, Value.bool s.new.full].set 2 v') .exact)) fun j q => List.getElem?_set_ne fun r => n1 (by rw [r]; exact q)
              simpa [Bs.new_arcs] using a3
            · rcases f2 j r with x | x
              · exact h4 j q x
              · have := h2.lt q; omega
          · rw [h7 j] at hu
            rcases q with x | x | x
            · exact hu (.inl x)
            · exact hu (.inr (.inl x))
            · rcases f2 j x with y | y
              · exact hu (.inr (.inr y))
              · omega
          · rw [h7 j] at hu
            rw [List.getElem?_set_ne fun r => hu (.inl r.symm)]
            exact f1 j hj fun q => hu (.inr (.inr q))
      · intro h0
        rw [bW_dec]
        constructor
        · intro h2
          subst h2
          have hk : ∀ k ∈ ks, k.Good := by cases g; assumption
          have hwt : (Nd.mk 2 st mn mx ks).wt = 1 + Nd.wts ks := by simp [Nd.wt]
          have hkl := wts_len (l := ks)
          refine ⟨AltI lo i U h s ks, ks.length, gcL_same ⟨0, U, rfl, by simpa using b3, y3, rb4, ubj, rfl, by omega⟩, ?_⟩
          rintro k x83 x84 x85 x86 x87 x88 G ⟨j, U1, hv, b4, y4, rb5, ub5, hk5, hj⟩
          simp only [List.cons.injEq, and_true] at hv
          obtain ⟨rfl, rfl, rfl, rfl, rfl, rfl⟩ := hv
          rw [n_lss, oW_some, bW_dec]
          constructor
          · intro hlt
            have hlt' : j < ks.length := by omega
            have htk : ks.take (j + 1) = ks.take j ++ [ks[j]] := by rw [List.take_add_one, List.getElem?_eq_getElem hlt']; rfl
            have hmem : ks[j] ∈ ks := by simp
            have gr := foldAlt_by (b := s.count) (e := s.count + 1) (ks := ks.take j) (s := s.new) fun k hk' => pc_by (hk k (List.mem_of_mem_take hk'))
            have hw1 := wts_take hlt'
            have hw2 := wts_le (l := ks) (j := j + 1)
            have hfl : ((ks.take (j + 1)).map Nd.pc).foldl (altF s.count (s.count + 1)) s.new = altF s.count (s.count + 1) (((ks.take j).map Nd.pc).foldl (altF s.count (s.count + 1)) s.new) ks[j].pc := by
              rw [htk, List.map_append, List.foldl_append]; rfl
            generalize ((ks.take j).map Nd.pc).foldl (altF s.count (s.count + 1)) s.new = s5 at *
            unfold Bs.grows at gr
            rw [Bs.new_count, Bs.new_eps, Bs.new_arcs] at gr
            refine ix_lit hlt' (Nd.enc_len _) ?_
            rw [ldPlitN, oW_some]
            refine boxN ?_
            have rb6 : getRow (G ++ [AObj.row (cellsOf ks[j].enc) .exact]) h.length = some ([pAt i], .exact) := getRow_app rb5
            rw [ldW_one, rb6]
            show oW (some (pAt i)) _
            rw [oW_some, ldN2, oW_some]
            have gk := pc_by (hk _ hmem) s5
            unfold Bs.grows at gk
            have hlh : h.length < G.length := getRow_lt rb5
            refine hp _ hmem (b4.app) (by unfold Bs.fits; omega) fun h5 U5 b5 y5 => ?_
            have z5 := y5.low.2 _ hlh ub5
            have rb7 := (getRow_same (z5.2 id)).trans rb5
            rw [extract_tuple, extract_tuple]
            show oW (some _) fun v99 => oW (some _) fun v100 => _
            rw [oW_some, oW_some, ldW_one, rb7]
            show oW (some (pAt i)) _
            rw [oW_some]
            refine beps_spec b5 (by omega) fun h6 U6 b6 y6 => ?_
            have hl6 : h.length < h5.length := Nat.lt_of_lt_of_le hlh y5.low.1
            have z6 := y6.2 _ hl6 z5.1
            have rb8 := (getRow_same (z6.2 id)).trans rb7
            rw [ldW_one, rb8]
            show oW (some (pAt i)) _
            rw [oW_some]
            refine beps_spec b6 (by rw [Bs.eps1_eps]; omega) fun h7 U7 b7 y7 => ?_
            have z7 := y7.2 _ (Nat.lt_of_lt_of_le hl6 y6.1) z6.1
            have rb9 := (getRow_same (z7.2 id)).trans rb8
            rw [n_add (by omega), oW_some]
            refine ⟨ks.length - (j + 1), by omega, gcL_same ⟨j + 1, U7, by simp, ?_, ((y4.trans y5.low).trans y6).trans y7, rb9, z7.1, rfl, by omega⟩⟩
            rw [hfl]; exact b7
          · intro hge
            have : j = ks.length := by omega
            subst this
            rw [List.take_length] at b4
            refine gcV_same (hq _ _ ?_ y4)
            rw [pc_alt nf]; exact b4
        · intro h2
          rw [bW_dec]
          constructor
          · intro h1
            subst h1
            have hk : ∀ k ∈ ks, k.Good := by cases g; assumption
            have hwt : (Nd.mk 1 st mn mx ks).wt = 1 + Nd.wts ks := by simp [Nd.wt]
            have hkl := wts_len (l := ks)
            have uh : ¬ U H.length := fun q => by have := u0 _ q; omega
            refine ⟨CatI lo i H.length U h s ks, ks.length, gcL_same ⟨0, U, rfl, ⟨by simpa using b3, rb4, rh3, ubj, uh, by omega, y3.weak fun _ q => q.elim⟩, rfl, by omega⟩, ?_⟩
            rintro k x116 x117 x118 x119 x120 x121 x122 x123 G ⟨j, U1, hv, o4, hk5, hj⟩
            simp only [List.cons.injEq, and_true] at hv
            obtain ⟨rfl, rfl, rfl, rfl, rfl, rfl, rfl, rfl⟩ := hv
            rw [n_lss, oW_some, bW_dec]
            constructor
            · intro hlt
              have hlt' : j < ks.length := by omega
              have htk : ks.take (j + 1) = ks.take j ++ [ks[j]] := by rw [List.take_add_one, List.getElem?_eq_getElem hlt']; rfl
              have hmem : ks[j] ∈ ks := by simp
              have gr := foldCat_by (ks := ks.take j) (p := (s.new, s.count)) fun k hk' => pc_by (hk k (List.mem_of_mem_take hk'))
              have hw1 := wts_take hlt'
              have hw2 := wts_le (l := ks) (j := j + 1)
              have hfl : ((ks.take (j + 1)).map Nd.pc).foldl (fun p f => onF f p) (s.new, s.count) = onF ks[j].pc (((ks.take j).map Nd.pc).foldl (fun p f => onF f p) (s.new, s.count)) := by
                rw [htk, List.map_append, List.foldl_append]; rfl
              generalize ((ks.take j).map Nd.pc).foldl (fun p f => onF f p) (s.new, s.count) = p5 at *
              unfold Bs.grows at gr
              rw [Bs.new_count, Bs.new_eps, Bs.new_arcs] at gr
              refine ix_lit hlt' (Nd.enc_len _) ?_
              rw [ldPlitN, oW_some]
              refine boxN ?_
              rw [ldN2, oW_some]
              refine on_step (hk _ hmem) (hp _ hmem) o4.app (by unfold Bs.fits; omega) fun h5 U5 o5 y5 => ?_
              rw [n_add (by omega), oW_some]
              refine ⟨ks.length - (j + 1), by omega, gcL_same ⟨j + 1, U5, by simp, ?_, rfl, by omega⟩⟩
              rw [hfl]; exact o5
            · intro hge
              have : j = ks.length := by omega
              subst this
              rw [List.take_length] at o4
              have gr := foldCat_by (ks := ks) (p := (s.new, s.count)) fun k hk' => pc_by (hk k hk')
              unfold Bs.grows at gr
              rw [Bs.new_count, Bs.new_eps, Bs.new_arcs] at gr
              rw [ldW_one, o4.2.1]
              show oW (some (pAt i)) _
              rw [oW_some, ldW_one, o4.2.2.1]
              show oW (some (.int .i64 _)) _
              rw [oW_some]
              refine on_eps o4 (by omega) fun h6 U6 o6 y6 => ?_
              refine gcV_same (hq _ U6 ?_ ?_)
              · rw [pc_cat nf]; exact o6.1
              · exact ⟨o6.2.2.2.2.2.2.1, fun j hj hu => ⟨(o6.2.2.2.2.2.2.2 j hj hu).1, fun _ => (o6.2.2.2.2.2.2.2 j hj hu).2 (by omega)⟩⟩
          · intro h1
            obtain ⟨kd, hop, hks, gk, m1, m2, m3, m4⟩ : ∃ kd, op = 3 ∧ ks = [kd] ∧ kd.Good ∧ 0 ≤ mn ∧ mn ≤ 32 ∧ mx ≤ 32 ∧ (mx < 0 ∨ mn ≤ mx) := by
              cases g
              · omega
              · omega
              · omega
              · exact ⟨_, rfl, rfl, by assumption, by assumption, by assumption, by assumption, by assumption⟩
            subst hop hks
            have uh : ¬ U H.length := fun q => by have := u0 _ q; omega
            have hwt : (Nd.mk 3 st mn mx [kd]).wt = 1 + (mn.toNat + (mx - mn).toNat + 1) * kd.wt := by simp [Nd.wt, Nd.wts]
            have hkw := Nd.wt_pos (n := kd)
            have o3 : On lo i h.length H.length U h (s.new, s.count) U H2 := ⟨b3, rb4, rh3, ubj, uh, by omega, y3.weak fun _ q => q.elim⟩
            refine again_spec gk (hp kd (by simp)) m1 m2 m3 m4 o3 (by unfold Bs.fits; simp only [Bs.new_count, Bs.new_eps, Bs.new_arcs]; omega) fun h5 U5 o5 => ?_
            rw [o5.2.1]
            show oW (some (pAt i)) _
            rw [oW_some, o5.2.2.1]
            show oW (some (.int .i64 _)) _
            rw [oW_some]
            have gr := pc_by g s
            rw [pc_rep nf] at gr
            unfold Bs.grows at gr
            simp only [Bs.eps1_eps] at gr
            refine on_eps o5 (by omega) fun h6 U6 o6 y6 => ?_
            refine gcV_same (hq _ U6 ?_ ?_)
            · rw [pc_rep nf]; exact o6.1
            · exact ⟨o6.2.2.2.2.2.2.1, fun j hj hu => ⟨(o6.2.2.2.2.2.2.2 j hj hu).1, fun _ => (o6.2.2.2.2.2.2.2 j hj hu).2 (by omega)⟩⟩

theorem piece_spec {n : Nd} (g : n.Good) : PieceOk n := by
  induction g with
  | set => exact piece_step .set (fun k hk => by cases hk)
  | cat h ih => exact piece_step (.cat h) ih
  | alt h ih => exact piece_step (.alt h) ih
  | rep h h1 h2 h3 h4 ih => exact piece_step (.rep h h1 h2 h3 h4) fun k hk => by simp at hk; subst hk; exact ih

end Go.Ax

namespace Go.Ax
open Go Go.Proofs Go.RowKit

def Bs.inv (s : Bs) : Prop := (∀ p ∈ s.eps, inR s.count p.1 ∧ inR s.count p.2) ∧ (∀ a ∈ s.arcs, inR s.count a.1 ∧ inR s.count a.2.1) ∧ (s.full = false → s.count ≤ 4096)
def Fg (f : Bs → Bs) : Prop := ∀ s : Bs, s.inv → (f s).inv ∧ s.count + 2 ≤ (f s).count

theorem Bs.inv.eps1 {s : Bs} (h : s.inv) {a b : Nat} (ha : a < s.count) (hb : b < s.count) : (s.eps1 a b).inv := by
  refine ⟨fun p hp => ?_, h.2.1, h.2.2⟩
  simp only [Bs.eps1, List.mem_append, List.mem_singleton] at hp
  rcases hp with hp | rfl
  · exact h.1 p hp
  · unfold inR; simp only [Bs.eps1]; omega
theorem Bs.inv.new {s : Bs} (h : s.inv) : s.new.inv := by
  refine ⟨fun p hp => ?_, fun a ha => ?_, fun hf => ?_⟩
  · have := h.1 p hp; unfold inR at *; simp only [Bs.new]; omega
  · have := h.2.1 a ha; unfold inR at *; simp only [Bs.new]; omega
  · simp [Bs.new] at hf ⊢; omega
theorem fg_on {f : Bs → Bs} (hf : Fg f) {p : Bs × Nat} (h : p.1.inv) (hp : p.2 < p.1.count) : (onF f p).1.inv ∧ (onF f p).2 < (onF f p).1.count ∧ p.1.count + 2 ≤ (onF f p).1.count := by
  obtain ⟨h1, h2⟩ := hf p.1 h
  exact ⟨h1.eps1 (by omega) (by omega), by simp only [onF, Bs.eps1_count]; omega, by simp only [onF, Bs.eps1_count]; omega⟩
theorem fg_rpt {g : Bs × Nat → Bs × Nat} {c : Nat} (hg : ∀ p : Bs × Nat, p.1.inv → p.2 < p.1.count → c ≤ p.1.count → (g p).1.inv ∧ (g p).2 < (g p).1.count ∧ p.1.count ≤ (g p).1.count) :
    ∀ (n : Nat) (p : Bs × Nat), p.1.inv → p.2 < p.1.count → c ≤ p.1.count → (rpt g n p).1.inv ∧ (rpt g n p).2 < (rpt g n p).1.count ∧ p.1.count ≤ (rpt g n p).1.count
  | 0, p, h1, h2, _ => ⟨h1, h2, Nat.le_refl _⟩
  | n + 1, p, h1, h2, h3 => by
    obtain ⟨a, b, d⟩ := fg_rpt hg n p h1 h2 h3
    obtain ⟨a', b', d'⟩ := hg _ a b (by omega)
    exact ⟨a', b', by rw [rpt]; omega⟩
theorem fg_cat : ∀ {fs : List (Bs → Bs)} {p : Bs × Nat}, (∀ f ∈ fs, Fg f) → p.1.inv → p.2 < p.1.count → (fs.foldl (fun p f => onF f p) p).1.inv ∧ (fs.foldl (fun p f => onF f p) p).2 < (fs.foldl (fun p f => onF f p) p).1.count ∧ p.1.count ≤ (fs.foldl (fun p f => onF f p) p).1.count
  | [], p, _, h1, h2 => ⟨h1, h2, Nat.le_refl _⟩
  | f :: fs, p, hf, h1, h2 => by
    obtain ⟨a, b, c⟩ := fg_on (hf f (by simp)) h1 h2
    obtain ⟨a', b', c'⟩ := fg_cat (fs := fs) (fun g hg => hf g (by simp [hg])) a b
    exact ⟨a', b', by rw [List.foldl_cons]; omega⟩
theorem fg_alt {b e : Nat} : ∀ {fs : List (Bs → Bs)} {s : Bs}, (∀ f ∈ fs, Fg f) → s.inv → b < s.count → e < s.count → (fs.foldl (altF b e) s).inv ∧ s.count ≤ (fs.foldl (altF b e) s).count
  | [], s, _, h1, _, _ => ⟨h1, Nat.le_refl _⟩
  | f :: fs, s, hf, h1, h2, h3 => by
    obtain ⟨a, c⟩ := hf f (by simp) s h1
    have a2 : (altF b e s f).inv := (a.eps1 (by omega) (by omega)).eps1 (by rw [Bs.eps1_count]; omega) (by rw [Bs.eps1_count]; omega)
    have a3 : (altF b e s f).count = (f s).count := rfl
    obtain ⟨a', c'⟩ := fg_alt (b := b) (e := e) (fs := fs) (s := altF b e s f) (fun g hg => hf g (by simp [hg])) a2 (by omega) (by omega)
    exact ⟨a', by rw [List.foldl_cons]; omega⟩

theorem pc_inv {n : Nd} (g : n.Good) : Fg n.pc := by
  induction g with
  | @set st mn mx =>
    intro s h
    by_cases hf : s.new.full = true
    · rw [pc_full hf]; exact ⟨h.new, by simp [Bs.new]⟩
    · rw [pc_set hf]
      refine ⟨⟨h.new.1, fun a ha => ?_, h.new.2.2⟩, by simp [Bs.new]⟩
      simp only [List.mem_append, List.mem_singleton] at ha
      rcases ha with ha | rfl
      · exact h.new.2.1 a ha
      · unfold inR; simp only [Bs.new]; omega
  | @cat st mn mx ks hk ih =>
    intro s h
    by_cases hf : s.new.full = true
    · rw [pc_full hf]; exact ⟨h.new, by simp [Bs.new]⟩
    · rw [pc_cat hf]
      obtain ⟨a, b, c⟩ := fg_cat (fs := ks.map Nd.pc) (p := (s.new, s.count)) (fun f hf => by obtain ⟨k, hk, rfl⟩ := List.mem_map.1 hf; exact ih k hk) h.new (by simp [Bs.new])
      simp only [Bs.new_count] at c
      exact ⟨a.eps1 b (by omega), by simp only [Bs.eps1_count]; omega⟩
  | @alt st mn mx ks hk ih =>
    intro s h
    by_cases hf : s.new.full = true
    · rw [pc_full hf]; exact ⟨h.new, by simp [Bs.new]⟩
    · rw [pc_alt hf]
      obtain ⟨a, c⟩ := fg_alt (b := s.count) (e := s.count + 1) (fs := ks.map Nd.pc) (s := s.new) (fun f hf => by obtain ⟨k, hk, rfl⟩ := List.mem_map.1 hf; exact ih k hk) h.new (by simp [Bs.new]) (by simp [Bs.new])
      simp only [Bs.new_count] at c
      exact ⟨a, c⟩
  | @rep st mn mx k hk h1 h2 h3 h4 ih =>
    intro s h
    by_cases hf : s.new.full = true
    · rw [pc_full hf]; exact ⟨h.new, by simp [Bs.new]⟩
    · rw [pc_rep hf]
      obtain ⟨a, b, c⟩ := fg_rpt (g := onF k.pc) (c := 0) (fun p x y _ => by obtain ⟨u, v, w⟩ := fg_on ih x y; exact ⟨u, v, by omega⟩) mn.toNat (s.new, s.count) h.new (by simp [Bs.new]) (by omega)
      simp only [Bs.new_count] at c
      simp only [againF]
      split
      · obtain ⟨a1, b1, c1⟩ := fg_on ih a b
        refine ⟨((a1.eps1 (by omega) (by omega)).eps1 (by rw [Bs.eps1_count]; omega) (by rw [Bs.eps1_count]; omega)).eps1 (by simp only [Bs.eps1_count]; omega) (by simp only [Bs.eps1_count]; omega), by simp only [Bs.eps1_count]; omega⟩
      · obtain ⟨a1, b1, c1⟩ := fg_rpt (g := fun p => onF k.pc (p.1.eps1 p.2 (s.count + 1), p.2)) (c := s.count + 2) (fun p x y z => by
          obtain ⟨u, v, w⟩ := fg_on ih (p := (p.1.eps1 p.2 (s.count + 1), p.2)) (x.eps1 y (by omega)) y
          exact ⟨u, v, by simp only [Bs.eps1_count] at w; omega⟩) (mx - mn).toNat _ a b (by omega)
        exact ⟨a1.eps1 b1 (by omega), by simp only [Bs.eps1_count]; omega⟩

def bs0 : Bs := ⟨0, [], [], false⟩
theorem bs0_inv : bs0.inv := ⟨fun p hp => by simp [bs0] at hp, fun p hp => by simp [bs0] at hp, fun _ => by simp [bs0]⟩
def Nd.mach (n : Nd) : Mch := ⟨(n.pc bs0).count, (n.pc bs0).eps, (n.pc bs0).arcs, 0, 1⟩
theorem mach_ok {n : Nd} (g : n.Good) : n.mach.ok := by
  obtain ⟨h1, h2⟩ := pc_inv g bs0 bs0_inv
  have : bs0.count = 0 := rfl
  exact ⟨h1.1, h1.2.1, ⟨by simp [Nd.mach], by simp only [Nd.mach]; omega⟩, ⟨by simp [Nd.mach], by simp only [Nd.mach]; omega⟩⟩
theorem mach_count {n : Nd} (g : n.Good) (hf : (n.pc bs0).full = false) : n.mach.count ≤ 4096 := (pc_inv g bs0 bs0_inv).1.2.2 hf

theorem good_of : ∀ {d : Nat} {n : Nd}, n.may d = true → n.plain = true → n.Good
  | 0, n, h, _ => by rw [Nd.may] at h; cases h
  | d + 1, .mk op s mn mx ks, h, hp => by
    rw [Nd.may] at h
    rw [Nd.plain, Nd.plains_eq] at hp
    simp only [Nd.cnt, Bool.and_eq_true, Bool.or_eq_true, decide_eq_true_eq, List.all_eq_true] at h hp
    have hk : ∀ k ∈ ks, k.Good := fun k hk => good_of (h.2 k hk) (hp.2 k hk)
    obtain ⟨⟨⟨⟨⟨⟨⟨⟨⟨a1, a2⟩, a3⟩, a4⟩, a5⟩, a6⟩, a7⟩, a8⟩, a9⟩, _⟩ := h
    obtain ⟨⟨b1, b2⟩, _⟩ := hp
    have : op = 0 ∨ op = 1 ∨ op = 2 ∨ op = 3 := by omega
    rcases this with rfl | rfl | rfl | rfl
    · have : ks = [] := List.length_eq_zero_iff.1 (by omega)
      subst this; exact .set
    · exact .cat hk
    · exact .alt hk
    · obtain ⟨k, rfl⟩ := List.length_eq_one_iff.1 (show ks.length = 1 by omega)
      exact .rep (hk k (by simp)) a6 a7 a8 (by omega)

def zeroM : Mch := ⟨0, [], [], 0, 0⟩
def Nd.built (n : Nd) : Value :=
  if n.may 64 = true ∧ n.plain = true then (if (n.pc bs0).full = true then .tuple #[zeroM.enc, .int .i64 70] else .tuple #[n.mach.enc, .int .i64 0]) else .tuple #[zeroM.enc, .int .i64 1]

theorem zero_gv {fr : Nat → Prop} {r : Nat → Option Nat} {h : Heap} {k : Int} : Gv fr r h (.tuple #[zeroM.enc, .int .i64 k]) (.tuple #[.agg #[.int .i64 0, .slice none 0 0, .slice none 0 0, .int .i64 0, .int .i64 0], .int .i64 k]) :=
  Gv.tupL (xs := [_, _]) (ys := [_, _]) (by simp) ⟨Gv.aggL (xs := [_, _, _, _, _]) (ys := [_, _, _, _, _]) ⟨.cl (.int _ _), .lit0 _ _, .lit0 _ _, .cl (.int _ _), .cl (.int _ _), trivial⟩, .cl (.int _ _), trivial⟩

theorem lies_nil {n c j : Nat} : ¬ lies (.slice none n c) j := fun ⟨_, _, _, q⟩ => by cases q

theorem build_spec {n : Nd} (hf : n.Fin) (hw : n.wt ≤ 100000000000) {h : Heap} {Q : Value → Heap → Prop} (hq : Q n.built h) : acall Try.prog F_nfa_Build [n.enc] h Q := by
  apply W_nfa_Build_ok
  unfold W_nfa_Build
  obtain ⟨cs, e1, e2⟩ := n.enc_agg
  have e3 : cs.toList.take 8 = cs.toList := List.take_of_length_le (by simp; omega)
  have e4 : Value.agg cs.toList.toArray = n.enc := by rw [e1]
  rw [e1]
  simp [-exists_and_right]
  rw [if_pos (by omega)]
  simp [-exists_and_right]
  rw [e3, e4]
  refine check_spec hf ?_
  simp [-exists_and_right]
  rw [bW_bool]
  have hno : n.may 64 = false ∨ n.plain = false → n.built = .tuple #[zeroM.enc, .int .i64 1] := fun q => by
    unfold Nd.built
    rw [if_neg fun r => by rcases q with q | q <;> simp [q] at r]
  constructor
  · intro hm
    rw [hno (.inl (by simpa using hm))] at hq
    exact gcV_end zero_gv hq
  · intro hm
    have hm' : n.may 64 = true := by simpa using hm
    rw [if_pos (by omega), oW_some, e3, e4]
    refine plain_spec hf ?_
    simp [-exists_and_right]
    rw [bW_bool]
    constructor
    · intro hp
      rw [hno (.inr (by simpa using hp))] at hq
      exact gcV_end zero_gv hq
    · intro hp
      have hp' : n.plain = true := by simpa using hp
      have g := good_of hm' hp'
      rw [if_pos (by omega), oW_some, e3, e4]
      have b0 : Bld h.length (h.length + 2) (· = h.length + 2) (h ++ [AObj.row cs.toList .exact, AObj.row [.int .i64 0, .slice none 0 0, .slice none 0 0, .int .i64 0, .int .i64 0] .exact, AObj.row [.int .i64 0, .slice none 0 0, .slice none 0 0, .int .i64 0, .int .i64 0, .bool false] .exact]) bs0 :=
        ⟨.slice none 0 0, .slice none 0 0, by rw [row_app]; rfl, Acc.nil, Acc.nil, fun j q => absurd q lies_nil, lies_nil, lies_nil,
          fun j => ⟨.inl, fun q => q.elim id fun q => q.elim (fun q => absurd q lies_nil) fun q => absurd q lies_nil⟩, by simp⟩
      have gw := pc_by g bs0
      refine piece_spec g b0 (by unfold Bs.fits; simp [bs0]; omega) fun H U b1 y1 => ?_
      have r0 : getRow (h ++ [AObj.row cs.toList .exact, AObj.row [.int .i64 0, .slice none 0 0, .slice none 0 0, .int .i64 0, .int .i64 0] .exact, AObj.row [.int .i64 0, .slice none 0 0, .slice none 0 0, .int .i64 0, .int .i64 0, .bool false] .exact]) (h.length + 1) = some ([.int .i64 0, .slice none 0 0, .slice none 0 0, .int .i64 0, .int .i64 0], .exact) := by rw [row_app]; rfl
      have hr := y1.row r0 (by simp) id
      have hlo : ∀ j, j < h.length → H[j]? = h[j]? := fun j hj => by
        rw [(y1.2 j (by simp; omega) (by omega)).2 id, List.getElem?_append_left hj]
      obtain ⟨ev, av, h1, h2, h3, h4, h5, h6, h7, h8⟩ := b1
      have eH : H = h ++ H.drop h.length := by
        have : H.take h.length = h := by
          apply List.ext_getElem?
          intro j
          rw [List.getElem?_take]
          split
          · exact hlo j (by assumption)
          · rw [List.getElem?_eq_none (by omega)]
        conv => lhs; rw [← List.take_append_drop h.length H, this]
      have eS : ∀ j o, h.length ≤ j → ∃ t, H.set j o = h ++ t := fun j o hj => ⟨_, by rw [eH, List.set_append_right _ _ hj]⟩
      simp [-exists_and_right, h1, two]
      rw [getRow_set h1, Option.bind_some, if_pos (by simp), sW_some]
      simp only [List.set_cons_succ, List.set_cons_zero]
      have r3 := getRow_set h1 [.int .i64 ((n.pc bs0).count : Int), ev, av, .int .i64 (bs0.count : Int), .int .i64 ((bs0.count : Int) + 1), .bool (n.pc bs0).full] .exact
      have r4 : getRow (H.set (h.length + 2) (.row [.int .i64 ((n.pc bs0).count : Int), ev, av, .int .i64 (bs0.count : Int), .int .i64 ((bs0.count : Int) + 1), .bool (n.pc bs0).full] .exact)) (h.length + 1) = some ([.int .i64 0, .slice none 0 0, .slice none 0 0, .int .i64 0, .int .i64 0], .exact) :=
        (getRow_same (List.getElem?_set_ne (by omega))).trans hr.1
      have a3 := h2.congr (H' := H.set (h.length + 2) (.row [.int .i64 ((n.pc bs0).count : Int), ev, av, .int .i64 (bs0.count : Int), .int .i64 ((bs0.count : Int) + 1), .bool (n.pc bs0).full] .exact)) fun j q => List.getElem?_set_ne fun r => h5 (by rw [r]; exact q)
      have a4 := h3.congr (H' := H.set (h.length + 2) (.row [.int .i64 ((n.pc bs0).count : Int), ev, av, .int .i64 (bs0.count : Int), .int .i64 ((bs0.count : Int) + 1), .bool (n.pc bs0).full] .exact)) fun j q => List.getElem?_set_ne fun r => h6 (by rw [r]; exact q)
      obtain ⟨t3, e5⟩ := eS (h.length + 2) (.row [.int .i64 ((n.pc bs0).count : Int), ev, av, .int .i64 (bs0.count : Int), .int .i64 ((bs0.count : Int) + 1), .bool (n.pc bs0).full] .exact) (by omega)
      rw [e5] at r3 r4 a3 a4 ⊢
      have eT : ∀ o, (h ++ t3).set (h.length + 1) o = h ++ t3.set 1 o := fun o => set_app
      rw [r3]
      show oW (some (.bool (n.pc bs0).full)) _
      rw [oW_some, bW_bool]
      have hyes : n.built = if (n.pc bs0).full = true then .tuple #[zeroM.enc, .int .i64 70] else .tuple #[n.mach.enc, .int .i64 0] := by unfold Nd.built; rw [if_pos ⟨hm', hp'⟩]
      rw [hyes] at hq
      constructor
      · intro hfu
        rw [if_pos hfu] at hq
        rw [r4, Option.bind_some, if_pos (by simp), sW_some, getRow_set r4]
        simp only [List.set_cons_succ, List.set_cons_zero, Option.bind_some, List.take_succ_cons, List.take_zero]
        rw [if_pos (by simp), oW_some, eT]
        exact gcV_end zero_gv hq
      · intro hfu
        rw [if_neg (by simp [hfu])] at hq
        simp only [Option.bind_some, List.take_succ_cons, List.take_zero]
        rw [if_pos (by simp), oW_some, stW_agg, r4, Option.bind_some, if_pos (by simp [a3.cell.2.2, a4.cell.2.2]), sW_some, getRow_set r4]
        simp only [Option.bind_some]
        rw [writeL_all (by rfl)]
        simp only [List.take_succ_cons, List.take_zero]
        rw [if_pos (by simp), oW_some, eT]
        refine gcV_end ?_ hq
        have c0 : (bs0.count : Int) = 0 := rfl
        rw [← eT, c0]
        have n1 : ¬ lies ev (h.length + 1) := fun q => hr.2 ((h7 _).2 (.inr (.inl q)))
        have n2 : ¬ lies av (h.length + 1) := fun q => hr.2 ((h7 _).2 (.inr (.inr q)))
        refine Gv.tupL (xs := [_, _]) (ys := [_, _]) (by simp) ⟨Gv.aggL (xs := [_, _, _, _, _]) (ys := [_, _, _, _, _]) ⟨.cl (.int _ _), ?_, ?_, .cl (.int _ _), .cl (.int _ _), trivial⟩, .cl (.int _ _), trivial⟩
        · exact (a3.congr fun j q => List.getElem?_set_ne fun r => n1 (by rw [r]; exact q)).gv (fun i hi => ⟨a3.ge hi, by simp⟩) (by omega) encP_len encP_cl
        · exact (a4.congr fun j q => List.getElem?_set_ne fun r => n2 (by rw [r]; exact q)).gv (fun i hi => ⟨a4.ge hi, by simp⟩) (by omega) encA_len encA_cl

end Go.Ax

