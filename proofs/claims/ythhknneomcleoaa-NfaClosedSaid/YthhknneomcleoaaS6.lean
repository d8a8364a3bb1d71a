/- Specs: nfa.Step, nfa.Whole. -/
import Derived.Test.YthhknneomcleoaaS5
namespace Go.Ax
open Go Go.Proofs Go.RowKit

theorem encP_cl {l : List (Int × Int)} : ∀ e ∈ l.map encP, ∀ x ∈ cellsOf e, Cl x := fun e he x hx => by
  obtain ⟨p, _, rfl⟩ := List.mem_map.1 he
  simp at hx
  rcases hx with rfl | rfl <;> exact .int _ _
theorem encA_cl {l : List (Int × Int × BS)} : ∀ e ∈ l.map encA, ∀ x ∈ cellsOf e, Cl x := fun e he x hx => by
  obtain ⟨p, _, rfl⟩ := List.mem_map.1 he
  simp at hx
  rcases hx with rfl | rfl | rfl | rfl | rfl | rfl <;> exact .int _ _

def Mch.to (m : Mch) (l : List Int) (b : Nat) : List Int := (m.arcs.filter fun a => decide (a.1 ∈ l) && a.2.2.has b).map (·.2.1)
noncomputable def Mch.step (m : Mch) (l : List Int) (b : Nat) : List Int := m.clo (m.to l b)

def toTake (m : Mch) (l : List Int) (b i : Nat) : List Int := ((m.arcs.take i).filter fun a => decide (a.1 ∈ l) && a.2.2.has b).map (·.2.1)
theorem toTake_succ {m : Mch} {l : List Int} {b i : Nat} (h : i < m.arcs.length) : toTake m l b (i + 1) = if (decide (m.arcs[i].1 ∈ l) && m.arcs[i].2.2.has b) = true then toTake m l b i ++ [m.arcs[i].2.1] else toTake m l b i := by
  unfold toTake
  rw [List.take_add_one, List.getElem?_eq_getElem h]
  simp only [Option.toList, List.filter_append, List.map_append]
  cases q : (decide (m.arcs[i].1 ∈ l) && m.arcs[i].2.2.has b) <;> simp [q]

def StepI1 (h : Heap) (m : Mch) (l : List Int) (b : Nat) (k : Nat) (vs : List Value) (H : Heap) : Prop :=
  ∃ (i : Nat) (s : List Int), vs = [byte b, .pointer (some ⟨h.length, 0, none⟩), .map (some (h.length + 1)), ints l, .int .i64 (l.length : Int), .int .i64 (i : Int)] ∧
    H = h ++ [mrow m, .map (encE (setE s))] ∧ k = l.length - i ∧ i ≤ l.length ∧ ∀ x, x ∈ s ↔ x ∈ l.take i

def StepI2 (h : Heap) (m : Mch) (l : List Int) (b : Nat) (s : List Int) (k : Nat) (vs : List Value) (H : Heap) : Prop :=
  ∃ (i : Nat) (v : Value) (g : Heap), vs = [byte b, .pointer (some ⟨h.length, 0, none⟩), .map (some (h.length + 1)), v, lit (m.arcs.map encA), .int .i64 (m.arcs.length : Int), .int .i64 (i : Int)] ∧
    H = h ++ [mrow m, .map (encE (setE s))] ++ g ∧ k = m.arcs.length - i ∧ i ≤ m.arcs.length ∧ Acc 1 (h.length + 2) H v ((toTake m l b i).map fun x => .int .i64 x)

theorem step_spec {m : Mch} {l : List Int} {b : Nat} (hb : b < 256) (hok : m.ok) (hl : m.eps.length ≤ 1000000000) (hla : m.arcs.length ≤ 100000000) (hc : m.count ≤ 5000) (hl2 : l.length ≤ 100000000) {h : Heap} {Q : Value → Heap → Prop} (hq : Q (ints (m.step l b)) h) :
    acall Try.prog F_nfa_Step [m.enc, ints l, byte b] h Q := by
  apply W_nfa_Step_ok
  unfold W_nfa_Step
  simp [-exists_and_right]
  refine ⟨StepI1 h m l b, l.length, gcL_same ⟨0, [], by simp, by simp, by simp, by omega, by simp⟩, ?_⟩
  rintro k x9 x10 x11 x12 x13 x14 H ⟨i, s, hv, rfl, hk, hi, hs⟩
  simp only [List.cons.injEq, and_true] at hv
  obtain ⟨rfl, rfl, rfl, rfl, rfl, rfl⟩ := hv
  rw [n_lss, oW_some, bW_dec]
  have hmap : ∀ (s : List Int) (t : Heap), getMap (h ++ [mrow m, AObj.map (encE (setE s))] ++ t) (h.length + 1) = some (encE (setE s)) := fun s t => by rw [List.append_assoc, map_app]; rfl
  constructor
  · intro hlt
    have hlt' : i < l.length := by omega
    refine ix_ints hlt' ?_
    have := hmap s []
    rw [List.append_nil] at this
    rw [up_int this, sW_some, n_add (by omega), oW_some, aset_setE, set_app]
    refine ⟨l.length - (i + 1), by omega, gcL_same ⟨i + 1, if l[i] ∈ s then s else s ++ [l[i]], by simp, ?_, rfl, by omega, fun x => ?_⟩⟩
    · split <;> rfl
    · rw [List.take_add_one, List.getElem?_eq_getElem hlt']
      simp only [Option.toList, List.mem_append, ← hs x]
      split
      · rename_i hm
        constructor
        · exact .inl
        · rintro (q | q)
          · exact q
          · simp at q; subst q; exact hm
      · simp
  · intro hge
    have hil : i = l.length := by omega
    subst hil
    rw [List.take_length] at hs
    simp [-exists_and_right]
    refine ⟨StepI2 h m l b s, m.arcs.length, gcL_same ⟨0, .slice none 0 0, [], by simp, by simp, by simp, by omega, ?_⟩, ?_⟩
    · simpa [toTake] using Acc.nil
    rintro k x28 x29 x30 x31 x32 x33 x34 H ⟨i, v, g, hv, rfl, hk, hi, ac⟩
    simp only [List.cons.injEq, and_true] at hv
    obtain ⟨rfl, rfl, rfl, rfl, rfl, rfl, rfl⟩ := hv
    have hB : (h ++ [mrow m, AObj.map (encE (setE s))]).length = h.length + 2 := by simp
    have hrow : ∀ t, getRow (h ++ [mrow m, AObj.map (encE (setE s))] ++ t) h.length = some ([.int .i64 (m.count : Int), lit (m.eps.map encP), lit (m.arcs.map encA), .int .i64 m.start, .int .i64 m.stop], .exact) := fun t => by
      rw [List.append_assoc, row_app0]; rfl
    rw [n_lss, oW_some, bW_dec]
    have hlen : (toTake m l b i).length ≤ i := by
      unfold toTake
      rw [List.length_map]
      exact Nat.le_trans (List.length_filter_le _ _) (by rw [List.length_take]; omega)
    constructor
    · intro hlt
      have hlt' : i < m.arcs.length := by omega
      refine ix_lit hlt' rfl ?_
      rw [ld_plit (sz := 6) rfl, oW_some]
      have hts := toTake_succ (l := l) (b := b) hlt'
      generalize m.arcs[i] = a at hts
      generalize hH : h ++ [mrow m, AObj.map (encE (setE s))] ++ g = H at *
      have hm2 : ∀ t, getMap (H ++ t) (h.length + 1) = some (encE (setE s)) := fun t => by rw [← hH, List.append_assoc]; exact hmap s _
      simp only [stW_agg, row_app0, row_0, Option.bind_some]
      rw [if_pos (by simp), sW_some, set_app0]
      simp only [List.set_cons_zero, writeL_cons, writeL_nil, List.set_cons_succ, cellsOf_agg]
      simp [-exists_and_right, lk_int (hm2 _), aget_setE]
      rw [bW_dec]
      have fin : ∀ (v' : Value) (g' : Heap) (p : Bool), (decide (a.1 ∈ l) && a.2.2.has b) = p → Acc 1 (h.length + 2) (h ++ [mrow m, AObj.map (encE (setE s))] ++ g') v' ((if p = true then toTake m l b i ++ [a.2.1] else toTake m l b i).map fun x => .int .i64 x) →
          oW (binN .add (.int .i64 (i : Int)) (.int .i64 1)) fun v55 => ∃ m26, m26 < k ∧ gcL h (StepI2 h m l b s m26) [byte b, .pointer (some ⟨h.length, 0, none⟩), .map (some (h.length + 1)), v', lit (m.arcs.map encA), .int .i64 (m.arcs.length : Int), v55] (h ++ [mrow m, AObj.map (encE (setE s))] ++ g') := fun v' g' p hp ha => by
        rw [n_add (by omega), oW_some]
        exact ⟨m.arcs.length - (i + 1), by omega, gcL_same ⟨i + 1, v', g', by simp, rfl, rfl, by omega, by rw [hts, hp]; exact ha⟩⟩
      have eH : ∀ t : Heap, H ++ t = h ++ [mrow m, AObj.map (encE (setE s))] ++ (g ++ t) := fun t => by rw [← hH]; simp
      have ac' : ∀ t : Heap, Acc 1 (h.length + 2) (h ++ [mrow m, AObj.map (encE (setE s))] ++ (g ++ t)) x31 ((toTake m l b i).map fun x => .int .i64 x) := fun t => by rw [← eH]; exact ac.app
      constructor
      · intro hin
        have hin' : a.1 ∈ l := (hs _).1 hin
        refine bsHas_spec (s := a.2.2) hb ?_
        rw [bW_bool]
        constructor
        · intro hp
          rw [row_app0]
          show oW (some (.int .i64 a.2.1)) _
          rw [oW_some]
          rw [eH]
          refine Acc.push hB (ac' _) (by omega) int_len rfl rfl rfl rfl (by simp; omega) (by simp; omega) fun v' g' a2 _ _ _ => ?_
          exact fin v' g' true (by simp [hin', hp]) (by simpa using a2)
        · intro hp
          rw [eH]
          exact fin _ _ false (by simp [hin', hp]) (by simpa using ac' _)
      · intro hnin
        have hnin' : ¬ a.1 ∈ l := fun q => hnin ((hs _).2 q)
        rw [eH]
        exact fin _ _ false (by simp [hnin']) (by simpa using ac' _)
    · intro hge
      have hil : i = m.arcs.length := by omega
      subst hil
      have e1 : toTake m l b m.arcs.length = m.to l b := by unfold toTake Mch.to; rw [List.take_length]
      rw [e1] at ac hlen
      rw [ldW_agg, hrow, Option.bind_some, if_pos (by simp), oW_some]
      show acall Try.prog F_nfa_Close [m.enc, x31] _ _
      obtain ⟨fr, r, g', f1, f2, f3, f4, f5⟩ := ac.frz hB (by omega) int_len int_cl
      refine acall_frz f1 (args2 := [m.enc, ints (m.to l b)]) ⟨.cl ?_, f2, trivial⟩ ?_
      · exact .agg _ (by simp; exact ⟨.int _ _, Cl.lit' encP_cl, Cl.lit' encA_cl, .int _ _, .int _ _⟩)
      · refine close_spec hok.1 hl hc (by omega) (fun x hx => ?_) ?_
        · obtain ⟨a, ha, rfl⟩ := List.mem_map.1 hx
          have := (hok.2.1 a (List.mem_filter.1 ha).1).2
          unfold inR at this; omega
        · rw [List.append_assoc]
          exact gcV_end (.cl (Cl.lit' int_cl)) hq

end Go.Ax
