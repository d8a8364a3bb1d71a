/- Specs: the reference's step; machines as the reference has them; rows that are the same. -/
import Derived.Test.YthhknneomcleoaaS8
namespace Go.Ax
open Go Go.Proofs Go.RowKit

theorem Mch.cl (m : Mch) : Cl m.enc := .agg _ (by simp; exact ⟨.int _ _, Cl.lit' encP_cl, Cl.lit' encA_cl, .int _ _, .int _ _⟩)

theorem toTake_len {m : Mch} {l : List Int} {b i : Nat} : (toTake m l b i).length ≤ i := by
  unfold toTake
  rw [List.length_map]
  exact Nat.le_trans (List.length_filter_le _ _) (by rw [List.length_take]; omega)
theorem toTake_all {m : Mch} {l : List Int} {b : Nat} : toTake m l b m.arcs.length = m.to l b := by unfold toTake Mch.to; rw [List.take_length]

def RStepI (h : Heap) (m : Mch) (l : List Int) (b : Nat) (k : Nat) (vs : List Value) (H : Heap) : Prop :=
  ∃ (i : Nat) (v : Value) (g : Heap), vs = [ints l, byte b, .pointer (some ⟨h.length, 0, none⟩), v, .int .i64 (i : Int)] ∧
    H = h ++ [mrow m] ++ g ∧ k = m.arcs.length - i ∧ i ≤ m.arcs.length ∧ Acc 1 (h.length + 1) H v ((toTake m l b i).map fun x => .int .i64 x)

theorem refStep_spec {m : Mch} {l : List Int} {b : Nat} (hb : b < 256) (hok : m.ok) (hl : m.eps.length ≤ 1000000000) (hla : m.arcs.length ≤ 100000000) (hc : m.count ≤ 5000) (hl2 : l.length ≤ 100000000) {h : Heap} {Q : Value → Heap → Prop} (hq : Q (ints (m.step l b)) h) :
    acall Try.prog F_homographref06_Step [m.enc, ints l, byte b] h Q := by
  apply W_homographref06_Step_ok
  unfold W_homographref06_Step
  simp [-exists_and_right]
  refine ⟨RStepI h m l b, m.arcs.length, gcL_same ⟨0, .slice none 0 0, [], by simp, by simp, by simp, by omega, by simpa [toTake] using Acc.nil⟩, ?_⟩
  rintro k x7 x8 x9 x10 x11 H ⟨i, v, g, hv, rfl, hk, hi, ac⟩
  simp only [List.cons.injEq, and_true] at hv
  obtain ⟨rfl, rfl, rfl, rfl, rfl⟩ := hv
  have hB : (h ++ [mrow m]).length = h.length + 1 := by simp
  have hrow : ∀ t, getRow (h ++ [mrow m] ++ t) h.length = some ([.int .i64 (m.count : Int), lit (m.eps.map encP), lit (m.arcs.map encA), .int .i64 m.start, .int .i64 m.stop], .exact) := fun t => by
    rw [List.append_assoc, row_app0]; rfl
  have hlen := toTake_len (m := m) (l := l) (b := b) (i := i)
  have ld : ∀ (g : Heap) (K : Value → Prop), K (lit (m.arcs.map encA)) → oW (faW 2 1 (.pointer (some ⟨h.length, 0, none⟩))) fun v59 => oW (ldW false 1 (h ++ [mrow m] ++ g) v59) K := fun g K hK => by
    rw [fa_ptr, oW_some, ldW_one, hrow]
    exact oW_some.2 hK
  refine ld _ _ ?_
  rw [lenS_lit, oW_some, n_lss, oW_some, bW_dec]
  simp only [List.length_map]
  constructor
  · intro hlt
    have hlt' : i < m.arcs.length := by omega
    have hts := toTake_succ (l := l) (b := b) hlt'
    have fin : ∀ (v' : Value) (g' : Heap) (p : Bool), (decide (m.arcs[i].1 ∈ l) && m.arcs[i].2.2.has b) = p → Acc 1 (h.length + 1) (h ++ [mrow m] ++ g') v' ((if p = true then toTake m l b i ++ [m.arcs[i].2.1] else toTake m l b i).map fun x => .int .i64 x) →
        oW (binN .add (.int .i64 (i : Int)) (.int .i64 1)) fun v55 => ∃ m26, m26 < k ∧ gcL h (RStepI h m l b m26) [ints l, byte b, .pointer (some ⟨h.length, 0, none⟩), v', v55] (h ++ [mrow m] ++ g') := fun v' g' p hp ha => by
      rw [n_add (by omega), oW_some]
      exact ⟨m.arcs.length - (i + 1), by omega, gcL_same ⟨i + 1, v', g', by simp, rfl, rfl, by omega, by rw [hts, hp]; exact ha⟩⟩
    refine ld _ _ ?_
    refine ix_lit hlt' rfl ?_
    rw [show faW 0 1 (plit (cellsOf (encA m.arcs[i]))) = some (plit [.int .i64 m.arcs[i].1]) by rw [fa_plit (by simp)]; rfl, oW_some, ld_plit1, oW_some]
    refine has_spec (by omega) ?_
    rw [bW_dec]
    constructor
    · intro hin
      refine ld _ _ ?_
      refine ix_lit hlt' rfl ?_
      rw [show faW 2 4 (plit (cellsOf (encA m.arcs[i]))) = some (plit [w64 m.arcs[i].2.2.a, w64 m.arcs[i].2.2.b, w64 m.arcs[i].2.2.c, w64 m.arcs[i].2.2.d]) by rw [fa_plit (by simp)]; rfl, oW_some, ld_plit (sz := 4) rfl, oW_some]
      refine refHas_spec (s := m.arcs[i].2.2) hb ?_
      rw [bW_bool]
      constructor
      · intro hp
        refine ld _ _ ?_
        refine ix_lit hlt' rfl ?_
        rw [show faW 1 1 (plit (cellsOf (encA m.arcs[i]))) = some (plit [.int .i64 m.arcs[i].2.1]) by rw [fa_plit (by simp)]; rfl, oW_some, ld_plit1, oW_some]
        refine Acc.push hB ac (by omega) int_len rfl rfl rfl rfl (by simp; omega) (by simp; omega) fun v' g' a2 _ _ _ => ?_
        exact fin v' g' true (by simp [hin, hp]) (by simpa using a2)
      · intro hp
        exact fin _ _ false (by simp [hin, hp]) (by simpa using ac)
    · intro hnin
      exact fin _ _ false (by simp [hnin]) (by simpa using ac)
  · intro hge
    have hil : i = m.arcs.length := by omega
    subst hil
    rw [toTake_all] at ac hlen
    rw [ldW_agg, hrow, Option.bind_some, if_pos (by simp), oW_some]
    show acall Try.prog F_homographref06_Close [m.enc, x10] _ _
    obtain ⟨fr, r, g', f1, f2, f3, f4, f5⟩ := ac.frz hB (by omega) int_len int_cl
    refine acall_frz f1 (args2 := [m.enc, ints (m.to l b)]) ⟨.cl m.cl, f2, trivial⟩ ?_
    refine refClose_spec hok.1 hl hc (by omega) ?_
    rw [List.append_assoc]
    exact gcV_end (.cl (Cl.lit' int_cl)) hq

theorem Acc.cell {sz n : Nat} {H : Heap} {v : Value} {l : List Value} (a : Acc sz n H v l) : okVal v = true ∧ cellsOf v = [v] ∧ okCell v = true := by
  rcases a with ⟨rfl, rfl⟩ | ⟨i, cap, c, m, h1, rfl, _⟩ <;> exact ⟨rfl, rfl, rfl⟩
theorem Acc.kept {sz n : Nat} {H : Heap} {v : Value} {l : List Value} (a : Acc sz n H v l) : ∃ (ad : Option Addr) (x y : Nat), v = .slice ad x y := by
  rcases a with ⟨rfl, rfl⟩ | ⟨i, cap, c, m, h1, rfl, _⟩ <;> exact ⟨_, _, _, rfl⟩

theorem Acc.base {sz n : Nat} {B B' g : Heap} {v : Value} {l : List Value} (a : Acc sz n (B ++ g) v l) (hB : B.length = n) (hB' : B'.length = n) : Acc sz n (B' ++ g) v l :=
  a.congr fun i hi => by
    have := a.ge hi
    rw [List.getElem?_append_right (by omega), List.getElem?_append_right (by omega), hB, hB']

def PlainI (h : Heap) (m : Mch) (k : Nat) (vs : List Value) (H : Heap) : Prop :=
  ∃ (i : Nat) (v : Value) (g : Heap), vs = [.pointer (some ⟨h.length, 0, none⟩), .pointer (some ⟨h.length + 1, 0, none⟩), .pointer (some ⟨h.length + 2, 0, none⟩), .int .i64 (i : Int)] ∧
    H = h ++ [mrow m, .row [.int .i64 0, .slice none 0 0, .slice none 0 0, .int .i64 0, .int .i64 0] .exact, .row [.int .i64 (m.count : Int), lit (m.eps.map encP), v, .int .i64 m.start, .int .i64 m.stop] .exact] ++ g ∧
    k = m.arcs.length - i ∧ i ≤ m.arcs.length ∧ Acc 6 (h.length + 3) H v ((m.arcs.take i).map encA)

theorem plainL_spec {m : Mch} (hla : m.arcs.length ≤ 100000000) {h : Heap} {Q : Value → Heap → Prop} (hq : Q m.enc h) :
    acall Try.prog F_homographlaw06_plain [m.enc] h Q := by
  apply W_homographlaw06_plain_ok
  unfold W_homographlaw06_plain
  simp [-exists_and_right, Nat.add_assoc]
  refine ⟨PlainI h m, m.arcs.length, gcL_same ⟨0, .slice none 0 0, [], rfl, by rw [List.append_nil], by omega, by omega, by simpa using Acc.nil⟩, ?_⟩
  rintro k x19 x20 x21 x22 H ⟨i, v, g, hv, rfl, hk, hi, ac⟩
  simp only [List.cons.injEq, and_true] at hv
  obtain ⟨rfl, rfl, rfl, rfl⟩ := hv
  generalize hz : AObj.row [.int .i64 0, .slice none 0 0, .slice none 0 0, .int .i64 0, .int .i64 0] .exact = z at *
  generalize hw : AObj.row [.int .i64 (m.count : Int), lit (m.eps.map encP), v, .int .i64 m.start, .int .i64 m.stop] .exact = w at *
  have hB : (h ++ [mrow m, z, w]).length = h.length + 3 := by simp
  have hrow : ∀ t, getRow (h ++ [mrow m, z, w] ++ t) h.length = some ([.int .i64 (m.count : Int), lit (m.eps.map encP), lit (m.arcs.map encA), .int .i64 m.start, .int .i64 m.stop], .exact) := fun t => by
    rw [List.append_assoc, row_app0]; rfl
  have hroww : ∀ t, getRow (h ++ [mrow m, z, w] ++ t) (h.length + 2) = some ([.int .i64 (m.count : Int), lit (m.eps.map encP), v, .int .i64 m.start, .int .i64 m.stop], .exact) := fun t => by
    rw [List.append_assoc, row_app, ← hw]; rfl
  have hrowz : ∀ t, getRow (h ++ [mrow m, z, w] ++ t) (h.length + 1) = some ([.int .i64 0, .slice none 0 0, .slice none 0 0, .int .i64 0, .int .i64 0], .exact) := fun t => by
    rw [List.append_assoc, row_app, ← hz]; rfl
  have ld : ∀ (g : Heap) (K : Value → Value → Prop), K (.pointer (some ⟨h.length, 0 + 2, none⟩)) (lit (m.arcs.map encA)) → oW (faW 2 1 (.pointer (some ⟨h.length, 0, none⟩))) fun v59 => oW (ldW false 1 (h ++ [mrow m, z, w] ++ g) v59) (K v59) := fun g K hK => by
    rw [fa_ptr, oW_some, ldW_one, hrow]
    exact oW_some.2 hK
  refine ld _ _ ?_
  rw [lenS_lit, oW_some, n_lss, oW_some, bW_dec]
  simp only [List.length_map]
  constructor
  · intro hlt
    have hlt' : i < m.arcs.length := by omega
    have htk : m.arcs.take (i + 1) = m.arcs.take i ++ [m.arcs[i]] := by rw [List.take_add_one, List.getElem?_eq_getElem hlt']; rfl
    rw [fa_ptr, oW_some, ldW_one, hroww]
    show oW (some v) _
    rw [oW_some]
    refine ld _ _ ?_
    refine ix_lit hlt' rfl ?_
    rw [show faW 0 1 (plit (cellsOf (encA m.arcs[i]))) = some (plit [.int .i64 m.arcs[i].1]) by rw [fa_plit (by simp)]; rfl, oW_some, ld_plit1, oW_some]
    refine ld _ _ ?_
    refine ix_lit hlt' rfl ?_
    rw [show faW 1 1 (plit (cellsOf (encA m.arcs[i]))) = some (plit [.int .i64 m.arcs[i].2.1]) by rw [fa_plit (by simp)]; rfl, oW_some, ld_plit1, oW_some]
    refine ld _ _ ?_
    refine ix_lit hlt' rfl ?_
    rw [show faW 2 4 (plit (cellsOf (encA m.arcs[i]))) = some (plit [w64 m.arcs[i].2.2.a, w64 m.arcs[i].2.2.b, w64 m.arcs[i].2.2.c, w64 m.arcs[i].2.2.d]) by rw [fa_plit (by simp)]; rfl, oW_some, ld_plit (sz := 4) rfl, oW_some]
    simp [-exists_and_right]
    refine bsl1 (sz := 6) rfl rfl rfl ?_
    have e0 : h ++ mrow m :: z :: w :: g ++ [AObj.row (cellsOf (encA m.arcs[i])) .exact] = h ++ [mrow m, z, w] ++ (g ++ [AObj.row (cellsOf (encA m.arcs[i])) .exact]) := by simp
    refine ⟨⟨by rw [e0]; simp, by rw [e0]; simp⟩, ?_⟩
    have hsrc := src1 (H := h ++ mrow m :: z :: w :: g) (e := encA m.arcs[i]) (sz := 6) rfl
    rw [e0] at hsrc ⊢
    have ac0 := ac.app (t := [AObj.row (cellsOf (encA m.arcs[i])) .exact])
    rw [List.append_assoc] at ac0
    refine Acc.more hB ac0 (by omega) encA_len (es := [encA m.arcs[i]]) (encA_len (l := [_])) (by simp) hsrc (by simp; omega) (by simp; omega) fun v' g' a2 _ _ _ => ⟨by simp, ?_⟩
    rw [st1 (hroww _) (by simp) a2.cell.1 a2.cell.2.1 a2.cell.2.2 (by simp), sW_some, n_add (by omega), oW_some, List.append_assoc, set_app]
    refine ⟨m.arcs.length - (i + 1), by omega, gcL_same ⟨i + 1, v', g', by simp, by simp [hz, ← hw], rfl, by omega, ?_⟩⟩
    rw [htk, List.map_append]
    have := a2.base (B' := h ++ [mrow m, z, AObj.row [Value.int IntKind.i64 ↑m.count, lit (List.map encP m.eps), v', Value.int IntKind.i64 m.start, Value.int IntKind.i64 m.stop] .exact]) hB (by simp)
    simpa using this
  · intro hge
    have hil : i = m.arcs.length := by omega
    subst hil
    rw [List.take_length] at ac
    rw [ldW_agg, hroww, Option.bind_some, if_pos (by simp [ac.cell.2.2]), oW_some]
    simp only [List.drop_zero, List.take_succ_cons, List.take_zero, stW_agg]
    rw [hrowz, Option.bind_some, if_pos (by simp [ac.cell.2.2]), sW_some]
    have e1 : ∀ o, (h ++ [mrow m, z, w] ++ g).set (h.length + 1) o = h ++ ([mrow m, o, w] ++ g) := fun o => by rw [List.append_assoc, set_app]; rfl
    rw [e1]
    have e2 : ∀ o, (h ++ [mrow m, o, w]).length = h.length + 3 := by simp
    simp only [ldP_agg]
    rw [row_app]
    have a3 := ac.base hB (e2 (AObj.row [Value.int IntKind.i64 ↑m.count, lit (List.map encP m.eps), v, Value.int IntKind.i64 m.start, Value.int IntKind.i64 m.stop] .exact))
    simp [-exists_and_right]
    refine gcV_end ?_ hq
    refine Gv.aggL (xs := [_, _, _, _, _]) ⟨.cl (.int _ _), .cl (Cl.lit' encP_cl), ?_, .cl (.int _ _), .cl (.int _ _), trivial⟩
    simp only [List.append_assoc, List.cons_append, List.nil_append] at a3
    exact a3.gv (fun i hi => ⟨by have := a3.ge hi; omega, by simp⟩) (by omega) encA_len encA_cl

theorem same_spec {a b : List Int} (ha : a.length ≤ 1000000000) (hb : b.length ≤ 1000000000) {h : Heap} {Q : Value → Heap → Prop} (hq : Q (.bool (decide (a = b))) h) : acall Try.prog F_homographref04_Same [ints a, ints b] h Q := by
  apply W_homographref04_Same_ok
  unfold W_homographref04_Same
  rw [lenS_lit, oW_some, lenS_lit, oW_some, n_neq, oW_some, bW_dec]
  simp only [List.length_map]
  constructor
  · intro hne
    rw [decide_eq_false (fun e => hne (by rw [e]))] at hq
    exact gcV_same hq
  · intro heq
    have hl : a.length = b.length := by omega
    refine ⟨fun k vs g => ∃ i : Nat, vs = [ints a, ints b, .int .i64 (i : Int)] ∧ g = h ∧ k = a.length - i ∧ i ≤ a.length ∧ a.take i = b.take i, a.length, gcL_same ⟨0, by simp⟩, ?_⟩
    rintro k x8 x9 x10 g ⟨i, hv, rfl, hk, hi, hno⟩
    simp only [List.cons.injEq, and_true] at hv
    obtain ⟨rfl, rfl, rfl⟩ := hv
    rw [lenS_lit, oW_some, n_lss, oW_some, bW_dec]
    simp only [List.length_map]
    constructor
    · intro hlt
      have h1 : i < a.length := by omega
      have h2 : i < b.length := by omega
      refine ix_ints h1 ?_
      refine ix_ints h2 ?_
      rw [n_neq, oW_some, bW_dec]
      constructor
      · intro hne
        rw [decide_eq_false (fun e => hne (by subst e; rfl))] at hq
        exact gcV_same hq
      · intro he
        rw [n_add (by omega), oW_some]
        refine ⟨a.length - (i + 1), by omega, gcL_same ⟨i + 1, by simp, rfl, rfl, by omega, ?_⟩⟩
        rw [List.take_add_one, List.take_add_one, hno, List.getElem?_eq_getElem h1, List.getElem?_eq_getElem h2, Decidable.not_not.1 he]
    · intro hge
      rw [List.take_of_length_le (by omega), List.take_of_length_le (by omega)] at hno
      rw [decide_eq_true hno] at hq
      exact gcV_same hq

end Go.Ax
