/- Specs: slices.Clone; nfa.Close. -/
import Derived.Test.YthhknneomcleoaaS3
namespace Go.Ax
open Go Go.Proofs Go.RowKit

theorem src_lit {H : Heap} {sz : Nat} {es : List Value} (hz : ∀ x ∈ es, (cellsOf x).length = sz) : srcA H sz (lit es) = some (es.length, es.flatMap cellsOf) := by
  simp only [srcA, List.size_toArray]
  rw [if_pos (by simpa using hz)]
theorem src_nil {H : Heap} {sz : Nat} : srcA H sz (.slice none 0 0) = some (0, []) := rfl
theorem src_emp {H : Heap} {sz : Nat} : srcA H sz emp = some (0, []) := rfl
theorem src_acc {sz n : Nat} {H : Heap} {v : Value} {l : List Value} (a : Acc sz n H v l) : srcA H sz v = some (l.length, l.flatMap cellsOf) := by
  rcases a with ⟨rfl, rfl⟩ | ⟨i, cap, c, m, h1, rfl, h3, h4, h5, h6, h7⟩
  · rfl
  · have := Nat.mul_le_mul_right sz h6
    simp only [srcA, h3]
    rw [if_pos (by omega), List.drop_zero, h7]

/-- slices.Clone of ints: a slice of its own. -/
theorem clone_spec {B g : Heap} {l : List Int} {Q : Value → Heap → Prop} (hl : l.length ≤ 1000000000)
    (hq : ∀ v t, Acc 1 (B ++ g).length (B ++ g ++ t) v (l.map fun x => .int .i64 x) → Q v (B ++ g ++ t)) : acall Try.prog F_slices_Clone_int_int [ints l] (B ++ g) Q := by
  have main : ∀ (x : Value) (l : List Int), nilS_ x (.slice none 0 0) = some false → srcA (B ++ g ++ [.row [] .exact]) 1 x = some ((l.map fun x => Value.int .i64 x).length, (l.map fun x => Value.int .i64 x).flatMap cellsOf) → l.length ≤ 1000000000 →
      (∀ v t, Acc 1 (B ++ g).length (B ++ g ++ t) v (l.map fun x => .int .i64 x) → Q v (B ++ g ++ t)) → acall Try.prog F_slices_Clone_int_int [x] (B ++ g) Q := fun x l hx hs hl hq => by
    apply W_slices_Clone_int_int_ok
    unfold W_slices_Clone_int_int
    rw [hx, eqW_some, oW_some, bW_false]
    refine ⟨_, _, by simp only [bslW, fillL, Option.map_some]; rfl, ?_⟩
    have a0 : Acc 1 (B ++ g).length (B ++ g ++ [.row [] .exact]) (.slice (some ⟨(B ++ g).length, 0, none⟩) 0 0) [] := Acc.made (l := []) (by simp) (Nat.le_refl _)
    refine Acc.more (B := B ++ g) rfl a0 (by omega) (fun x hx => by cases hx) int_len int_ok hs (by simp only [List.length_map, List.length_nil]; omega) (by simp only [List.length_map, List.length_nil]; omega) fun v' g' a' _ _ _ => gcV_same (hq v' g' a')
  cases l with
  | nil =>
    refine acall_lit0 (a := []) (b := []) ?_ (main emp [] rfl rfl (by simp) hq)
    apply W_slices_Clone_int_int_ok
    unfold W_slices_Clone_int_int
    simp
    exact gcV_same (by simpa using hq (.slice none 0 0) [] Acc.nil)
  | cons x l => exact main (ints (x :: l)) (x :: l) rfl (src_lit int_len) hl hq

/-- nfa.Close's own test: is a state none of the machine's? -/
theorem closeTest_spec {B : Heap} {i : Nat} {c : List Value} {n : Nat} (hi : getRow B i = some (c, .exact)) (hc : c[0]? = some (.int .i64 (n : Int))) :
    Tells B (.func (.func F_nfa_Close_D1) #[] #[.pointer (some ⟨i, 0, none⟩)]) (fun x => !decide (inR n x)) := by
  intro x g K _ hk
  rw [callW_known]
  simp only [List.nil_append, List.cons_append]
  refine W_nfa_Close_D1_ok ?_
  unfold W_nfa_Close_D1
  rw [n_lss, oW_some, bW_dec]
  have fin : ∀ b : Bool, b = (!decide (inR n x)) → gcV (B ++ g) K (.bool b) (B ++ g) := fun b hb => gcV_same (by rw [hb]; exact hk g (fun _ _ => rfl) (Nat.le_refl _))
  constructor
  · intro h
    exact fin true (by rw [decide_eq_false (by unfold inR; omega)]; rfl)
  · intro h
    simp [getRow_app hi, hc]
    refine fin _ ?_
    by_cases q : (n : Int) ≤ x
    · rw [decide_eq_true q, decide_eq_false (by unfold inR; omega)]; rfl
    · rw [decide_eq_false q, decide_eq_true (by unfold inR; omega)]; rfl

theorem outs_append {eps : List (Int × Int)} {p : Int × Int} {k : Int} : outs (eps ++ [p]) k = if k = p.1 then outs eps k ++ [p.2] else outs eps k := by
  unfold outs
  rw [List.filter_append, List.map_append]
  by_cases h : k = p.1
  · rw [if_pos h]; simp [h]
  · rw [if_neg h]; simp [Ne.symm h]
theorem mem_outs {eps : List (Int × Int)} {k x : Int} : x ∈ outs eps k ↔ (k, x) ∈ eps := by
  unfold outs
  rw [List.mem_map]
  constructor
  · rintro ⟨p, hp, rfl⟩
    rw [List.mem_filter] at hp
    have : p.1 = k := by simpa using hp.2
    rw [← this]; exact hp.1
  · intro h; exact ⟨(k, x), by simp [List.mem_filter, h], rfl⟩
theorem outs_len {eps : List (Int × Int)} {k : Int} : (outs eps k).length ≤ eps.length := by
  unfold outs
  rw [List.length_map]; exact List.length_filter_le _ _

theorem encP_len {l : List (Int × Int)} : ∀ x ∈ l.map encP, (cellsOf x).length = 2 := fun x hx => by
  obtain ⟨n, _, rfl⟩ := List.mem_map.1 hx; rfl
theorem encA_len {l : List (Int × Int × BS)} : ∀ x ∈ l.map encA, (cellsOf x).length = 6 := fun x hx => by
  obtain ⟨n, _, rfl⟩ := List.mem_map.1 hx; rfl

theorem Mch.row0 {m : Mch} {H t : Heap} : getRow (H ++ (.row m.enc.cells.toList .exact :: t)) H.length = some ([.int .i64 (m.count : Int), lit (m.eps.map encP), lit (m.arcs.map encA), .int .i64 m.start, .int .i64 m.stop], .exact) := by simp [Value.cells]

abbrev mrow (m : Mch) : AObj := .row [.int .i64 (m.count : Int), lit (m.eps.map encP), lit (m.arcs.map encA), .int .i64 m.start, .int .i64 m.stop] .exact

theorem ToOk.step {n : Nat} {H H' : Heap} {E : List (Int × Value)} {f : Int → List Int} {k x : Int} {v : Value} (to : ToOk n H E f) (a : Acc 1 n H' v ((f k ++ [x]).map fun x => .int .i64 x))
    (fr : ∀ j, n ≤ j → j < H.length → ¬ lies ((aget E k).getD (.slice none 0 0)) j → H'[j]? = H[j]?) (ls : ∀ j, lies v j → lies ((aget E k).getD (.slice none 0 0)) j ∨ H.length ≤ j) :
    ToOk n H' (aset E k v) (fun q => if q = k then f k ++ [x] else f q) := by
  have get : ∀ q, (aget (aset E k v) q).getD (.slice none 0 0) = if q = k then v else (aget E q).getD (.slice none 0 0) := fun q => by
    rw [aget_aset]; split <;> rfl
  have old : ∀ q, q ≠ k → Acc 1 n H' ((aget E q).getD (.slice none 0 0)) ((f q).map fun x => .int .i64 x) := fun q hq =>
    (to.acc q).congr fun j hj => fr j ((to.acc q).ge hj) ((to.acc q).lt hj) fun hk => to.apart q k hq j hj hk
  refine ⟨fun q => ?_, fun q q' hne j hj hj' => ?_⟩
  · rw [get]
    by_cases hq : q = k
    · rw [if_pos hq, if_pos hq]; exact a
    · rw [if_neg hq, if_neg hq]; exact old q hq
  · rw [get] at hj hj'
    by_cases hq : q = k
    · rw [if_pos hq] at hj
      have hq' : q' ≠ k := fun e => hne (hq.trans e.symm)
      rw [if_neg hq'] at hj'
      rcases ls j hj with r | r
      · exact to.apart k q' (Ne.symm hq') j r hj'
      · have := (to.acc q').lt hj'; omega
    · rw [if_neg hq] at hj
      by_cases hq' : q' = k
      · rw [if_pos hq'] at hj'
        rcases ls j hj' with r | r
        · exact to.apart q k hq j hj r
        · have := (to.acc q).lt hj; omega
      · rw [if_neg hq'] at hj'; exact to.apart q q' hne j hj hj'

theorem last_split {l : List Int} (h : l.length - 1 < l.length) : l = l.take (l.length - 1) ++ [l[l.length - 1]] := by
  have h1 : l.take (l.length - 1 + 1) = l := List.take_of_length_le (by omega)
  rw [List.take_add_one, List.getElem?_eq_getElem h] at h1
  exact h1.symm
theorem setE_keys {s : List Int} : (setE s).map (·.1) = s := by
  rw [List.map_map]
  exact (List.map_congr_left (g := id) fun _ _ => rfl).trans (List.map_id _)

theorem nodup_le : ∀ (n : Nat) {l : List Int}, l.Nodup → (∀ x ∈ l, inR n x) → l.length ≤ n
  | 0, l, _, h => by
    cases l with
    | nil => simp
    | cons x l => have := h x (by simp); unfold inR at this; omega
  | n + 1, l, hn, h => by
    by_cases hm : (n : Int) ∈ l
    · have h1 := nodup_le n (hn.erase (n : Int)) fun x hx => by
        have h2 := h x (List.mem_of_mem_erase hx)
        have h3 : x ≠ n := fun e => by subst e; exact absurd hx (by rw [hn.mem_erase_iff]; simp)
        unfold inR at *; omega
      rw [List.length_erase_of_mem hm] at h1; omega
    · have h1 := nodup_le n hn fun x hx => by
        have h2 := h x hx
        have h3 : x ≠ n := fun e => by subst e; exact hm hx
        unfold inR at *; omega
      omega

def CloseI2 (C : Heap) (j : Nat) (m : Mch) (l : List Int) (k : Nat) (vs : List Value) (H : Heap) : Prop :=
  ∃ (seen stack : List Int) (v : Value) (g : Heap), vs = [.map (some j), .map (some C.length), v] ∧ H = C ++ [AObj.map (encE (setE seen))] ++ g ∧ Acc 1 (C.length + 1) H v (stack.map fun x => .int .i64 x) ∧ seen.Nodup ∧
    (∀ x, x ∈ seen ∨ x ∈ stack → inR m.count x ∧ EReach m.eps (fun x => x ∈ l ∧ inR m.count x) x) ∧ (∀ x, x ∈ l → inR m.count x → x ∈ seen ∨ x ∈ stack) ∧ (∀ x y, x ∈ seen → (x, y) ∈ m.eps → y ∈ seen ∨ y ∈ stack) ∧
    k = stack.length + (m.count - seen.length) * (m.eps.length + 1) ∧ k ≤ l.length + m.count * (m.eps.length + 1)

def CloseI1 (h : Heap) (m : Mch) (l : List Int) (k : Nat) (vs : List Value) (H : Heap) : Prop :=
  ∃ (i : Nat) (g : Heap) (E : List (Int × Value)), vs = [ints l, .pointer (some ⟨h.length, 0, none⟩), .map (some (h.length + 1)), lit (m.eps.map encP), .int .i64 (m.eps.length : Int), .int .i64 (i : Int)] ∧
    H = h ++ mrow m :: .map (encE E) :: g ∧ k = m.eps.length - i ∧ i ≤ m.eps.length ∧ ToOk (h.length + 2) H E (outs (m.eps.take i))

theorem close_spec {m : Mch} {l : List Int} (hok : ∀ p ∈ m.eps, inR m.count p.1 ∧ inR m.count p.2) (hl : m.eps.length ≤ 1000000000) (hc : m.count ≤ 5000) (hl2 : l.length ≤ 100000000) (hi2 : ∀ x ∈ l, inI x) {h : Heap} {Q : Value → Heap → Prop} (hq : Q (ints (m.clo l)) h) :
    acall Try.prog F_nfa_Close [m.enc, ints l] h Q := by
  apply W_nfa_Close_ok
  unfold W_nfa_Close
  simp [-exists_and_right]
  refine ⟨CloseI1 h m l, m.eps.length, gcL_same ⟨0, [], [], by simp, by simp, rfl, by omega, ?_⟩, ?_⟩
  · exact ⟨fun k => by simpa [outs, aget] using Acc.nil, fun k k' _ j hj => by obtain ⟨o, a, b, e⟩ := hj; cases e⟩
  rintro k x11 x12 x13 x14 x15 x16 H ⟨i, g, E, hv, rfl, hk, hi, to⟩
  simp only [List.cons.injEq, and_true] at hv
  obtain ⟨rfl, rfl, rfl, rfl, rfl, rfl⟩ := hv
  have eB : ∀ (E : List (Int × Value)) (t : Heap), h ++ mrow m :: AObj.map (encE E) :: t = (h ++ [mrow m, AObj.map (encE E)]) ++ t := fun E t => by simp
  have hB : ∀ E : List (Int × Value), (h ++ [mrow m, AObj.map (encE E)]).length = h.length + 2 := fun E => by simp
  have hmap : ∀ (E : List (Int × Value)) (t : Heap), getMap (h ++ mrow m :: AObj.map (encE E) :: t) (h.length + 1) = some (encE E) := fun E t => by rw [map_app]; rfl
  rw [n_lss, oW_some, bW_dec]
  constructor
  · intro hlt
    have hlt' : i < m.eps.length := by omega
    refine ix_lit hlt' rfl ?_
    rw [ld_plit (sz := 2) rfl, oW_some]
    have htk : outs (m.eps.take (i + 1)) = fun q => if q = m.eps[i].1 then outs (m.eps.take i) m.eps[i].1 ++ [m.eps[i].2] else outs (m.eps.take i) q := by
      funext q
      rw [List.take_add_one, List.getElem?_eq_getElem hlt']
      show outs (m.eps.take i ++ [m.eps[i]]) q = _
      rw [outs_append]
      split
      · rename_i e; rw [e]
      · rfl
    generalize m.eps[i] = p at htk
    simp [-exists_and_right, iaA]
    rw [lk_int (hmap _ _), oW_some]
    have a0 := to.acc p.1
    have hv27 : (aget E p.1).getD (.slice none 0 0) = (aget E p.1).getD (.slice none 0 0) := rfl
    generalize hrow : AObj.row [Value.int .i64 p.1, Value.int .i64 p.2] .exact = rp
    rw [eB]
    have hb0 : (outs (m.eps.take i) p.1).length ≤ m.eps.length := Nat.le_trans outs_len (by rw [List.length_take]; omega)
    rw [eB] at a0
    refine bsl1 rfl rfl rfl ?_
    have hlen : (h ++ [mrow m, AObj.map (encE E)] ++ (g ++ [rp])).length = h.length + (g.length + 1 + 1 + 1) := by simp
    have hget : ∀ t : Heap, (h ++ [mrow m, AObj.map (encE E)] ++ (g ++ [rp]) ++ t)[h.length + (g.length + 1 + 1)]? = some rp := fun t => by
      rw [List.getElem?_append_left (by omega)]
      simp
    have hget2 : ∀ t : Heap, (h ++ [mrow m, AObj.map (encE E)] ++ (g ++ [rp]) ++ t)[h.length + 1]? = some (.map (encE E)) := fun t => by
      rw [List.getElem?_append_left (by omega)]
      simp
    refine ⟨by simp only [hget, hget2, and_self], ?_⟩
    have hsrc := src1 (sz := 1) (H := h ++ [mrow m, AObj.map (encE E)] ++ (g ++ [rp])) (e := .int .i64 p.2) rfl
    have a1 : Acc 1 (h.length + 2) (h ++ [mrow m, AObj.map (encE E)] ++ (g ++ [rp]) ++ [AObj.row (cellsOf (Value.int .i64 p.2)) .exact]) ((aget E p.1).getD (.slice none 0 0)) ((outs (m.eps.take i) p.1).map fun x => .int .i64 x) := by
      rw [← List.append_assoc]; exact a0.app.app
    rw [List.append_assoc (h ++ [mrow m, AObj.map (encE E)])] at a1 hsrc ⊢
    refine Acc.more (hB E) a1 (by omega) int_len (es := [.int .i64 p.2]) (by simp) (by simp) hsrc (by simp; omega) (by simp; omega) fun v32 g' a2 f1 f2 f3 => ?_
    have hfr : ∀ j, j < h.length + (g.length + 1 + 1 + 1) → ¬ lies ((aget E p.1).getD (.slice none 0 0)) j → (h ++ [mrow m, AObj.map (encE E)] ++ g')[j]? = (h ++ [mrow m, AObj.map (encE E)] ++ (g ++ [rp] ++ [AObj.row (cellsOf (Value.int .i64 p.2)) .exact]))[j]? := fun j hj hn => f1 j (by simp at hlen ⊢; omega) hn
    have nl1 : ¬ lies ((aget E p.1).getD (.slice none 0 0)) (h.length + (g.length + 1 + 1)) := fun q => by
      have h1 := a0.lt q
      simp at h1
    refine ⟨hfr _ (by omega) nl1, ?_⟩
    rw [← eB, up_int (hmap E g'), sW_some, n_add (by omega), oW_some]
    have hset : (h ++ mrow m :: AObj.map (encE E) :: g').set (h.length + 1) (.map (encE (aset E p.1 v32))) = h ++ mrow m :: AObj.map (encE (aset E p.1 v32)) :: g' := by rw [set_app]; rfl
    rw [hset]
    refine ⟨m.eps.length - (i + 1), by omega, gcL_same ⟨i + 1, g', aset E p.1 v32, by simp, rfl, rfl, by omega, ?_⟩⟩
    rw [htk]
    rw [eB] at to
    have same : ∀ j, h.length + 2 ≤ j → (h ++ mrow m :: AObj.map (encE (aset E p.1 v32)) :: g')[j]? = (h ++ [mrow m, AObj.map (encE E)] ++ g')[j]? := fun j hj => by
      rw [eB, List.getElem?_append_right (by rw [hB]; exact hj), List.getElem?_append_right (by rw [hB]; exact hj), hB, hB]
    refine to.step (v := v32) ?_ (fun j h1 h2 hn => ?_) fun j hj => ?_
    · refine Acc.congr ?_ fun j hj => same j ?_
      · simpa using a2
      · exact a2.ge hj
    · rw [same j h1, f1 j (by simp at h2 ⊢; omega) hn, ← List.append_assoc, ← List.append_assoc, List.append_assoc _ [rp], List.getElem?_append_left h2]
    · exact (f2 j hj).imp id fun q => by simp at q ⊢; omega
  · intro hge
    have hi' : i = m.eps.length := by omega
    subst hi'
    rw [List.take_length] at to
    generalize hB1 : h ++ mrow m :: AObj.map (encE E) :: g ++ [AObj.map []] = B1
    have hB1l : B1.length = h.length + (g.length + 1 + 1 + 1) := by rw [← hB1]; simp
    have hlen : (h ++ mrow m :: AObj.map (encE E) :: g).length = h.length + (g.length + 1 + 1) := by simp
    have hseen : getMap B1 (h ++ mrow m :: AObj.map (encE E) :: g).length = some (encE (setE [])) := by rw [← hB1, map_app0]; rfl
    have hmap1 : getMap B1 (h.length + 1) = some (encE E) := by rw [← hB1]; exact getMap_app (hmap E g)
    have hrow1 : getRow B1 h.length = some ([.int .i64 (m.count : Int), lit (m.eps.map encP), lit (m.arcs.map encA), .int .i64 m.start, .int .i64 m.stop], .exact) := by
      rw [← hB1]; exact getRow_app row_app0
    have to1 : ToOk (h.length + 2) B1 E (outs m.eps) := ⟨fun k => by rw [← hB1]; exact (to.acc k).app, to.apart⟩
    have e0 : ∀ t : Heap, B1 ++ [] ++ t = B1 ++ t := fun t => by simp
    rw [← List.append_nil B1]
    refine clone_spec (by omega) fun v t a => ?_
    rw [List.append_nil] at a ⊢
    have ht := closeTest_spec (n := m.count) hrow1 rfl
    refine deleteFunc_spec (B := B1) rfl ht a (by omega) hi2 fun v' g1 a1 => ?_
    generalize hC : h ++ mrow m :: AObj.map (encE E) :: g = C at *
    subst hB1
    refine ⟨CloseI2 C (h.length + 1) m l, _, gcL_same ⟨[], l.filter fun x => !!decide (inR m.count x), v', g1, rfl, rfl, a1.low (by simp), by simp, ?_, ?_, ?_, rfl, ?_⟩, ?_⟩
    · intro x hx
      have hx' : x ∈ l ∧ inR m.count x := by simpa using hx
      exact ⟨hx'.2, .base hx'⟩
    · intro x h1 h2; right; simp [h1, h2]
    · intro x y h1; simp at h1
    · have := List.length_filter_le (fun x => !!decide (inR m.count x)) l
      simp only [List.length_nil, Nat.sub_zero]
      omega
    rintro k x45 x46 x47 H ⟨seen, stack, v, g2, hv, rfl, ac, hn, h1, h2, h3, hk, hk2⟩
    simp only [List.cons.injEq, and_true] at hv
    obtain ⟨rfl, rfl, rfl⟩ := hv
    rw [ac.len, oW_some, n_gtr, oW_some, bW_dec]
    simp only [List.length_map]
    have hseen : ∀ t, getMap (C ++ [AObj.map (encE (setE seen))] ++ t) C.length = some (encE (setE seen)) := fun t => by rw [List.append_assoc, map_app0]; rfl
    have hCB : (C ++ [AObj.map (encE (setE seen))]).length = C.length + 1 := by simp
    constructor
    · intro hpos
      have hsl : stack.length - 1 < stack.length := by omega
      have hcast : (stack.length : Int) - 1 = ((stack.length - 1 : Nat) : Int) := by omega
      have hsb : stack.length ≤ 100000000 + 5000 * 1000000001 := by
        have := Nat.mul_le_mul hc (show m.eps.length + 1 ≤ 1000000001 by omega)
        omega
      rw [oW_some, n_sub (by omega), oW_some, hcast]
      refine ac.at_ (by omega) int_len (by simpa using hsl) (fun q => by cases q) (fun _ => by simp) ?_
      simp only [List.getElem_map]
      rw [oW_some, n_sub (by omega), oW_some, hcast]
      refine ac.pop (by omega) int_len (by simp) fun v1 ac1 hl1 => ?_
      have hx := h1 stack[stack.length - 1] (.inr (by simp))
      have hst : stack = stack.take (stack.length - 1) ++ [stack[stack.length - 1]] := last_split hsl
      rw [← List.map_take] at ac1
      generalize stack[stack.length - 1] = x at hx hst ⊢
      generalize stack.take (stack.length - 1) = st at hst ac1
      subst hst
      rw [lk_int (hseen g2), oW_some, aget_setE, u_not, oW_some, bW_bool]
      have hEx : m.eps.length + 1 ≤ 1000000001 := by omega
      constructor
      · intro hnew
        have hnew' : x ∉ seen := by simpa using hnew
        rw [up_int (hseen g2), sW_some, aset_setE, if_neg hnew']
        have hset : (C ++ [AObj.map (encE (setE seen))] ++ g2).set C.length (.map (encE (setE (seen ++ [x])))) = C ++ [AObj.map (encE (setE (seen ++ [x])))] ++ g2 := by
          rw [List.append_assoc, set_app0, List.append_assoc]; rfl
        rw [hset]
        have hmapC : ∀ t : Heap, getMap (C ++ t) (h.length + 1) = some (encE E) := fun t => getMap_app (by rw [← hC]; exact hmap E g)
        rw [List.append_assoc C, lk_int (hmapC _), oW_some, ← List.append_assoc C]
        have hn' : (seen ++ [x]).Nodup := by
          rw [List.nodup_append]
          exact ⟨hn, by simp, fun a ha b hb e => by simp at hb; subst hb; subst e; exact hnew' ha⟩
        have hcnt := nodup_le m.count hn' fun y hy => by
          rcases List.mem_append.1 hy with r | r
          · exact (h1 y (.inl r)).1
          · simp at r; subst r; exact hx.1
        simp only [List.length_append, List.length_cons, List.length_nil] at hcnt hk
        have ac2 : Acc 1 (C.length + 1) (C ++ [AObj.map (encE (setE (seen ++ [x])))] ++ g2) v1 (st.map fun x => .int .i64 x) := ac1.congr fun j hj => by
          have := ac1.ge hj
          rw [List.getElem?_append_right (by simp; omega), List.getElem?_append_right (by simp; omega)]
          simp
        have asrc : Acc 1 (h.length + 2) (C ++ [AObj.map (encE (setE (seen ++ [x])))] ++ g2) ((aget E x).getD (.slice none 0 0)) ((outs m.eps x).map fun x => .int .i64 x) := (to.acc x).app.app
        have hol : (outs m.eps x).length ≤ m.eps.length := outs_len
        have hmul : (m.count - seen.length) * (m.eps.length + 1) = (m.count - (seen.length + 1)) * (m.eps.length + 1) + (m.eps.length + 1) := by
          rw [show m.count - seen.length = (m.count - (seen.length + 1)) + 1 by omega, Nat.succ_mul]
        refine Acc.more (by simp) ac2 (by omega) int_len int_len int_ok (src_acc asrc) (by simp only [List.length_map]; simp only [List.length_append, List.length_cons, List.length_nil] at hsb; omega) (by simp only [List.length_map]; simp only [List.length_append, List.length_cons, List.length_nil] at hsb; omega) fun v2 g3 ac3 _ _ _ => ?_
        refine ⟨(st ++ outs m.eps x).length + (m.count - (seen ++ [x]).length) * (m.eps.length + 1), by simp only [List.length_append, List.length_cons, List.length_nil, Nat.zero_add]; omega, gcL_same ⟨seen ++ [x], st ++ outs m.eps x, v2, g3, rfl, rfl, by rw [List.map_append]; exact ac3, hn', fun y hy => ?_, fun y q1 q2 => ?_, fun y z q1 q2 => ?_, rfl, by simp only [List.length_append, List.length_cons, List.length_nil, Nat.zero_add]; omega⟩⟩
        · rcases hy with r | r
          · rcases List.mem_append.1 r with r | r
            · exact h1 y (.inl r)
            · simp at r; subst r; exact hx
          · rcases List.mem_append.1 r with r | r
            · exact h1 y (.inr (by simp [r]))
            · have he := mem_outs.1 r
              exact ⟨(hok _ he).2, .step hx.2 he⟩
        · rcases h2 y q1 q2 with r | r
          · exact .inl (by simp [r])
          · rcases List.mem_append.1 r with r | r
            · exact .inr (by simp [r])
            · simp at r; subst r; exact .inl (by simp)
        · rcases List.mem_append.1 q1 with r | r
          · rcases h3 y z r q2 with r | r
            · exact .inl (by simp [r])
            · rcases List.mem_append.1 r with r | r
              · exact .inr (by simp [r])
              · simp at r; subst r; exact .inl (by simp)
          · simp at r; subst r
            exact .inr (List.mem_append.2 (.inr (mem_outs.2 q2)))
      · intro hold
        have hold' : x ∈ seen := by simpa using hold
        refine ⟨st.length + (m.count - seen.length) * (m.eps.length + 1), by simp at hk; omega, gcL_same ⟨seen, st, v1, g2, rfl, rfl, ac1, hn, fun y hy => h1 y (hy.imp id fun q => by simp [q]), fun y q1 q2 => ?_, fun y z q1 q2 => ?_, rfl, by simp at hk; omega⟩⟩
        · rcases h2 y q1 q2 with r | r
          · exact .inl r
          · rcases List.mem_append.1 r with r | r
            · exact .inr r
            · simp at r; subst r; exact .inl hold'
        · rcases h3 y z q1 q2 with r | r
          · exact .inl r
          · rcases List.mem_append.1 r with r | r
            · exact .inr r
            · simp at r; subst r; exact .inl hold'
    · intro hz
      have : stack = [] := List.length_eq_zero_iff.1 (by omega)
      subst this
      have hcl : ∀ x, x ∈ seen ↔ x ∈ m.clo l := fun x => by
        rw [Mch.mem_clo]
        constructor
        · intro hx; exact h1 x (.inl hx)
        · rintro ⟨hr, he⟩
          clear hr
          induction he with
          | base h0 => simpa using h2 _ h0.1 h0.2
          | step _ e ih => simpa using h3 _ _ ih e
      refine sortedKeys_spec (hseen g2) setE_keys hn (fun k hk => ?_) ?_ fun l' p1 p2 t => ?_
      · have := (h1 k (.inl hk)).1; unfold inR at this; omega
      · have := nodup_le m.count hn fun x hx => (h1 x (.inl hx)).1
        omega
      · have : l' = m.clo l := rising_eq p1 (m.clo_sorted l) fun x => by rw [p2, hcl]
        subst this
        rw [← hC]
        simp only [List.append_assoc, List.cons_append]
        exact gcV_end (.cl (Cl.lit' int_cl)) hq

end Go.Ax
