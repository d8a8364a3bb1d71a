/- Specs: the machine's closure. -/
import Derived.Test.YthhknneomcleoaaS2
import Derived.Test.YthhknneomcleoaaS4
namespace Go.Ax
open Go Go.Proofs Go.RowKit

structure Mch where
  count : Nat
  eps : List (Int × Int)
  arcs : List (Int × Int × BS)
  start : Int
  stop : Int
abbrev encP (p : Int × Int) : Value := .agg #[.int .i64 p.1, .int .i64 p.2]
abbrev encA (a : Int × Int × BS) : Value := .agg #[.int .i64 a.1, .int .i64 a.2.1, w64 a.2.2.a, w64 a.2.2.b, w64 a.2.2.c, w64 a.2.2.d]
abbrev Mch.enc (m : Mch) : Value := .agg #[.int .i64 (m.count : Int), lit (m.eps.map encP), lit (m.arcs.map encA), .int .i64 m.start, .int .i64 m.stop]

/-- Where one may be by nothing. -/
inductive EReach (eps : List (Int × Int)) (S : Int → Prop) : Int → Prop
  | base {x : Int} (h : S x) : EReach eps S x
  | step {x y : Int} (h : EReach eps S x) (e : (x, y) ∈ eps) : EReach eps S y

theorem EReach.mono {eps : List (Int × Int)} {S T : Int → Prop} (h : ∀ x, S x → EReach eps T x) {x : Int} (r : EReach eps S x) : EReach eps T x := by
  induction r with
  | base h0 => exact h _ h0
  | step _ e ih => exact .step ih e

def inR (n : Nat) (x : Int) : Prop := 0 ≤ x ∧ x < n
instance (n : Nat) (x : Int) : Decidable (inR n x) := by unfold inR; infer_instance

open Classical in
noncomputable def Mch.clo (m : Mch) (l : List Int) : List Int :=
  ((List.range m.count).map fun (n : Nat) => (n : Int)).filter fun x => decide (EReach m.eps (fun x => x ∈ l ∧ inR m.count x) x)

def Mch.ok (m : Mch) : Prop := (∀ p ∈ m.eps, inR m.count p.1 ∧ inR m.count p.2) ∧ (∀ a ∈ m.arcs, inR m.count a.1 ∧ inR m.count a.2.1) ∧ inR m.count m.start ∧ inR m.count m.stop

open Classical in
theorem Mch.mem_clo {m : Mch} {l : List Int} {x : Int} : x ∈ m.clo l ↔ inR m.count x ∧ EReach m.eps (fun x => x ∈ l ∧ inR m.count x) x := by
  unfold Mch.clo
  rw [List.mem_filter, decide_eq_true_eq]
  constructor
  · rintro ⟨h, h2⟩
    obtain ⟨n, hn, rfl⟩ := List.mem_map.1 h
    exact ⟨⟨by omega, by have := List.mem_range.1 hn; omega⟩, h2⟩
  · rintro ⟨⟨h1, h2⟩, h3⟩
    exact ⟨List.mem_map.2 ⟨x.toNat, List.mem_range.2 (by omega), by omega⟩, h3⟩
theorem Mch.clo_sorted (m : Mch) (l : List Int) : (m.clo l).Pairwise (· < ·) := by
  unfold Mch.clo
  refine List.Pairwise.filter _ ?_
  rw [List.pairwise_map]
  exact (List.pairwise_lt_range).imp (by intro a b h; omega)

/-- Two rising lists of the same numbers are the same. -/
theorem rising_eq : ∀ {a b : List Int}, a.Pairwise (· < ·) → b.Pairwise (· < ·) → (∀ x, x ∈ a ↔ x ∈ b) → a = b
  | [], [], _, _, _ => rfl
  | [], y :: b, _, _, h => by have := (h y).2 (by simp); simp at this
  | x :: a, [], _, _, h => by have := (h x).1 (by simp); simp at this
  | x :: a, y :: b, ha, hb, h => by
    obtain ⟨ha1, ha2⟩ := List.pairwise_cons.1 ha
    obtain ⟨hb1, hb2⟩ := List.pairwise_cons.1 hb
    have e : x = y := by
      rcases List.mem_cons.1 ((h x).1 (by simp)) with q | q
      · exact q
      · rcases List.mem_cons.1 ((h y).2 (by simp)) with r | r
        · exact r.symm
        · have := hb1 x q; have := ha1 y r; omega
    subst e
    rw [rising_eq ha2 hb2 fun z => ⟨fun hz => ?_, fun hz => ?_⟩]
    · rcases List.mem_cons.1 ((h z).1 (by simp [hz])) with q | q
      · have := ha1 z hz; omega
      · exact q
    · rcases List.mem_cons.1 ((h z).2 (by simp [hz])) with q | q
      · have := hb1 z hz; omega
      · exact q

/-- A map from ints to rows of ints, in memory. -/
structure ToOk (n : Nat) (H : Heap) (E : List (Int × Value)) (f : Int → List Int) : Prop where
  acc : ∀ k, Acc 1 n H ((aget E k).getD (.slice none 0 0)) ((f k).map fun x => .int .i64 x)
  apart : ∀ k k', k ≠ k' → ∀ j, lies ((aget E k).getD (.slice none 0 0)) j → ¬ lies ((aget E k').getD (.slice none 0 0)) j

/-- Where one may go by nothing, from each state. -/
def outs (eps : List (Int × Int)) (k : Int) : List Int := (eps.filter fun p => p.1 == k).map (·.2)

theorem int_len {l : List Int} : ∀ x ∈ l.map (fun n => Value.int .i64 n), (cellsOf x).length = 1 := fun x hx => by
  obtain ⟨n, _, rfl⟩ := List.mem_map.1 hx; rfl
theorem int_cl {l : List Int} : ∀ e ∈ l.map (fun n => Value.int .i64 n), ∀ x ∈ cellsOf e, Cl x := fun e he x hx => by
  obtain ⟨n, _, rfl⟩ := List.mem_map.1 he
  simp at hx; subst hx; exact .int _ _
theorem int_ok {l : List Int} : ∀ x ∈ l.map (fun n => Value.int .i64 n), (cellsOf x).all okCell = true := fun x hx => by
  obtain ⟨n, _, rfl⟩ := List.mem_map.1 hx; rfl
theorem int_flat {l : List Int} : (l.map fun n => Value.int .i64 n).flatMap cellsOf = l.map fun n => Value.int .i64 n := flat_one fun e he => by
  obtain ⟨n, _, rfl⟩ := List.mem_map.1 he; rfl

/-- slices.Sorted of maps.Keys. -/
theorem sortedKeys_spec {H : Heap} {j : Nat} {E : List (Int × Value)} {s : List Int} {K : Value → Heap → Prop} (hm : getMap H j = some (encE E)) (hk : E.map (·.1) = s) (hn : s.Nodup) (hi : ∀ k ∈ s, inI k) (hl : s.length ≤ 1000000000000)
    (k : ∀ l : List Int, l.Pairwise (· < ·) → (∀ x, x ∈ l ↔ x ∈ s) → ∀ t, K (ints l) (H ++ t)) :
    acall Try.prog F_maps_Keys_map_int_bool_int_bool [.map (some j)] H fun v h => acall Try.prog F_slices_Sorted_int [v] h K := by
  refine W_maps_Keys_map_int_bool_int_bool_ok ?_
  unfold W_maps_Keys_map_int_bool_int_bool
  rw [box_map, hW_some]
  refine gcV_same ?_
  exact sorted_spec (i := H.length) (by simp) (getMap_app hm) hk hn hi hl fun l h1 h2 => k l h1 h2 _

theorem clrW_acc {n : Nat} {B g : Heap} {v z : Value} {l : List Value} (hB : B.length = n) (a : Acc 1 n (B ++ g) v l) (hz : ∀ x ∈ l, (cellsOf x).length = 1) (hzz : okCell z = true) (hzc : cellsOf z = [z]) {i : Nat} (hi : i ≤ l.length) (h0 : l ≠ []) {K : Heap → Prop}
    (k : ∀ g', Acc 1 n (B ++ g') v (l.take i ++ List.replicate (l.length - i) z) → (∀ j, ¬ lies v j → (B ++ g')[j]? = (B ++ g)[j]?) → K (B ++ g')) :
    oW (slS 1 (B ++ g) v (some (.int .i64 (i : Int))) none none) fun w => sW (clrW [z] 1 (B ++ g) w) K := by
  rcases a with ⟨rfl, rfl⟩ | ⟨q, cap, c, m, h1, rfl, h3, h4, h5, h6, h7⟩
  · exact absurd rfl h0
  · have hm : m ≠ .ro := by rcases h4 with r | r <;> rw [r] <;> simp
    have hmd : m.openSize = none ∨ (0 < 1 ∧ m.openSize = some 1) := by
      rcases h4 with r | r <;> rw [r]
      · exact .inr ⟨by omega, rfl⟩
      · exact .inl rfl
    refine ⟨.slice (some ⟨q, i, none⟩) (l.length - i) (cap - i), by
      simp only [slS, asNat]
      rw [if_pos (by omega)]
      simp only [Int.toNat_natCast]
      rw [if_pos ⟨by omega, by omega, by omega, by omega, by simp⟩, h3]
      simp only
      rw [if_pos hmd]
      simp, ?_⟩
    have e1 : ∀ o : AObj, (B ++ g).set q o = B ++ g.set (q - n) o := fun o => by rw [List.set_append_right _ _ (by omega), hB]
    by_cases hz0 : l.length - i = 0
    · refine ⟨B ++ g, by simp only [clrW]; rw [if_pos hz0, if_pos (by omega)], ?_⟩
      refine k g (.inr ⟨q, cap, c, m, h1, ?_, h3, h4, h5, ?_, ?_⟩) fun _ _ => rfl
      · simp [hz0]; omega
      · simp [hz0]; omega
      · have : l.take i = l := List.take_of_length_le (by omega)
        rw [hz0]; simpa [this] using h7
    · have hrep : repA [z] (l.length - i) = List.replicate (l.length - i) z := repA_one z _
      have hcl : l.length ≤ c.length := by omega
      refine ⟨_, by
        simp only [clrW]
        rw [if_neg hz0, h3]
        simp only
        rw [if_pos ⟨hm, by omega, by rw [hrep, List.all_eq_true]; intro x hx; rw [List.eq_of_mem_replicate hx]; exact hzz, by omega⟩], ?_⟩
      rw [e1, hrep]
      have hlen : (l.take i ++ List.replicate (l.length - i) z).length = l.length := by simp; omega
      have hwl : ∀ (vs c : List Value) (o : Nat), (writeL c o vs).length = c.length := by
        intro vs
        induction vs with
        | nil => intro c o; rfl
        | cons x vs ih => intro c o; rw [writeL_cons, ih]; simp
      refine k _ (.inr ⟨q, cap, _, m, h1, by rw [hlen], by rw [← e1]; exact getRow_set h3 _ _, h4, by rw [hwl, h5], by rw [hlen]; exact h6, ?_⟩) fun j hj => by rw [← e1, List.getElem?_set_ne fun r => hj ⟨0, _, _, by rw [r]⟩]
      have hl1 := flat_len hz
      have hfl : (l.take i ++ List.replicate (l.length - i) z).flatMap cellsOf = (l.take i).flatMap cellsOf ++ List.replicate (l.length - i) z := by
        rw [List.flatMap_append]
        congr 1
        exact flat_one fun e he => by rw [List.eq_of_mem_replicate he]; exact hzc
      rw [hfl, hlen]
      have hti := flat_take hz i hi
      have htl := flat_len (es := l.take i) fun x hx => hz x (List.mem_of_mem_take hx)
      apply List.ext_getElem?
      intro k
      rw [List.getElem?_take]
      split
      · rename_i hk
        rw [get_writeL _ _ _ (by simp; omega)]
        by_cases hki : k < i
        · rw [if_neg (by omega), List.getElem?_append_left (by rw [htl, List.length_take]; omega), ← hti, ← h7, List.take_take, List.getElem?_take, if_pos (by omega)]
        · rw [if_pos (by simp; omega), List.getElem?_append_right (by rw [htl, List.length_take]; omega), htl, List.length_take]
          congr 1; omega
      · rw [List.getElem?_eq_none (by rw [List.length_append, htl, List.length_take, List.length_replicate]; omega)]

/-- What a function value answers at each number, in heaps that begin so. -/
def Tells (B : Heap) (f : Value) (p : Int → Bool) : Prop :=
  ∀ (x : Int) (g : Heap) (K : Value → Heap → Prop), inI x → (∀ g', (∀ j, j < (B ++ g).length → (B ++ g')[j]? = (B ++ g)[j]?) → (B ++ g).length ≤ (B ++ g').length → K (.bool (p x)) (B ++ g')) → callW Try.prog f [.int .i64 x] (B ++ g) K

/-- slices.IndexFunc at a local slice. -/
theorem indexFunc_spec {n : Nat} {B g : Heap} {v f : Value} {l : List Int} {p : Int → Bool} (hB : B.length = n) (hf : Tells B f p) (a : Acc 1 n (B ++ g) v (l.map fun x => .int .i64 x)) (hl : l.length ≤ 1000000000) (hi : ∀ x ∈ l, inI x) {Q : Value → Heap → Prop}
    (hq : ∀ g', (∀ j, j < (B ++ g).length → (B ++ g')[j]? = (B ++ g)[j]?) → (B ++ g).length ≤ (B ++ g').length →
      (∀ i : Nat, i < l.length → (∀ j (q : j < l.length), j < i → p l[j] = false) → (∀ q : i < l.length, p l[i] = true) → Q (.int .i64 (i : Int)) (B ++ g')) ∧ ((∀ x ∈ l, p x = false) → Q (.int .i64 (-1)) (B ++ g'))) :
    acall Try.prog F_slices_IndexFunc_int_int [v, f] (B ++ g) Q := by
  apply W_slices_IndexFunc_int_int_ok
  unfold W_slices_IndexFunc_int_int
  rw [a.len, oW_some]
  refine ⟨fun k vs H => ∃ (i : Nat) (g' : Heap), vs = [v, f, .int .i64 ((l.map fun x => Value.int .i64 x).length : Int), .int .i64 (i : Int)] ∧ H = B ++ g' ∧ k = l.length - i ∧ i ≤ l.length ∧ (∀ j (q : j < l.length), j < i → p l[j] = false) ∧
    (∀ j, j < (B ++ g).length → (B ++ g')[j]? = (B ++ g)[j]?) ∧ (B ++ g).length ≤ (B ++ g').length, l.length, gcL_same ⟨0, g, by simp⟩, ?_⟩
  rintro k x6 x7 x8 x9 H ⟨i, g', hv, rfl, hk, hile, hno, fr, frl⟩
  simp only [List.cons.injEq, and_true] at hv
  obtain ⟨rfl, rfl, rfl, rfl⟩ := hv
  rw [n_lss, oW_some, bW_dec]
  simp only [List.length_map]
  constructor
  · intro hlt
    have hlt' : i < l.length := by omega
    have a' : Acc 1 n (B ++ g') x6 (l.map fun x => .int .i64 x) := a.congr fun j hj => fr j (by
      obtain ⟨o, x, y, e⟩ := hj
      rcases a with ⟨rfl, _⟩ | ⟨q, cap, c, m, h1, rfl, h3, _⟩
      · cases e
      · cases e; exact getRow_lt h3)
    refine a'.at_ (by omega) int_len (by simpa using hlt') (fun q => by cases q) (fun _ => by simp) ?_
    simp only [List.getElem_map]
    refine hf l[i] g' _ (hi _ (by simp)) fun g2 fr2 frl2 => ?_
    have fr3 : ∀ j, j < (B ++ g).length → (B ++ g2)[j]? = (B ++ g)[j]? := fun j hj => (fr2 j (by omega)).trans (fr j hj)
    rw [bW_bool]
    constructor
    · intro hp
      exact gcV_same ((hq g2 fr3 (by omega)).1 i hlt' hno fun _ => hp)
    · intro hp
      rw [n_add (by omega), oW_some]
      refine ⟨l.length - (i + 1), by omega, gcL_same ⟨i + 1, g2, by simp, rfl, rfl, by omega, fun j q hj => ?_, fr3, by omega⟩⟩
      by_cases c : j = i
      · subst c; exact hp
      · exact hno j q (by omega)
  · intro hge
    refine gcV_same ((hq g' fr frl).2 fun x hx => ?_)
    obtain ⟨j, q, rfl⟩ := List.mem_iff_getElem.1 hx
    exact hno j q (by omega)

theorem Acc.lt {sz n : Nat} {H : Heap} {v : Value} {l : List Value} (a : Acc sz n H v l) {j : Nat} (hj : lies v j) : j < H.length := by
  obtain ⟨o, x, y, e⟩ := hj
  rcases a with ⟨rfl, _⟩ | ⟨q, cap, c, m, h1, rfl, h3, _⟩
  · cases e
  · cases e; exact getRow_lt h3

theorem filter_take_succ {p : Int → Bool} {l : List Int} {j : Nat} (h : j < l.length) : (l.take (j + 1)).filter p = if p l[j] then (l.take j).filter p ++ [l[j]] else (l.take j).filter p := by
  rw [List.take_add_one, List.getElem?_eq_getElem h, List.filter_append]
  cases q : p l[j] <;> simp [q]

/-- slices.DeleteFunc at a local slice. -/
theorem deleteFunc_spec {n : Nat} {B g : Heap} {v f : Value} {l : List Int} {p : Int → Bool} (hB : B.length = n) (hf : Tells B f p) (a : Acc 1 n (B ++ g) v (l.map fun x => .int .i64 x)) (hl : l.length ≤ 1000000000) (hi : ∀ x ∈ l, inI x) {Q : Value → Heap → Prop}
    (hq : ∀ v' g', Acc 1 n (B ++ g') v' ((l.filter fun x => !p x).map fun x => .int .i64 x) → Q v' (B ++ g')) :
    acall Try.prog F_slices_DeleteFunc_int_int [v, f] (B ++ g) Q := by
  apply W_slices_DeleteFunc_int_int_ok
  unfold W_slices_DeleteFunc_int_int
  refine callW_plain.2 (indexFunc_spec hB hf a hl hi fun g' fr frl => ⟨fun i hil hno hp => ?_, fun hno => ?_⟩)
  · have a' : Acc 1 n (B ++ g') v (l.map fun x => .int .i64 x) := a.congr fun j hj => fr j (a.lt hj)
    rw [n_eql, oW_some, bW_dec]
    refine ⟨fun h => by omega, fun _ => ?_⟩
    rw [n_add (by omega), oW_some]
    have h0 : (l.take i).filter (fun x => !p x) = l.take i := by
      rw [List.filter_eq_self]
      intro x hx
      obtain ⟨j, q, rfl⟩ := List.mem_iff_getElem.1 hx
      rw [List.length_take] at q
      rw [List.getElem_take]
      simp [hno j (by omega) (by omega)]
    refine ⟨fun k vs H => ∃ (i j : Nat) (g' : Heap) (c : List Int), vs = [v, f, .int .i64 (i : Int), .int .i64 (j : Int)] ∧ H = B ++ g' ∧ k = l.length - j ∧ j ≤ l.length ∧ i < j ∧ Acc 1 n (B ++ g') v (c.map fun x => .int .i64 x) ∧ c.length = l.length ∧
      c.take i = (l.take j).filter (fun x => !p x) ∧ c.drop j = l.drop j, l.length - (i + 1), gcL_same ⟨i, i + 1, g', l, by simp, rfl, by omega, by omega, by omega, a', rfl, ?_, rfl⟩, ?_⟩
    · rw [filter_take_succ hil]
      simp [hp hil, h0]
    rintro k x9 x10 x11 x12 H ⟨i, j, g1, c, hv, rfl, hk, hjl, hij, ac, hcl, h1, h2⟩
    simp only [List.cons.injEq, and_true] at hv
    obtain ⟨rfl, rfl, rfl, rfl⟩ := hv
    rw [ac.len, oW_some, n_lss, oW_some, bW_dec]
    simp only [List.length_map]
    have hcj : ∀ q : j < l.length, c[j]'(by omega) = l[j] := fun q => by
      have h3 : (c.drop j)[0]? = (l.drop j)[0]? := by rw [h2]
      simp only [List.getElem?_drop, Nat.add_zero] at h3
      rw [List.getElem?_eq_getElem (by omega), List.getElem?_eq_getElem q] at h3
      exact Option.some.inj h3
    constructor
    · intro hlt
      have hlt' : j < l.length := by omega
      refine ac.at_ (by omega) int_len (by simp; omega) (fun q => by cases q) (fun _ => by simp) ?_
      simp only [List.getElem_map, hcj hlt']
      refine hf l[j] g1 _ (hi _ (by simp)) fun g2 fr2 frl2 => ?_
      have ac2 : Acc 1 n (B ++ g2) x9 (c.map fun x => .int .i64 x) := ac.congr fun j hj => fr2 j (ac.lt hj)
      rw [u_not, oW_some, bW_bool]
      have hd : ∀ d : List Int, d.drop j = l.drop j → d.length = l.length → d.drop (j + 1) = l.drop (j + 1) := fun d h _ => by
        rw [← List.drop_drop, ← List.drop_drop, h]
      constructor
      · intro hp
        refine ac2.set hB (by omega) int_len rfl rfl rfl (by simp; omega) fun g3 ac3 fr3 => ?_
        rw [n_add (by omega), oW_some, n_add (by omega), oW_some]
        refine ⟨l.length - (j + 1), by omega, gcL_same ⟨i + 1, j + 1, g3, c.set i l[j], by simp, rfl, rfl, by omega, by omega, by rw [List.map_set]; exact ac3, by simp [hcl], ?_, ?_⟩⟩
        · rw [filter_take_succ hlt', hp, if_pos rfl, ← h1, List.take_add_one, List.getElem?_set_self (by omega), List.take_set_of_le (Nat.le_refl _)]; rfl
        · rw [List.drop_set_of_lt (by omega)]; exact hd c h2 hcl
      · intro hp
        rw [n_add (by omega), oW_some]
        refine ⟨l.length - (j + 1), by omega, gcL_same ⟨i, j + 1, g2, c, by simp, rfl, rfl, by omega, by omega, ac2, hcl, ?_, hd c h2 hcl⟩⟩
        rw [filter_take_succ hlt', hp]; exact h1
    · intro hge
      have hj : j = l.length := by omega
      subst hj
      rw [List.take_length] at h1
      have hli : (l.filter fun x => !p x).length = i := by
        rw [← h1, List.length_take]; omega
      refine clrW_acc hB ac int_len rfl rfl (by simp; omega) (by intro q; simp at q; subst q; simp at hcl; omega) fun g2 ac2 _ => ?_
      refine ac2.pop (by omega) (fun x hx => ?_) (by simp; omega) fun v' ac3 _ => gcV_same ?_
      · rcases List.mem_append.1 hx with q | q
        · exact int_len x (List.mem_of_mem_take q)
        · rw [List.eq_of_mem_replicate q]; rfl
      · refine hq _ _ ?_
        rw [List.take_left' (by simp; omega)] at ac3
        rw [← h1, List.map_take]; exact ac3
  · have a' : Acc 1 n (B ++ g') v (l.map fun x => .int .i64 x) := a.congr fun j hj => fr j (a.lt hj)
    rw [n_eql, oW_some, bW_dec]
    refine ⟨fun _ => gcV_same (hq _ _ ?_), fun h => absurd rfl h⟩
    have : (l.filter fun x => !p x) = l := by
      rw [List.filter_eq_self]; intro x hx; simp [hno x hx]
    rw [this]; exact a'

end Go.Ax
