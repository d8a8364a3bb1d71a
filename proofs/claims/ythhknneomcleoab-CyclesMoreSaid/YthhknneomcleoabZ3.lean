/- Cycles: what the laws CyclesAgree and CyclesMore lean on (picked of the other seat's texts). -/
import Derived.Test.YthhknneomcleoabZ2
namespace Go.Proofs
open Go.RowKit Go.Maps Go.Sort Go.Shelf
def Try.keysC_ren : Go.Shelf.Ren := ⟨fun | 7 => 26 | 10 => 38 | n => n, fun | 23 => 48 | 26 => 3 | 3 => 24 | 28 => 55 | 0 => 0 | 27 => 54 | 33 => 62 | 4 => 4 | n => n, fun | n => n⟩
theorem Try.keysC : Go.Proofs.SlLaysZI.n7 Try.prog Try.keysC_ren := {
  mixed := by kernel_rfl
  f7 := ⟨Try.f26.name, by decide, Try.func26.trans (congrArg some (by kernel_rfl))⟩
  f10 := ⟨Try.f38.name, by decide, Try.func38.trans (congrArg some (by kernel_rfl))⟩
  t0 := Try.underlying0
  a0 := Try.isAgg0
  z0 := Try.sizeOf0
  v0 := Try.zeroValue0
  t4 := Try.underlying4
  a4 := Try.isAgg4
  z4 := Try.sizeOf4
  v4 := Try.zeroValue4
  t23 := Try.underlying48
  a23 := Try.isAgg48
  z23 := Try.sizeOf48
  v23 := Try.zeroValue48
  t26 := Try.underlying3
  a26 := Try.isAgg3
  z26 := Try.sizeOf3
  v26 := Try.zeroValue3
  t27 := Try.underlying54
  a27 := Try.isAgg54
  z27 := Try.sizeOf54
  v27 := Try.zeroValue54
  t28 := Try.underlying55
  a28 := Try.isAgg55
  z28 := Try.sizeOf55
  v28 := Try.zeroValue55
  t33 := Try.underlying62
  a33 := Try.isAgg62
  z33 := Try.sizeOf62
  v33 := Try.zeroValue62 }
/-- slices.Sorted at an iterator over a map's keys. -/
theorem Try.sorted_atC {H : Type} (Bm b nn : Nat) (D0 : DataW H) (R : Value → Option (DataW H × List MemPlace)) (w : World) (hBm : Bm < w.heap.size) (hm : w.cell? ⟨Bm, 0, none⟩ = some (.map (some b))) (hown : w.ownsMap Try.prog 3 R b nn D0) (hmax : Maps.size D0 ≤ maxLen) (hbytes : Maps.size D0 * 8 ≤ 140737488355328) :
    Calls Try.prog 25 #[.func (.func 38) #[] #[.pointer (some ⟨Bm, 0, none⟩)]] w fun e w' => ∃ (v : Value) (ss : List Int), e = .returned v ∧ ss.Perm (intKeys D0) ∧
      w'.ownsRow w.heap.size 3 1 v ss.length ((ss.mergeSort (fun x y => decide (x ≤ y))).map encZ) ∧ (v = .slice none 0 0 ↔ ss = []) ∧ Below w.heap.size w w' := by
  refine (callsIn_wide (n := 5)).1 ?_
  have hseq : SeqGives Fence.wide 2 Try.prog 38 #[.pointer (some ⟨Bm, 0, none⟩)] encZ (fun ss => ss.Perm (intKeys D0)) (Maps.size D0) w :=
    AnyZI.keys_gives (ρ := Try.keysC_ren) { Try.keysC with } Fence.wide _ trivial rfl (by omega) Bm b nn D0 _ hBm hm hown
  have cS := AnyZI.sorted_in Try.sortedA Fence.wide 5 trivial trivial trivial trivial rfl (by omega) (Try.sortsA _) (enters_of Try.func37 (by kernel_rfl) rfl) 38 #[.pointer (some ⟨Bm, 0, none⟩)] trivial (enters_of Try.func38 (by kernel_rfl) rfl) _ _ hmax hbytes w hseq
  change CallsIn _ _ Try.prog 25 _ _ _ at cS
  exact cS.mono fun e w' h => h
def Try.copyB_ren : Go.Shelf.Ren := ⟨fun | 5 => 24 | n => n, fun | 23 => 48 | 24 => 48 | 26 => 3 | 27 => 24 | 0 => 0 | 4 => 4 | n => n, fun | n => n⟩
theorem Try.copyB : Go.Proofs.SlLaysX.n5 Try.prog Try.copyB_ren := {
  mixed := by kernel_rfl
  f5 := ⟨Try.f24.name, by decide, Try.func24.trans (congrArg some (by kernel_rfl))⟩
  t0 := Try.underlying0
  a0 := Try.isAgg0
  z0 := Try.sizeOf0
  v0 := Try.zeroValue0
  t4 := Try.underlying4
  a4 := Try.isAgg4
  z4 := Try.sizeOf4
  v4 := Try.zeroValue4
  t23 := Try.underlying48
  a23 := Try.isAgg48
  z23 := Try.sizeOf48
  v23 := Try.zeroValue48
  t24 := Try.underlying48
  a24 := Try.isAgg48
  z24 := Try.sizeOf48
  v24 := Try.zeroValue48
  a26 := Try.isAgg3
  z26 := Try.sizeOf3
  a27 := Try.isAgg24
  z27 := Try.sizeOf24 }
variable {P : Program} {ρ : Go.Shelf.Ren}
set_option maxHeartbeats 4000000 in
set_option maxRecDepth 100000 in
/-- maps.Copy of a map without elements: nothing turns. -/
theorem copy_none (L : SlLaysX.n5 P ρ) (K : Keyed P (ρ.t 26)) (a b n : Nat) (D : DataW Unit) (hD : ∀ kl, Maps.has D kl = false) (w : World) (hd : w.ownsMap P (ρ.t 26) rTrue b n D) :
    Calls P (ρ.f 5) #[.map (some a), .map (some b)] w fun e w' => e = .returned (.tuple #[]) ∧ w.grownBy w' none := by
  have mixed := L.mixed; have t0 := L.t0; have a0 := L.a0; have z0 := L.z0; have v0 := L.v0; have t4 := L.t4; have a4 := L.a4; have z4 := L.z4; have v4 := L.v4; have t23 := L.t23; have a23 := L.a23; have z23 := L.z23; have v23 := L.v23; have t24 := L.t24; have a24 := L.a24; have z24 := L.z24; have v24 := L.v24; have a26 := L.a26; have z26 := L.z26; have a27 := L.a27; have z27 := L.z27
  have hbd := hd.lt
  obtain ⟨_, _, FG⟩ := L.f5
  go_enter FG, SlBodyX.n5_ntmps ρ
  go_wp2_with (first
    | (at_range; refine wpList_range_own _ rfl _ (ρ.t 24) rfl (ρ.t 26) (ρ.t 27) K L.t24 rTrue b n _ rfl hd ?_; intro w0 hrg0 hg0 hs0)
    | go_in)
  go_frame
  go_loopw [8] (fun _ wr => ∃ (left : Lit → Bool) (cnt : Nat), wr.ranges P (ρ.t 26) rTrue b w.heap.size n D left cnt ∧ (∀ kl, left kl = true → Maps.has D kl = true) ∧ w.grownBy wr none)
    (fun _ wr => wr.rangeLeft b w.heap.size)
  case atStart =>
    exact ⟨_, _, hrg0, fun _ h => h, hg0⟩
  case round =>
    obtain ⟨left, cnt, hrg, hleft, hgw⟩ := hrel
    go_wp2_with (first
      | (at_next; refine wpList_next_ranges _ rfl _ rfl (ρ.t 26) K rTrue id (fun _ : Unit => Value.bool true) (fun key _ _ => ⟨key, rfl⟩) (fun v _ hv => ⟨(), (rTrue_inv hv).1⟩) b w.heap.size n _ _ _ rfl hrg ?_ ?_)
      | go_in)
    · intro hc0 hl0
      go_wp2
      go_end0
      exact ⟨rfl, hgw⟩
    · intro x c kl y w1 cnt1 hkey hlx
      have := hleft _ hlx
      rw [hD] at this; cases this
end Go.Proofs
namespace Go.Ax
open Go Go.Proofs Go.RowKit Go.Maps
/-- slices.Sorted at an iterator over the keys of a set of ints. -/
theorem sorted_specC {H : Heap} {i j : Nat} {ks : List Int} {E : List (Int × Value)} (hi : H[i]? = some (.row [.map (some j)] .exact)) (hm : getMap H j = some (encE E)) (hk : E.map (·.1) = ks) (hn : ks.Nodup) (hin : ∀ k ∈ ks, inI k) (hl : ks.length ≤ 1000000000000)
    {Q : Value → Heap → Prop} (hq : ∀ l : List Int, l.Pairwise (· < ·) → (∀ x, x ∈ l ↔ x ∈ ks) → Q (ints l) H) :
    acall Try.prog 25 [.func (.func 38) #[] #[.pointer (some ⟨i, 0, none⟩)]] H Q := by
  refine ⟨⟨_, Try.func25, rfl, rfl⟩, fun B w0 ρ w args' s hr => ?_⟩
  obtain ⟨hlen, hrel⟩ := hr
  have ha : ∃ v', args' = #[v'] := by
    obtain ⟨l⟩ := args'
    match l, hlen with
    | [v'], _ => exact ⟨v', rfl⟩
  obtain ⟨v', rfl⟩ := ha
  have h0 := hrel 0 _ v' rfl rfl
  cases h0 with
  | func fn xs xs' cs cs' hf h1 h2 h3 h4 =>
  have hxs : xs' = #[] := Array.size_eq_zero_iff.1 h1.symm
  subst hxs
  have hcs : ∃ y, cs' = #[y] := by
    obtain ⟨l⟩ := cs'
    match l, h2 with
    | [y], _ => exact ⟨y, rfl⟩
  obtain ⟨y, rfl⟩ := hcs
  have h5 := h4 0 (by simp) (by simp)
  simp only [List.getElem_toArray, List.getElem_cons_zero] at h5
  cases h5 with
  | ptr i off b hb =>
  obtain ⟨b2, hb2, hrow⟩ := s.row i _ _ hi
  rw [hb] at hb2; cases hb2
  have hz := hrow.zero rfl
  obtain ⟨cc, el, fr, l1, l2, l3, l4⟩ := hrow.lies
  obtain ⟨y2, hy2, hr2⟩ := l3 0 (.map (some j)) rfl
  cases hr2 with
  | map j bj hbj =>
  obtain ⟨bj2, hbj2, hmap⟩ := s.map j _ (getMap_eq hm)
  rw [hbj] at hbj2; cases hbj2
  obtain ⟨ents, clock, m1, m2, m3⟩ := hmap.lies
  have hks : ents.toList.map (·.key) = ks.map (Value.int .i64) := by
    apply List.ext_getElem?
    intro q
    rw [List.getElem?_map, List.getElem?_map, ← hk, List.getElem?_map]
    cases he : E[q]? with
    | none =>
      have : E.length ≤ q := List.getElem?_eq_none_iff.1 he
      have h6 : ents.toList[q]? = none := List.getElem?_eq_none (by simp at m2 ⊢; omega)
      rw [h6]; rfl
    | some p =>
      obtain ⟨e, he2, he3, _⟩ := m3 q (.int .i64 p.1, p.2) (by rw [List.getElem?_map, he]; rfl)
      have h6 : ents.toList[q]? = some e := by simpa using he2
      rw [h6]; simp [he3]
  obtain ⟨D0, hown, hperm, hsize⟩ := owns_map (P := Try.prog) (t := 3) Try.underlying3 m1 (hmap.stamp _ _ m1) hks hin hl
  have hcell : w.cell? ⟨b.block, 0, none⟩ = some (.map (some bj.block)) := by
    rw [cell_of l1]; rw [hz] at hy2; exact hy2
  have hlt : b.block < w.heap.size := (s.dom _ _ hb).2.1
  have hc := Try.sorted_atC b.block bj.block ents.size D0 _ w hlt hcell hown (by rw [hsize]; unfold maxLen; omega) (by rw [hsize]; omega)
  have e0 : b.base + 0 = 0 := by omega
  rw [e0]
  refine hc.mono ?_
  rintro e w' ⟨v, ss, rfl, hp, hrw, hnil, hbel⟩
  have hkept : Kept ⟨w.heap.size, fun _ => False⟩ w w' := ⟨hbel.os, hbel.tape, hbel.output, hbel.size, fun k hk => hbel.block k (hk.elim id fun q => q.elim)⟩
  have s' := s.moved hkept
  have hpk : ss.Perm ks := hp.trans hperm
  have hns : ss.Nodup := hpk.nodup_iff.2 hn
  have hsp := List.mergeSort_perm ss fun x y => decide (x ≤ y)
  have hpw : (ss.mergeSort fun x y => decide (x ≤ y)).Pairwise (· < ·) := by
    have h1 : (ss.mergeSort fun x y => decide (x ≤ y)).Pairwise (fun a b => decide (a ≤ b) = true) := List.pairwise_mergeSort (fun a b c h1 h2 => by simp only [decide_eq_true_eq] at *; omega) (fun a b => by simp only [Bool.or_eq_true, decide_eq_true_eq]; omega) ss
    have h2 : (ss.mergeSort fun x y => decide (x ≤ y)).Nodup := hsp.nodup_iff.2 hns
    exact (h1.and h2).imp fun {a b} h => by
      have h3 : a ≤ b := by simpa using h.1
      have := h.2
      omega
  have hQ := hq _ hpw fun x => by rw [hsp.mem_iff, hpk.mem_iff]
  obtain ⟨r1, r2⟩ := hrw
  rcases r2 with ⟨rfl, hz0⟩ | ⟨g, cap, cur, rfl, g1, g2, g3, g4, g5, g6⟩
  · have : ss = [] := List.eq_nil_of_length_eq_zero hz0
    subst this
    refine ⟨ρ, _, _, H, .refl _, rfl, ?_, s', hQ⟩
    rw [show (([] : List Int).mergeSort fun x y => decide (x ≤ y)) = [] by simp]
    exact Rel.lit0 none 0 (fun _ => rfl)
  · have hgn : ρ.frz g = none := by
      cases q : ρ.frz g with
      | none => rfl
      | some c0 => have := s.coldLt q; omega
    refine ⟨ρ.cool g cur, _, _, H, Ren.cool_le hgn, rfl, ?_, s'.cool g2 hgn (fun i b hb q => by have := (s.dom i b hb).2.1; omega) (fun q => by have := s.fle _ q; omega), hQ⟩
    have hsl : (ss.mergeSort fun x y => decide (x ≤ y)).length = ss.length := hsp.length_eq
    have := Rel.litS (ρ := ρ.cool g cur) ((ss.mergeSort fun x y => decide (x ≤ y)).map fun n => Value.int .i64 n).toArray g 0 1 cap cur (by unfold Ren.cool; simp) (by simp [hsl]; omega) (by omega) (fun i p => by simp) (by simp [hsl]; omega) (fun i q p p2 p3 => by
      have hi : i < (ss.mergeSort fun x y => decide (x ≤ y)).length := by simpa using p
      have hq0 : q = 0 := by
        have : (cellsOf ((ss.mergeSort fun x y => decide (x ≤ y)).map fun n => Value.int .i64 n).toArray[i]).length = 1 := by simp
        omega
      subst hq0
      have h7 : cur.toList[i]? = some (.int .i64 (ss.mergeSort fun x y => decide (x ≤ y))[i]) := by
        have h8 : (cur.toList.take (ss.length * 1))[i]? = some (encZ (ss.mergeSort fun x y => decide (x ≤ y))[i]) := by rw [g6]; simp [hi]
        rw [List.getElem?_take] at h8
        split at h8
        · exact h8
        · cases h8
      have h9 : cur[0 + (i * 1 + 0)] = .int .i64 (ss.mergeSort fun x y => decide (x ≤ y))[i] := by
        have h10 : cur[i]? = some (.int .i64 (ss.mergeSort fun x y => decide (x ≤ y))[i]) := by simpa using h7
        have h11 := Array.getElem?_eq_getElem p3
        have e4 : 0 + (i * 1 + 0) = i := by omega
        have h12 : cur[0 + (i * 1 + 0)]? = some (.int .i64 (ss.mergeSort fun x y => decide (x ≤ y))[i]) := by rw [e4]; exact h10
        exact Option.some.inj (h11.symm.trans h12)
      rw [h9]
      simp
      exact .int _ _)
    simp only [List.size_toArray, List.length_map, hsl] at this
    exact this
/-- slices.Sorted of maps.Keys. -/
theorem sortedKeysC_spec {H : Heap} {j : Nat} {E : List (Int × Value)} {s : List Int} {K : Value → Heap → Prop} (hm : getMap H j = some (encE E)) (hk : E.map (·.1) = s) (hn : s.Nodup) (hi : ∀ k ∈ s, inI k) (hl : s.length ≤ 1000000000000)
    (k : ∀ l : List Int, l.Pairwise (· < ·) → (∀ x, x ∈ l ↔ x ∈ s) → ∀ t, K (ints l) (H ++ t)) :
    acall Try.prog F_maps_Keys_map_int_int_int_int [.map (some j)] H fun v h => acall Try.prog F_slices_Sorted_int [v] h K := by
  refine W_maps_Keys_map_int_int_int_int_ok ?_
  unfold W_maps_Keys_map_int_int_int_int
  rw [box_map, hW_some]
  refine gcV_same ?_
  exact sorted_specC (i := H.length) (by simp) (getMap_app hm) hk hn hi hl fun l h1 h2 => k l h1 h2 _
/-- maps.Copy of a map without elements. -/
theorem copyNone_spec {H : Heap} {i j : Nat} {E : List (Value × Value)} (hi : getMap H i = some E) (hj : getMap H j = some []) {Q : Value → Heap → Prop} (hq : Q (.tuple #[]) H) : acall Try.prog 24 [.map (some i), .map (some j)] H Q := by
  refine ⟨⟨_, Try.func24, rfl, rfl⟩, fun B w0 ρ w args' sm hr => ?_⟩
  obtain ⟨hlen, hrel⟩ := hr
  have ha : ∃ u v, args' = #[u, v] := by
    obtain ⟨l⟩ := args'
    match l, hlen with
    | [u, v], _ => exact ⟨u, v, rfl⟩
  obtain ⟨u, v, rfl⟩ := ha
  have r0 := hrel 0 _ u rfl rfl
  have r1 := hrel 1 _ v rfl rfl
  cases r0 with
  | map _ b hb =>
  cases r1 with
  | map _ c hc =>
  obtain ⟨c', hc', ok⟩ := sm.map _ _ (getMap_eq hj)
  rw [hc] at hc'; cases hc'
  obtain ⟨ents, clock, l1, l2, l3⟩ := ok.lies
  have hz : ents = #[] := Array.size_eq_zero_iff.1 (by simpa using l2)
  subst hz
  have own : w.ownsMap Try.prog 3 rTrue c.block 0 (.map []) := ⟨#[], clock, l1, ⟨by unfold maxLen; decide, ok.stamp _ _ l1, fun x hx => by simp at hx⟩, Nat.le_refl _, rfl⟩
  have := copy_none Try.copyB (int_keyed Try.underlying3) b.block c.block 0 (.map []) (fun _ => rfl) w own
  refine this.mono ?_
  rintro e w' ⟨rfl, hg⟩
  have hkept : Kept ⟨w.heap.size, fun _ => False⟩ w w' := ⟨hg.os, hg.tape, hg.output, hg.size, fun k hk => hg.block k (hk.elim id fun q => q.elim) (by simp)⟩
  exact ⟨ρ, _, _, H, .refl _, rfl, Rel.undef ρ, sm.moved hkept, hq⟩
end Go.Ax
namespace Go.Ax
open Go Go.Proofs Go.RowKit
def hitR (g : Gr) (r : List Int) (n : Int) : Prop := ∃ a b, r.drop 1 = a ++ n :: b ∧ emptyR g a ∧ emptyR g b
/-- What was found. -/
def Fnd (g : Gr) (s : Nat) (B : Heap) (D : Int → Prop) (H : Heap) : Prop :=
  ∃ (t : Heap) (E : List (Int × Value)), H = B ++ (.map (encE E) :: t) ∧ (∀ n v, aget E n = some v → ∃ p k m, v = .slice (some ⟨p, 0, none⟩) 1 1 ∧ B.length < p ∧ getRow H p = some ([.int .i64 ((k : Nat) : Int)], m) ∧ k < g.rules.length ∧ lhs (g.rules.getD k []) = s ∧ hitR g (g.rules.getD k []) n) ∧ ∀ n, D n → aget E n ≠ none
def doneB (g : Gr) (by_ : List Int) (q : Nat) (n : Int) : Prop := ∃ q', q' < q ∧ q' < by_.length ∧ hitR g (g.rules.getD (by_.getD q' 0).toNat []) n
def ChTst (I74 : Nat → List Value → Heap → Prop) (k77 : Nat) (M102 : List Value → Heap → Prop) (pre args : List Value) (x85 x80 x94 : Value) (h95 h : Heap) : Prop :=
  (oW (binN .add x94 (.int .i64 1)) fun v105 => (oW (slS 1 h95 x85 (some (.int .i64 1)) (some v105) none) fun v106 => (callW Try.prog x80 [v106] h95 fun v107 h108 => (oW (unA .not v107) fun v109 =>
  (bW v109 (bW (.bool true) (oW (binN .add x94 (.int .i64 1)) fun v110 => (∃ m76, m76 < k77 ∧ gcL h (I74 m76) (pre ++ [v110]) h108)) (gcL h M102 args h108))
  (oW (binN .add x94 (.int .i64 2)) fun v111 => (oW (slS 1 h108 x85 (some v111) none none) fun v112 => (callW Try.prog x80 [v112] h108 fun v113 h114 => (oW (unA .not v113) fun v115 =>
  (bW v115 (oW (binN .add x94 (.int .i64 1)) fun v116 => (∃ m76, m76 < k77 ∧ gcL h (I74 m76) (pre ++ [v116]) h114)) (gcL h M102 args h114)))))))))))
theorem chTst_spec {g : Gr} {I74 : Nat → List Value → Heap → Prop} {k77 : Nat} {M102 : List Value → Heap → Prop} {pre args : List Value} {r : List Int} {f : Value} {j : Nat} {H h : Heap} (va : VoidAt g H f) (h9 : r.length ≤ 9) (hj : j < (r.drop 1).length) (hin : ∀ x ∈ r.drop 1, inR g.n x)
    (skip : ¬ (emptyR g ((r.take (j + 1)).drop 1) ∧ emptyR g (r.drop (j + 2))) → ∃ m76, m76 < k77 ∧ gcL h (I74 m76) (pre ++ [.int .i64 ((j : Int) + 1)]) H) (go : emptyR g ((r.take (j + 1)).drop 1) ∧ emptyR g (r.drop (j + 2)) → gcL h M102 args H) :
    ChTst I74 k77 M102 pre args (ints r) f (.int .i64 (j : Int)) H h := by
  classical
  have hdl : (r.drop 1).length = r.length - 1 := by simp
  have hsp := drop1_split hj
  unfold ChTst
  rw [n_add (by omega), oW_some]
  have es : slS 1 H (ints r) (some (.int .i64 1)) (some (.int .i64 ((j : Int) + 1))) none = some (ints ((r.take (j + 1)).drop 1)) := sl_ints2 (a := 1) (b := j + 1) (by omega) (by omega)
  rw [es, oW_some]
  refine va.call (fun x hx => hin x (by rw [hsp]; exact List.mem_append_left _ hx)) (by rw [List.length_drop, List.length_take]; omega) ?_
  rw [u_not, oW_some, bW_bool]
  constructor
  · intro q
    rw [bW_true, oW_some]
    exact skip fun z => by rw [decide_eq_true z.1] at q; cases q
  · intro q
    have h1 : emptyR g ((r.take (j + 1)).drop 1) := by rw [Bool.not_eq_false'] at q; exact of_decide_eq_true q
    rw [n_add (by omega), oW_some]
    have es2 : slS 1 H (ints r) (some (.int .i64 ((j : Int) + 2))) none none = some (ints (r.drop (j + 2))) := sl_ints (n := j + 2) (by omega)
    rw [es2, oW_some]
    refine va.call (fun x hx => hin x (by rw [hsp]; exact List.mem_append_right _ (List.mem_cons_of_mem _ hx))) (by rw [List.length_drop]; omega) ?_
    rw [u_not, oW_some, bW_bool]
    constructor
    · intro q2
      rw [oW_some]
      exact skip fun z => by rw [decide_eq_true z.2] at q2; cases q2
    · intro q2
      rw [Bool.not_eq_false'] at q2
      exact go ⟨h1, of_decide_eq_true q2⟩
theorem clone_nil {H : Heap} {Q : Value → Heap → Prop} (hq : Q (.slice none 0 0) H) : acall Try.prog F_slices_Clone_int_int [.slice none 0 0] H Q := by
  apply W_slices_Clone_int_int_ok
  unfold W_slices_Clone_int_int
  exact ⟨.bool true, rfl, bW_true.2 (gcV_same hq)⟩
theorem cmp_spec {a b : Int} {H : Heap} {Q : Value → Heap → Prop} (hq : ∀ c : Int, Q (.int .i64 c) H) : acall Try.prog F_cmp_Compare_int [.int .i64 a, .int .i64 b] H Q := by
  apply W_cmp_Compare_int_ok
  unfold W_cmp_Compare_int
  have nan : ∀ {x : Int} {K : Value → Heap → Prop}, K (.bool false) H → callW Try.prog (fn F_cmp_isNaN_int) [.int .i64 x] H K := fun {x K} k => by
    refine callW_plain.2 ?_
    apply W_cmp_isNaN_int_ok
    unfold W_cmp_isNaN_int
    rw [n_neq, oW_some, decide_eq_false (fun q => q rfl)]
    exact gcV_same k
  refine nan (nan ?_)
  rw [bW_false, bW_false, n_lss, oW_some, bW_dec]
  refine ⟨fun _ => gcV_same (hq _), fun _ => ?_⟩
  rw [n_gtr, oW_some, bW_dec]
  exact ⟨fun _ => gcV_same (hq _), fun _ => gcV_same (hq _)⟩
/-- slices.Compare of rows of one. -/
theorem compare1_spec {p q : Nat} {a b : Int} {m m' : Md} {H : Heap} (hp : getRow H p = some ([.int .i64 a], m)) (hb : getRow H q = some ([.int .i64 b], m')) {Q : Value → Heap → Prop} (hq : ∀ c : Int, Q (.int .i64 c) H) :
    acall Try.prog F_slices_Compare_int_int [.slice (some ⟨p, 0, none⟩) 1 1, .slice (some ⟨q, 0, none⟩) 1 1] H Q := by
  apply W_slices_Compare_int_int_ok
  unfold W_slices_Compare_int_int
  have l1 : ∀ p, lenS (.slice (some ⟨p, 0, none⟩) 1 1) = some (.int .i64 (1 : Int)) := fun p => by simp
  rw [l1, oW_some]
  refine ⟨fun m vs A => ∃ i : Nat, vs = [.slice (some ⟨p, 0, none⟩) 1 1, .slice (some ⟨q, 0, none⟩) 1 1, .slice (some ⟨p, 0, none⟩) 1 1, .int .i64 1, .int .i64 (i : Int)] ∧ A = H ∧ m = 1 - i ∧ i ≤ 1, 1, gcL_same ⟨0, rfl, rfl, by omega, by omega⟩, ?_⟩
  rintro k5 x6 x7 x8 x9 x10 h11 ⟨i, hv, rfl, hk, hi⟩
  simp only [List.cons.injEq, and_true] at hv
  obtain ⟨rfl, rfl, rfl, rfl, rfl⟩ := hv
  rw [n_lss, oW_some, bW_dec]
  constructor
  · intro hlt
    have hi0 : i = 0 := by omega
    subst hi0
    have ld : ∀ {p a m} (K : Value → Prop), getRow h11 p = some ([.int .i64 a], m) → K (.int .i64 a) → oW (iaS 1 (.slice (some ⟨p, 0, none⟩) 1 1) (.int .i64 ((0 : Nat) : Int))) fun v => oW (ldW false 1 h11 v) K := fun {p a m} K e k => by
      refine ⟨_, iaS_slice (by omega), ?_⟩
      show oW (ldW false 1 h11 (.pointer (some ⟨p, 0 + 0 * 1, none⟩))) K
      rw [ldW_one, e]
      exact ⟨_, rfl, k⟩
    refine ld _ hp ?_
    rw [l1, oW_some, n_geq, oW_some, bW_dec]
    refine ⟨fun q => absurd q (by omega), fun _ => ld _ hb ?_⟩
    refine callW_plain.2 (cmp_spec fun c => ?_)
    rw [n_neq, oW_some, bW_dec]
    constructor
    · intro _
      exact gcV_same (hq c)
    · intro _
      rw [n_add (by omega), oW_some]
      exact ⟨0, by omega, gcL_same ⟨1, rfl, rfl, by omega, by omega⟩⟩
  · intro _
    rw [l1, oW_some, l1, oW_some, n_lss, oW_some, bW_dec]
    exact ⟨fun _ => gcV_same (hq _), fun _ => gcV_same (hq _)⟩
end Go.Ax
namespace Go.Ax
open Go Go.Proofs Go.RowKit
theorem exA' {a b : Value} : extractA (.tuple #[a, b]) 0 = some a := rfl
theorem exB' {a b : Value} : extractA (.tuple #[a, b]) 1 = some b := rfl
theorem bs1n {H : Heap} {a : Int} : bslW H 1 [(.int .i64 0)] [(0, 1, (.int .i64 a))] = some (.slice (some ⟨H.length, 0, none⟩) 1 1, H ++ [.row [.int .i64 a] .exact]) := by
  simp [bslW, okVal, cellsOf]
theorem ap_nil1 {H : Heap} {a : Int} {K : Value → Heap → Prop} (k : K (.slice (some ⟨H.length + 1, 0, none⟩) 1 1) (H ++ [.row [.int .i64 a] .exact, .row [.int .i64 a] (.grown 1)])) :
    hW (bslW H 1 [(.int .i64 0)] [(0, 1, .int .i64 a)]) fun v1 h1 => hW (apW 1 8 h1 (.slice none 0 0) v1) K := by
  rw [bs1n, hW_some]
  have hr : getRow (H ++ [.row [.int .i64 a] .exact]) H.length = some ([.int .i64 a], .exact) := by rw [row_app0]; rfl
  have e : apW 1 8 (H ++ [.row [.int .i64 a] .exact]) (.slice none 0 0) (.slice (some ⟨H.length, 0, none⟩) 1 1) = some (.slice (some ⟨H.length + 1, 0, none⟩) 1 1, H ++ [.row [.int .i64 a] .exact, .row [.int .i64 a] (.grown 1)]) := by
    simp [apW, srcA, hr]
  rw [e, hW_some]; exact k
section
variable {g : Gr} {s : Nat} {B t : Heap} {E : List (Int × Value)} {D D' : Int → Prop}
def GoodV (g : Gr) (s : Nat) (B H : Heap) (n : Int) (v : Value) : Prop := ∃ p k m, v = .slice (some ⟨p, 0, none⟩) 1 1 ∧ B.length < p ∧ getRow H p = some ([.int .i64 ((k : Nat) : Int)], m) ∧ k < g.rules.length ∧ lhs (g.rules.getD k []) = s ∧ hitR g (g.rules.getD k []) n
theorem GoodV.more {x : List (Value × Value)} {u : Heap} {n : Int} {v : Value} (h : GoodV g s B (B ++ (.map (encE E) :: t)) n v) : GoodV g s B (B ++ (.map x :: (t ++ u))) n v := by
  obtain ⟨p, k, m, e, hp, hr, h1⟩ := h
  refine ⟨p, k, m, e, hp, ?_, h1⟩
  have hlt := getRow_lt hr
  rw [getRow_same (h' := B ++ (.map x :: (t ++ u))) (h := B ++ (.map (encE E) :: t)) ?_]
  · exact hr
  · rw [List.getElem?_append_right (by omega), List.getElem?_append_right (by omega), show p - B.length = (p - B.length - 1) + 1 by omega, List.getElem?_cons_succ, List.getElem?_cons_succ, List.getElem?_append_left (by simp at hlt; omega)]
end
theorem found_map {B t : Heap} {x : List (Value × Value)} : getMap (B ++ (.map x :: t)) B.length = some x := by unfold getMap; simp
theorem found_set {B t : Heap} {x y : List (Value × Value)} : (B ++ (.map x :: t)).set B.length (.map y) = B ++ (.map y :: t) := by simp
abbrev ChV (h : Heap) (f : Value) (s m1 : Nat) : List Value := [.int .i64 (s : Int), .pointer (some ⟨h.length, 0, none⟩), f, .map (some m1)]
def allHit (g : Gr) (s : Nat) (n : Int) : Prop := ∃ r ∈ g.rules, lhs r = s ∧ hitR g r n
def ChI1 (g : Gr) (h B : Heap) (f : Value) (s m1 w : Nat) (m : Nat) (vs : List Value) (H : Heap) : Prop :=
  (m = 1 ∧ vs = ChV h f s m1 ++ [.slice (some ⟨w, 0, none⟩) 1 1] ∧ H = B) ∨ (m = 0 ∧ vs = ChV h f s m1 ++ [ints []] ∧ (∃ t, H = B ++ t) ∧ ∀ j, ¬ g.alone s j)
def ChI2 (g : Gr) (h B : Heap) (f : Value) (s m1 w : Nat) (m : Nat) (vs : List Value) (H : Heap) : Prop :=
  ∃ i : Nat, vs = ChV h f s m1 ++ [.map (some B.length), .slice (some ⟨w, 0, none⟩) 1 1, .int .i64 1, .int .i64 (i : Int)] ∧ Fnd g s B (fun n => i = 1 ∧ allHit g s n) H ∧ m = 1 - i ∧ i ≤ 1
def ChI3 (g : Gr) (h B : Heap) (f : Value) (s m1 w : Nat) (by_ : List Int) (m : Nat) (vs : List Value) (H : Heap) : Prop :=
  ∃ q : Nat, vs = ChV h f s m1 ++ [.map (some B.length), .int .i64 (s : Int), .slice (some ⟨w, 0, none⟩) 1 1, .int .i64 1, .int .i64 ((0 : Nat) : Int), ints by_, .int .i64 (by_.length : Int), .int .i64 (q : Int)] ∧ Fnd g s B (doneB g by_ q) H ∧ m = by_.length - q ∧ q ≤ by_.length
abbrev ChP (h B : Heap) (f : Value) (s m1 w : Nat) (by_ : List Int) (q : Nat) (r : List Int) (k : Nat) : List Value := ChV h f s m1 ++ [.map (some B.length), .int .i64 (s : Int), .int .i64 (k : Int), ints r, .slice (some ⟨w, 0, none⟩) 1 1, .int .i64 1, .int .i64 ((0 : Nat) : Int), ints by_, .int .i64 (by_.length : Int), .int .i64 (q : Int), ints (r.drop 1), .int .i64 ((r.drop 1).length : Int)]
abbrev ChX (h B : Heap) (f : Value) (s m1 w : Nat) (by_ : List Int) (q : Nat) (r : List Int) (k : Nat) (x : Int) (j : Nat) : List Value := ChV h f s m1 ++ [.map (some B.length), .int .i64 (s : Int), .int .i64 (k : Int), ints r, .int .i64 x, .slice (some ⟨w, 0, none⟩) 1 1, .int .i64 1, .int .i64 ((0 : Nat) : Int), ints by_, .int .i64 (by_.length : Int), .int .i64 (q : Int), ints (r.drop 1), .int .i64 ((r.drop 1).length : Int), .int .i64 (j : Int)]
def ChM (g : Gr) (h B : Heap) (f : Value) (s m1 w : Nat) (by_ : List Int) (q : Nat) (r : List Int) (k : Nat) (x : Int) (j : Nat) (a b : List Int) (H0 : Heap) (vs : List Value) (A : Heap) : Prop := vs = ChX h B f s m1 w by_ q r k x j ∧ A = H0 ∧ emptyR g a ∧ emptyR g b
def ChI4 (g : Gr) (h B : Heap) (f : Value) (s m1 w : Nat) (by_ : List Int) (q : Nat) (r : List Int) (k : Nat) (m : Nat) (vs : List Value) (H : Heap) : Prop :=
  ∃ j : Nat, vs = ChP h B f s m1 w by_ q r k ++ [.int .i64 (j : Int)] ∧ Fnd g s B (fun n => doneB g by_ q n ∨ ∃ a b, r.drop 1 = a ++ n :: b ∧ a.length < j ∧ emptyR g a ∧ emptyR g b) H ∧ m = (r.drop 1).length - j ∧ j ≤ (r.drop 1).length
theorem by_row {g : Gr} (ok : g.ok) {s : Nat} {y : Int} (h : y ∈ g.byL (s : Int)) : ∃ (k : Nat) (hk : k < g.rules.length), y = (k : Int) ∧ g.rules.getD k [] = g.rules[k] ∧ lhs g.rules[k] = s := by
  rw [mem_byL] at h
  obtain ⟨h1, h2⟩ := h
  unfold inR at h1
  have hk : y.toNat < g.rules.length := by omega
  have e : g.rules.getD y.toNat [] = g.rules[y.toNat] := by rw [List.getD_eq_getElem?_getD, List.getElem?_eq_getElem hk]; rfl
  refine ⟨y.toNat, hk, by omega, e, ?_⟩
  rw [e] at h2
  unfold hds at h2
  simp only [decide_eq_true_eq] at h2
  unfold lhs; omega
theorem by_all {g : Gr} (ok : g.ok) {s : Nat} {r : List Int} (hr : r ∈ g.rules) (hl : lhs r = s) {n : Int} (hh : hitR g r n) : doneB g (g.byL (s : Int)) (g.byL (s : Int)).length n := by
  obtain ⟨k, hk, rfl⟩ := List.mem_iff_getElem.1 hr
  have hf := ok.fit _ hr
  have e : g.rules.getD k [] = g.rules[k] := by rw [List.getD_eq_getElem?_getD, List.getElem?_eq_getElem hk]; rfl
  have hm : ((k : Nat) : Int) ∈ g.byL (s : Int) := by
    rw [mem_byL]
    refine ⟨by unfold inR; omega, ?_⟩
    rw [Int.toNat_natCast, e]
    unfold hds
    simp only [decide_eq_true_eq]
    have := hf.2.2.1
    have := ok.t0
    unfold Gr.made inR at *
    unfold lhs at hl
    exact ⟨hf.1, by omega⟩
  obtain ⟨q, hq, eq⟩ := List.mem_iff_getElem.1 hm
  refine ⟨q, hq, hq, ?_⟩
  have e2 : (g.byL (s : Int)).getD q 0 = (k : Int) := by rw [List.getD_eq_getElem?_getD, List.getElem?_eq_getElem hq, eq]; rfl
  rw [e2, Int.toNat_natCast, e]; exact hh
theorem hit_alone {g : Gr} {s : Nat} {n : Int} (h : allHit g s n) : g.alone s n.toNat := by
  obtain ⟨r, hr, hl, a, b, e, h1, h2⟩ := h
  exact ⟨r, hr, a, n, b, e, ⟨h1, h2⟩, hl.symm, rfl⟩
theorem aget_all_none {E : List (Int × Value)} (h : ∀ n, aget E n = none) : E = [] := by
  cases E with
  | nil => rfl
  | cons p E => have := h p.1; simp [aget] at this
theorem new_row {B t : Heap} {y : AObj} {a b : AObj} : (B ++ (y :: (t ++ [a, b])))[B.length + 1 + t.length + 1]? = some b := by
  rw [List.getElem?_append_right (by omega), show B.length + 1 + t.length + 1 - B.length = (t.length + 1) + 1 by omega, List.getElem?_cons_succ, List.getElem?_append_right (by omega)]
  simp
theorem fnd_set {g : Gr} {s : Nat} {B t : Heap} {E : List (Int × Value)} {D D' : Int → Prop} {n : Int} {k : Nat} {a : AObj} {m : Md} (hgd : ∀ n v, aget E n = some v → GoodV g s B (B ++ (.map (encE E) :: t)) n v) (hdn : ∀ n, D n → aget E n ≠ none)
    (hk : k < g.rules.length) (hl : lhs (g.rules.getD k []) = s) (hh : hitR g (g.rules.getD k []) n) (hD : ∀ n', D' n' → D n' ∨ n' = n) : Fnd g s B D' (B ++ (.map (encE (aset E n (.slice (some ⟨B.length + 1 + t.length + 1, 0, none⟩) 1 1))) :: (t ++ [a, .row [.int .i64 (k : Int)] m]))) := by
  refine ⟨_, _, rfl, fun n' v q => ?_, fun n' q => ?_⟩
  · rw [aget_aset] at q
    split at q
    · rename_i e
      subst e
      cases q
      exact ⟨_, k, m, rfl, by omega, by unfold getRow; rw [new_row], hk, hl, hh⟩
    · exact (hgd n' v q).more
  · rw [aget_aset]
    split
    · simp
    · rename_i e
      exact hdn n' ((hD n' q).resolve_right e)
theorem fnd_keep {g : Gr} {s : Nat} {B t u : Heap} {E : List (Int × Value)} {D' : Int → Prop} (hgd : ∀ n v, aget E n = some v → GoodV g s B (B ++ (.map (encE E) :: t)) n v) (hD : ∀ n', D' n' → aget E n' ≠ none) : Fnd g s B D' (B ++ (.map (encE E) :: (t ++ u))) :=
  ⟨_, _, rfl, fun n' v q => (hgd n' v q).more, hD⟩
theorem chain_spec {g : Gr} (ok : g.ok) {s : Nat} (hs : s < g.n) (hc : g.alone s s ∨ ∀ j, ¬ g.alone s j) {h : Heap} {Q : Value → Heap → Prop}
    (hit : ∀ k : Nat, k < g.rules.length → lhs (g.rules.getD k []) = s → hitR g (g.rules.getD k []) (s : Int) → Q (ints [(k : Int)]) h) (miss : (∀ j, ¬ g.alone s j) → Q (.slice none 0 0) h) : acall Try.prog F_cycles_Chain [g.enc, .int .i64 (s : Int)] h Q := by
  have hnn := ok.nn
  have hrr := ok.rr
  apply W_cycles_Chain_ok
  unfold W_cycles_Chain
  rw [box_gr, hW_some, GAt.ld .box, oW_some]
  refine callW_plain.2 (cright_spec ok ?_)
  rw [u_not, oW_some, bW_bool]
  refine ⟨(fun q => by cases q), fun _ => ?_⟩
  rw [GAt.ld .box, oW_some]
  refine callW_plain.2 (void_spec ok fun f va => ?_)
  have ga0 : GAt (h ++ [grow g] ++ [grow g, AObj.row [bools g.nullL] .exact]) h.length g := GAt.box.app
  have e0 : ∃ X, h ++ [grow g] ++ [grow g, AObj.row [bools g.nullL] .exact] = h ++ X := ⟨_, List.append_assoc ..⟩
  generalize h ++ [grow g] ++ [grow g, AObj.row [bools g.nullL] .exact] = H0 at *
  rw [letH_eq]
  have m0 : getMap (H0 ++ [AObj.map []]) H0.length = some (encE []) := found_map
  rw [up_int m0, sW_some]
  have e1 : (H0 ++ [AObj.map []]).set H0.length (AObj.map (encE (aset [] (s : Int) (.slice none 0 0)))) = H0 ++ [AObj.map (encE [((s : Int), .slice none 0 0)])] := found_set
  rw [e1, bs1n, hW_some]
  have mB : getMap (H0 ++ [AObj.map (encE [((s : Int), .slice none 0 0)])] ++ [AObj.row [.int .i64 (s : Int)] .exact]) H0.length = some (encE [((s : Int), .slice none 0 0)]) := getMap_app found_map
  have wB : getRow (H0 ++ [AObj.map (encE [((s : Int), .slice none 0 0)])] ++ [AObj.row [.int .i64 (s : Int)] .exact]) (H0 ++ [AObj.map (encE [((s : Int), .slice none 0 0)])]).length = some ([.int .i64 (s : Int)], .exact) := by rw [row_app0]; rfl
  have gB : GAt (H0 ++ [AObj.map (encE [((s : Int), .slice none 0 0)])] ++ [AObj.row [.int .i64 (s : Int)] .exact]) h.length g := ga0.app.app
  have vB : VoidAt g (H0 ++ [AObj.map (encE [((s : Int), .slice none 0 0)])] ++ [AObj.row [.int .i64 (s : Int)] .exact]) f := va.app.app
  have eB : ∃ X, H0 ++ [AObj.map (encE [((s : Int), .slice none 0 0)])] ++ [AObj.row [.int .i64 (s : Int)] .exact] = h ++ X := by obtain ⟨X, rfl⟩ := e0; exact ⟨X ++ ([AObj.map (encE [((s : Int), .slice none 0 0)])] ++ [AObj.row [.int .i64 (s : Int)] .exact]), by simp⟩
  generalize (H0 ++ [AObj.map (encE [((s : Int), .slice none 0 0)])]).length = w at *
  generalize H0 ++ [AObj.map (encE [((s : Int), .slice none 0 0)])] ++ [AObj.row [.int .i64 (s : Int)] .exact] = B at *
  generalize H0.length = m1 at *
  clear m0 e1 ga0 va e0
  have lw : lenS (.slice (some ⟨w, 0, none⟩) 1 1) = some (.int .i64 (1 : Int)) := by simp
  refine ⟨ChI1 g h B f s m1 w, 1, gcL_same (.inl ⟨rfl, rfl, rfl⟩), ?_⟩
  rintro k17 x18 x19 x20 x21 x22 h23 (⟨rfl, hv, rfl⟩ | ⟨rfl, hv, ⟨t, rfl⟩, hno⟩)
  rotate_left
  · simp only [ChV, List.cons_append, List.nil_append, List.cons.injEq, and_true] at hv
    obtain ⟨rfl, rfl, rfl, rfl, rfl⟩ := hv
    rw [lenI, oW_some, n_gtr, oW_some, bW_dec]
    refine ⟨fun q => absurd q (by simp), fun _ => ?_⟩
    obtain ⟨X, rfl⟩ := eB
    rw [List.append_assoc]
    exact gcV_box .nilS (miss hno)
  simp only [ChV, List.cons_append, List.nil_append, List.cons.injEq, and_true] at hv
  obtain ⟨rfl, rfl, rfl, rfl, rfl⟩ := hv
  rw [lw, oW_some, n_gtr, oW_some, bW_dec]
  refine ⟨fun _ => ?_, fun q => absurd (by omega) q⟩
  rw [letH_eq, oW_some]
  refine ⟨ChI2 g h h23 x20 s m1 w, 1, gcL_same ⟨0, rfl, ⟨[], [], rfl, fun n v q => by simp [aget] at q, fun n q => absurd q.1 (by omega)⟩, rfl, by omega⟩, ?_⟩
  rintro k31 x32 x33 x34 x35 x36 x37 x38 x39 h40 ⟨i, hv, fd, hk, hi⟩
  simp only [ChV, List.cons_append, List.nil_append, List.cons.injEq, and_true] at hv
  obtain ⟨rfl, rfl, rfl, rfl, rfl, rfl, rfl, rfl⟩ := hv
  rw [n_lss, oW_some, bW_dec]
  constructor
  · intro hlt
    have hi0 : i = 0 := by omega
    subst hi0
    obtain ⟨t, E, rfl, hgd, hdn⟩ := fd
    refine ⟨_, iaS_slice (by omega), ?_⟩
    show oW (ldW false 1 _ (.pointer (some ⟨w, 0 + 0 * 1, none⟩))) _
    rw [ldW_one, getRow_app wB]
    show oW (some (.int .i64 (s : Int))) _
    rw [oW_some, gB.app.ld, oW_some]
    refine callW_plain.2 (by_spec (by omega) ?_)
    rw [lenI, oW_some]
    refine ⟨ChI3 g h h23 x34 s m1 w (g.byL (s : Int)), (g.byL (s : Int)).length, gcL_same ⟨0, rfl, ⟨t, E, rfl, hgd, fun n ⟨_, q, _⟩ => by omega⟩, rfl, by omega⟩, ?_⟩
    clear hgd hdn
    have hbl := byTo_len (g := g) (x := (s : Int)) (i := g.rules.length)
    rintro k51 x52 x53 x54 x55 x56 x57 x58 x59 x60 x61 x62 x63 h64 ⟨q, hv, fd, hk2, hq⟩
    simp only [ChV, List.cons_append, List.nil_append, List.cons.injEq, and_true] at hv
    obtain ⟨rfl, rfl, rfl, rfl, rfl, rfl, rfl, rfl, rfl, rfl, rfl, rfl⟩ := hv
    have hbl2 : (g.byL (s : Int)).length ≤ 256 := by unfold Gr.byL; omega
    rw [n_lss, oW_some, bW_dec]
    constructor
    · intro hltq
      have hq' : q < (g.byL (s : Int)).length := by omega
      obtain ⟨k, hkl, ek, eg, hlk⟩ := by_row ok (List.getElem_mem hq')
      refine ix_ints hq' ?_
      rw [ek]
      have hgq : (g.byL (s : Int)).getD q 0 = (k : Int) := by rw [List.getD_eq_getElem?_getD, List.getElem?_eq_getElem hq', ek]; rfl
      have gE : GAt h64 h.length g := by obtain ⟨t, E, rfl, _⟩ := fd; exact gB.app
      refine gE.rules (ix_rules hkl ?_)
      have hr : g.rules[k] ∈ g.rules := List.getElem_mem hkl
      have hfit := ok.fit _ hr
      generalize g.rules[k] = r at *
      have hdl : (r.drop 1).length = r.length - 1 := by simp
      have h0 := hfit.1
      have h9 := hfit.2.1
      rw [sl1 h0, oW_some, lenI, oW_some]
      refine ⟨ChI4 g h h23 x54 s m1 w (g.byL (s : Int)) q r k, (r.drop 1).length, gcL_same ⟨0, rfl, ?_, rfl, by omega⟩, ?_⟩
      · obtain ⟨t, E, e, hgd, hdn⟩ := fd
        exact ⟨t, E, e, hgd, fun n z => hdn n (z.resolve_right fun ⟨_, _, _, z, _⟩ => by omega)⟩
      clear fd gE
      rintro k77 x78 x79 x80 x81 x82 x83 x84 x85 x86 x87 x88 x89 x90 x91 x92 x93 x94 h95 ⟨j, hv, fd, hk3, hj⟩
      simp only [ChP, ChV, List.cons_append, List.nil_append, List.cons.injEq, and_true] at hv
      obtain ⟨rfl, rfl, rfl, rfl, rfl, rfl, rfl, rfl, rfl, rfl, rfl, rfl, rfl, rfl, rfl, rfl, rfl⟩ := hv
      rw [n_lss, oW_some, bW_dec]
      constructor
      · intro hltj
        have hj' : j < (r.drop 1).length := by omega
        have hsp := drop1_split hj'
        have hal : ((r.take (j + 1)).drop 1).length = j := by rw [List.length_drop, List.length_take]; omega
        obtain ⟨x, ex⟩ : ∃ x, (r.drop 1)[j] = x := ⟨_, rfl⟩
        obtain ⟨a, ea⟩ : ∃ a, (r.take (j + 1)).drop 1 = a := ⟨_, rfl⟩
        obtain ⟨b, eb⟩ : ∃ b, r.drop (j + 2) = b := ⟨_, rfl⟩
        have hcomp : ∀ n, (doneB g (g.byL (s : Int)) q n ∨ ∃ a b, r.drop 1 = a ++ n :: b ∧ a.length < j + 1 ∧ emptyR g a ∧ emptyR g b) → (doneB g (g.byL (s : Int)) q n ∨ ∃ a b, r.drop 1 = a ++ n :: b ∧ a.length < j ∧ emptyR g a ∧ emptyR g b) ∨ (n = x ∧ emptyR g a ∧ emptyR g b) := fun n z => by
          rcases z with z | ⟨a', b', e, hl, z1, z2⟩
          · exact .inl (.inl z)
          · by_cases hlj : a'.length < j
            · exact .inl (.inr ⟨a', b', e, hlj, z1, z2⟩)
            · rw [hsp] at e
              have := List.append_inj e (by omega)
              simp only [List.cons.injEq] at this
              obtain ⟨q1, q2, q3⟩ := this
              rw [ea] at q1; rw [ex] at q2; rw [eb] at q3
              subst q1 q2 q3
              exact .inr ⟨rfl, z1, z2⟩
        have hitx : emptyR g a ∧ emptyR g b → hitR g r x := fun z => ⟨a, b, by rw [hsp, ea, ex, eb], z.1, z.2⟩
        refine ix_ints hj' ?_
        rw [ex]
        obtain ⟨t, E, rfl, hgd, hdn⟩ := fd
        have mA : ∀ t, getMap (h23 ++ t) m1 = some (encE [((s : Int), .slice none 0 0)]) := fun t => getMap_app mB
        rw [lk_int2 (mA _), oW_some, exA', oW_some, exB', oW_some]
        have tst := chTst_spec (g := g) (I74 := ChI4 g h h23 x80 s m1 w (g.byL (s : Int)) q r k) (k77 := k77) (M102 := ChM g h h23 x80 s m1 w (g.byL (s : Int)) q r k x j a b (h23 ++ (.map (encE E) :: t)))
          (pre := ChP h h23 x80 s m1 w (g.byL (s : Int)) q r k) (args := ChX h h23 x80 s m1 w (g.byL (s : Int)) q r k x j) (j := j) (H := h23 ++ (.map (encE E) :: t)) (h := h) (r := r) (f := x80)
          vB.app h9 hj' hfit.2.2.2 (fun z => by
            rw [ea, eb] at z
            exact ⟨(r.drop 1).length - (j + 1), by omega, gcL_same ⟨j + 1, rfl, ⟨t, E, rfl, hgd, fun n q => hdn n ((hcomp n q).resolve_right fun q => z q.2)⟩, rfl, by omega⟩⟩) (fun z => by
            rw [ea, eb] at z
            exact gcL_same ⟨rfl, rfl, z.1, z.2⟩)
        refine ⟨ChM g h h23 x80 s m1 w (g.byL (s : Int)) q r k x j a b (h23 ++ (.map (encE E) :: t)), ?_, ?_⟩
        rotate_left
        · rintro x129 x130 x131 x132 x133 x134 x135 x136 x137 x138 x139 x140 x141 x142 x143 x144 x145 x146 h147 ⟨hv, rfl, za, zb⟩
          simp only [ChX, ChV, List.cons_append, List.nil_append, List.cons.injEq, and_true] at hv
          obtain ⟨rfl, rfl, rfl, rfl, rfl, rfl, rfl, rfl, rfl, rfl, rfl, rfl, rfl, rfl, rfl, rfl, rfl, rfl⟩ := hv
          rw [lk_int (mA _), show (aget [((s : Int), Value.slice none 0 0)] (s : Int)).getD (.slice none 0 0) = .slice none 0 0 by simp [aget], oW_some]
          refine callW_plain.2 (clone_nil (ap_nil1 ?_))
          have el : (h23 ++ (AObj.map (encE E) :: t)).length + 1 = h23.length + 1 + t.length + 1 := by simp; omega
          rw [el, List.append_assoc, List.cons_append, lk_int2 found_map, oW_some, exA', oW_some, exB', oW_some]
          have hx' := hitx ⟨za, zb⟩
          have hset : Fnd g s h23 (fun n => doneB g (g.byL (s : Int)) q n ∨ ∃ a b, r.drop 1 = a ++ n :: b ∧ a.length < j + 1 ∧ emptyR g a ∧ emptyR g b) (h23 ++ (.map (encE (aset E x (.slice (some ⟨h23.length + 1 + t.length + 1, 0, none⟩) 1 1))) :: (t ++ [.row [.int .i64 (k : Int)] .exact, .row [.int .i64 (k : Int)] (.grown 1)]))) :=
            fnd_set hgd hdn hkl (by rw [eg]; exact hlk) (by rw [eg]; exact hx') fun n' q => (hcomp n' q).imp id fun z => z.1
          cases eo : aget E x with
          | none =>
            show oW (unA .not (.bool false)) _
            rw [u_not, oW_some]
            show bW (.bool true) _ _
            rw [bW_true, bW_true, up_int found_map, sW_some, found_set, n_add (by omega), oW_some]
            exact ⟨(r.drop 1).length - (j + 1), by omega, gcL_same ⟨j + 1, rfl, hset, rfl, by omega⟩⟩
          | some old =>
            show oW (unA .not (.bool true)) _
            rw [u_not, oW_some]
            show bW (.bool false) _ _
            rw [bW_false]
            obtain ⟨p, k', m', rfl, hp, hrow, _⟩ := GoodV.more (g := g) (s := s) (hgd x old eo) (x := encE E) (u := [.row [.int .i64 (k : Int)] .exact, .row [.int .i64 (k : Int)] (.grown 1)])
            refine callW_plain.2 (compare1_spec (a := (k : Int)) (b := (k' : Int)) (m := .grown 1) (m' := m') (by unfold getRow; rw [new_row]) hrow fun c => ?_)
            rw [n_lss, oW_some, bW_dec]
            constructor
            · intro _
              rw [up_int found_map, sW_some, found_set, n_add (by omega), oW_some]
              exact ⟨(r.drop 1).length - (j + 1), by omega, gcL_same ⟨j + 1, rfl, hset, rfl, by omega⟩⟩
            · intro _
              rw [n_add (by omega), oW_some]
              refine ⟨(r.drop 1).length - (j + 1), by omega, gcL_same ⟨j + 1, rfl, fnd_keep hgd fun n' q => ?_, rfl, by omega⟩⟩
              rcases hcomp n' q with z | ⟨rfl, _⟩
              · exact hdn n' z
              · rw [eo]; simp
        · by_cases exs : x = (s : Int)
          · have : (aget [((s : Int), Value.slice none 0 0)] x).isSome = true := by simp [aget, exs]
            rw [this, bW_true, n_neq, oW_some, decide_eq_false (by simp [exs]), bW_false]
            exact tst
          · have : (aget [((s : Int), Value.slice none 0 0)] x).isSome = false := by simp [aget, Ne.symm exs]
            rw [this, bW_false]
            exact tst
      · intro _
        rw [n_add (by omega), oW_some]
        refine ⟨(g.byL (s : Int)).length - (q + 1), by omega, gcL_same ⟨q + 1, rfl, ?_, rfl, by omega⟩⟩
        obtain ⟨t, E, e, hgd, hdn⟩ := fd
        refine ⟨t, E, e, hgd, fun n ⟨q', z1, z2, z3⟩ => hdn n ?_⟩
        by_cases ez : q' = q
        · subst ez
          rw [hgq, Int.toNat_natCast, eg] at z3
          obtain ⟨a, b, e, h1, h2⟩ := z3
          refine .inr ⟨a, b, e, ?_, h1, h2⟩
          have := congrArg List.length e
          rw [List.length_append, List.length_cons] at this; omega
        · exact .inl ⟨q', by omega, z2, z3⟩
    · intro hge
      have hqe : q = (g.byL (s : Int)).length := by omega
      subst hqe
      rw [n_add (by omega), oW_some]
      refine ⟨0, by omega, gcL_same ⟨1, rfl, ?_, rfl, by omega⟩⟩
      obtain ⟨t, E, e, hgd, hdn⟩ := fd
      exact ⟨t, E, e, hgd, fun n ⟨_, r, hr, hl, hh⟩ => hdn n (by_all ok hr hl hh)⟩
  · intro hge
    have hi1 : i = 1 := by omega
    subst hi1
    obtain ⟨t, E, rfl, hgd, hdn⟩ := fd
    rw [lk_int2 found_map, oW_some, exA', oW_some, exB', oW_some]
    cases ev : aget E (s : Int) with
    | some v =>
      show bW (.bool true) _ _
      rw [bW_true]
      obtain ⟨p, k, m, rfl, hp, hrow, hk1, hk2, hk3⟩ := hgd _ _ ev
      obtain ⟨X, rfl⟩ := eB
      rw [List.append_assoc] at hrow ⊢
      refine gcV_end (v2 := ints [(k : Int)]) (Gv.frz1 (fr := frOf h.length []) (i := p) ⟨by simp at hp; omega, by simp⟩ (getRow_eq hrow) rfl fun e he => ?_) (hit k hk1 hk2 hk3)
      simp at he; subst he; exact ⟨rfl, .int _ _⟩
    | none =>
      show bW (.bool false) _ _
      rw [bW_false]
      have hna : ¬ g.alone s s := fun ⟨r, hr, a, x, b, e, ⟨z1, z2⟩, hl, hx⟩ => by
        have hxr := (ok.fit r hr).2.2.2 x (by rw [e]; simp)
        unfold inR at hxr
        have : x = (s : Int) := by omega
        subst this
        exact hdn _ ⟨rfl, r, hr, hl.symm, a, b, e, z1, z2⟩ ev
      have hno := hc.resolve_left hna
      have hE : E = [] := aget_all_none fun n => by
        cases en : aget E n with
        | none => rfl
        | some v =>
          obtain ⟨p, k, m, _, _, _, hk1, hk2, hk3⟩ := hgd _ _ en
          have e : g.rules.getD k [] = g.rules[k] := by rw [List.getD_eq_getElem?_getD, List.getElem?_eq_getElem hk1]; rfl
          rw [e] at hk2 hk3
          exact absurd (hit_alone ⟨_, List.getElem_mem hk1, hk2, hk3⟩) (hno _)
      subst hE
      refine callW_plain.2 (copyNone_spec (getMap_app mB) found_map ?_)
      refine callW_plain.2 ((sortedKeysC_spec (E := []) (s := []) found_map rfl .nil (by simp) (by simp) fun l _ hl t' => ?_).mono fun v h q => callW_plain.2 q)
      have hl0 : l = [] := List.eq_nil_iff_forall_not_mem.2 fun x hx => by simpa using (hl x).1 hx
      subst hl0
      exact ⟨0, by omega, gcL_same (.inr ⟨rfl, rfl, ⟨_, List.append_assoc ..⟩, hno⟩)⟩
end Go.Ax
namespace Go.Ax
open Go Go.Proofs Go.RowKit
/-- Frozen, if it is a row. -/
def roO : AObj → AObj
  | .row c _ => .row c .ro
  | o => o
def isRow (o : AObj) : Prop := ∃ c m, o = .row c m
/-- All that is past some objects, rows all of it, is frozen. -/
theorem gh_roT {h t : Heap} (ht : ∀ o ∈ t, isRow o) : Gh (h ++ t) (fun i => h.length ≤ i) (idR (h ++ t)) (h ++ t) (h ++ t.map roO) := by
  have hl : (h ++ t.map roO).length = (h ++ t).length := by simp
  have low : ∀ j, j < h.length → (h ++ t.map roO)[j]? = (h ++ t)[j]? := fun j hj => by rw [List.getElem?_append_left hj, List.getElem?_append_left hj]
  have high : ∀ j o2, h.length ≤ j → (h ++ t.map roO)[j]? = some o2 → ∃ c m, (h ++ t)[j]? = some (.row c m) ∧ o2 = .row c .ro := fun j o2 hj he => by
    rw [List.getElem?_append_right hj, List.getElem?_map] at he
    rw [List.getElem?_append_right hj]
    cases ho : t[j - h.length]? with
    | none => rw [ho] at he; cases he
    | some o =>
      rw [ho] at he
      obtain ⟨c, m, rfl⟩ := ht o (List.mem_of_getElem? ho)
      cases he
      exact ⟨c, m, rfl, rfl⟩
  refine ⟨fun j hj => idR_lt hj, by rw [hl]; exact Nat.le_refl _, fun j i e => by rw [hl]; exact (idR_of e).1, fun j c2 m2 hj => ?_, fun j es hj => ?_, fun j k i hj hk _ _ => by rw [← (idR_of hj).2, ← (idR_of hk).2]⟩
  · have hlt : j < (h ++ t).length := by rw [← hl]; exact (List.getElem?_eq_some_iff.1 hj).1
    by_cases q : j < h.length
    · rw [low j q] at hj
      exact ⟨j, c2, m2, idR_lt hlt, hj, rfl, .inr ⟨rfl, m2, hj⟩, .inl rfl, fun z => absurd z (by omega)⟩
    · obtain ⟨c, m, h1, h2⟩ := high j _ (by omega) hj
      cases h2
      exact ⟨j, c2, m, idR_lt hlt, h1, rfl, .inr ⟨rfl, m, h1⟩, .inr rfl, fun _ => by simp [onL]⟩
  · have hlt : j < (h ++ t).length := by rw [← hl]; exact (List.getElem?_eq_some_iff.1 hj).1
    by_cases q : j < h.length
    · rw [low j q] at hj
      exact ⟨j, es, idR_lt hlt, by omega, hj, rfl, .inr ⟨rfl, hj⟩⟩
    · obtain ⟨c, m, h1, h2⟩ := high j _ (by omega) hj
      cases h2
theorem gv_ints {H : Heap} {fr : Nat → Prop} {r : Nat → Option Nat} {i : Nat} {l : List Int} {m : Md} {n : Nat} (hf : fr i) (hi : H[i]? = some (.row (l.map fun n => .int .i64 n) m)) (hn : n = l.length) : Gv fr r H (ints l) (.slice (some ⟨i, 0, none⟩) n n) :=
  Gv.frz1 hf hi (by rw [hn]; simp) fun e he => by obtain ⟨b, _, rfl⟩ := List.mem_map.1 he; exact ⟨rfl, .int _ _⟩
theorem gv_bools {H : Heap} {fr : Nat → Prop} {r : Nat → Option Nat} {i : Nat} {l : List Bool} {m : Md} {n : Nat} (hf : fr i) (hi : H[i]? = some (.row (l.map .bool) m)) (hn : n = l.length) : Gv fr r H (bools l) (.slice (some ⟨i, 0, none⟩) n n) :=
  Gv.frz1 hf hi (by rw [hn]; simp) fun e he => by obtain ⟨b, _, rfl⟩ := List.mem_map.1 he; exact ⟨rfl, .bool _⟩
/-- The example's grammar. -/
def cyG : Gr := ⟨[⟨#[97]⟩, ⟨#[83]⟩, ⟨#[84]⟩], 1, [0], [[1, 1], [1, 2, 0], [2]], 1⟩
theorem cy_rule {r : List Int} (hr : r ∈ cyG.rules) : r = [1, 1] ∨ r = [1, 2, 0] ∨ r = [2] := by simpa [cyG] using hr
theorem cyG_ok : cyG.ok := by
  refine ⟨by decide, by decide, by decide, by decide, by decide, by decide, by decide, fun r hr => ?_, fun s h1 h2 => ?_⟩
  · rcases cy_rule hr with rfl | rfl | rfl <;> decide
  · have h1' : (1 : Int) ≤ s := h1
    have h2' : s < 3 := h2
    have : s = 1 ∨ s = 2 := by omega
    rcases this with rfl | rfl
    · exact ⟨[1, 1], by simp [cyG], rfl⟩
    · exact ⟨[2], by simp [cyG], rfl⟩
theorem cy_r0 : ([1, 1] : List Int) ∈ cyG.rules := by simp [cyG]
theorem cy_r1 : ([1, 2, 0] : List Int) ∈ cyG.rules := by simp [cyG]
theorem cy_r2 : ([2] : List Int) ∈ cyG.rules := by simp [cyG]
theorem cy_null2 : cyG.null 2 := .mk (ps := []) ⟨[2], cy_r2, rfl⟩ (by simp)
theorem cy_null {i : Nat} (h : cyG.null i) : i = 2 := h.least (S := fun i => i = 2) fun x ps hc hp => by
  obtain ⟨r, hr, e⟩ := hc
  cases e
  rcases cy_rule hr with rfl | rfl | rfl
  · have := hp 1 (by simp [rhs]); omega
  · have := hp 0 (by simp [rhs]); omega
  · rfl
theorem cy_on {i : Nat} : onL cyG.nullL i ↔ i = 2 := by
  unfold Gr.nullL
  rw [setL_on]
  exact ⟨fun q => cy_null q.2, fun q => by subst q; exact ⟨by decide, cy_null2⟩⟩
theorem cy_split {r a b : List Int} {x : Int} (hr : r ∈ cyG.rules) (e : r.drop 1 = a ++ x :: b) : lhs r = 1 ∧ ((a = [] ∧ x = 1 ∧ b = []) ∨ (a = [] ∧ x = 2 ∧ b = [0]) ∨ (a = [2] ∧ x = 0 ∧ b = [])) := by
  rcases cy_rule hr with rfl | rfl | rfl
  · refine ⟨rfl, .inl ?_⟩
    match a, e with
    | [], e => cases e; exact ⟨rfl, rfl, rfl⟩
    | _ :: a, e => simp at e
  · refine ⟨rfl, .inr ?_⟩
    match a, e with
    | [], e => cases e; exact .inl ⟨rfl, rfl, rfl⟩
    | [_], e => cases e; exact .inr ⟨rfl, rfl, rfl⟩
    | _ :: _ :: a, e => simp at e
  · simp at e
theorem cy_empty0 : ¬ emptyR cyG [0] := fun h => by have := cy_on.1 (h 0 (by simp)); cases this
theorem cy_alone {i j : Nat} (h : cyG.alone i j) : i = 1 ∧ (j = 1 ∨ j = 0) := by
  obtain ⟨r, hr, a, x, b, e, ⟨h1, h2⟩, rfl, rfl⟩ := h
  obtain ⟨hl, ⟨rfl, rfl, rfl⟩ | ⟨rfl, rfl, rfl⟩ | ⟨rfl, rfl, rfl⟩⟩ := cy_split hr e
  · exact ⟨hl, .inl rfl⟩
  · exact absurd h2 cy_empty0
  · exact ⟨hl, .inr rfl⟩
theorem cy_alone11 : cyG.alone 1 1 := ⟨_, cy_r0, [], 1, [], rfl, ⟨by simp [emptyR], by simp [emptyR]⟩, rfl, rfl⟩
theorem cy_ahead {m i j : Nat} (h : cyG.ahead m i j) : i = 1 ∧ (1 ≤ m → j = 0) := by
  obtain ⟨r, hr, a, x, b, e, ⟨h1, h2⟩, rfl, rfl⟩ := h
  obtain ⟨hl, ⟨rfl, rfl, rfl⟩ | ⟨rfl, rfl, rfl⟩ | ⟨rfl, rfl, rfl⟩⟩ := cy_split hr e
  · exact ⟨hl, fun q => by simp at h1; omega⟩
  · exact ⟨hl, fun q => by simp at h1; omega⟩
  · exact ⟨hl, fun _ => rfl⟩
theorem cy_ahead11 : cyG.ahead 0 1 1 := ⟨_, cy_r0, [], 1, [], rfl, ⟨by simp, by simp [emptyR]⟩, rfl, rfl⟩
theorem plus_fst {R : Nat → Nat → Prop} {P : Nat → Prop} (h : ∀ a b, R a b → P a) {a b : Nat} (q : Plus R a b) : P a := by
  cases q with
  | one z => exact h _ _ z
  | cons z _ => exact h _ _ z
theorem plus_snd {R : Nat → Nat → Prop} {P : Nat → Prop} (h : ∀ a b, R a b → P b) {a b : Nat} (q : Plus R a b) : P b := by
  induction q with
  | one z => exact h _ _ z
  | cons _ _ ih => exact ih
theorem allThree {P : Nat → Prop} (h0 : P 0) (h1 : P 1) (h2 : P 2) : ∀ i, i < 3 → P i := fun i hi => by
  match i, hi with
  | 0, _ => exact h0
  | 1, _ => exact h1
  | 2, _ => exact h2
theorem cy_cycL : cyG.cycL = [false, true, false] := (eq_setL (n := 3) rfl (allThree ⟨fun q => by simp [onL] at q, fun q => by have := plus_fst (P := fun i => i = 1) (fun a b z => (cy_alone z).1) q; omega⟩ ⟨fun _ => .one cy_alone11, fun _ => by simp [onL]⟩ ⟨fun q => by simp [onL] at q, fun q => by have := plus_fst (P := fun i => i = 1) (fun a b z => (cy_alone z).1) q; omega⟩)).symm
theorem cy_leftL : cyG.leftL = [false, true, false] := (eq_setL (n := 3) rfl (allThree ⟨fun q => by simp [onL] at q, fun q => by have := plus_fst (P := fun i => i = 1) (fun a b z => (cy_ahead z).1) q; omega⟩ ⟨fun _ => .one cy_ahead11, fun _ => by simp [onL]⟩ ⟨fun q => by simp [onL] at q, fun q => by have := plus_fst (P := fun i => i = 1) (fun a b z => (cy_ahead z).1) q; omega⟩)).symm
theorem cy_hid {s : Nat} : ¬ cyG.hid s := by
  rintro ⟨i, j, hd, h1, h2⟩
  obtain ⟨rfl, hj⟩ := cy_ahead hd
  have hj0 := hj (Nat.le_refl _)
  subst hj0
  have hs : s = 1 := h1.elim (fun e => e.symm) fun q => plus_fst (P := fun i => i = 1) (fun a b z => (cy_ahead z).1) q
  rcases h2 with e | q
  · omega
  · have := plus_fst (P := fun i => i = 1) (fun a b z => (cy_ahead z).1) q; omega
theorem cy_hidL : cyG.hidL = [false, false, false] := (eq_setL (n := 3) rfl (allThree ⟨fun q => by simp [onL] at q, fun q => absurd q cy_hid⟩ ⟨fun q => by simp [onL] at q, fun q => absurd q cy_hid⟩ ⟨fun q => by simp [onL] at q, fun q => absurd q cy_hid⟩)).symm
abbrev cyT (h : Heap) (m : Md) : Heap := [.row [.string ⟨#[97]⟩, .string ⟨#[83]⟩, .string ⟨#[84]⟩] m, .row [.int .i64 0] m, .row [.int .i64 1, .int .i64 1] m, .row [.int .i64 1, .int .i64 2, .int .i64 0] m, .row [.int .i64 2] m, .row [.slice (some ⟨h.length + 2, 0, none⟩) 2 2, .slice (some ⟨h.length + 3, 0, none⟩) 3 3, .slice (some ⟨h.length + 4, 0, none⟩) 1 1] m,
  .row [.slice (some ⟨h.length, 0, none⟩) 3 3, .int .i64 1, .slice (some ⟨h.length + 1, 0, none⟩) 1 1, .slice (some ⟨h.length + 5, 0, none⟩) 3 3, .int .i64 1] m]
abbrev cyR (h : Heap) : Value := .agg #[.slice (some ⟨h.length, 0, none⟩) 3 3, .int .i64 1, .slice (some ⟨h.length + 1, 0, none⟩) 1 1, .slice (some ⟨h.length + 5, 0, none⟩) 3 3, .int .i64 1]
theorem cyT_row {h : Heap} {m : Md} : ∀ o ∈ cyT h m, isRow o := by
  intro o ho
  simp only [cyT, List.mem_cons, List.not_mem_nil, or_false] at ho
  rcases ho with rfl | rfl | rfl | rfl | rfl | rfl | rfl <;> exact ⟨_, _, rfl⟩
theorem cyR_gv {h X : Heap} {m : Md} : Gv (fun i => h.length ≤ i) (idR (h ++ (cyT h m ++ X))) (h ++ (cyT h m ++ X)) cyG.enc (cyR h) := by
  have at_ : ∀ k o, (cyT h m)[k]? = some o → (h ++ (cyT h m ++ X))[h.length + k]? = some o := fun k o he => by
    rw [List.getElem?_append_right (by omega), Nat.add_sub_cancel_left, List.getElem?_append_left (List.getElem?_eq_some_iff.1 he).1]; exact he
  refine .agg _ _ rfl fun i p q => ?_
  match i, p with
  | 0, _ =>
    refine Gv.frz1 (es := [.string ⟨#[97]⟩, .string ⟨#[83]⟩, .string ⟨#[84]⟩]) (by simp) (at_ 0 _ rfl) rfl fun e he => ?_
    simp at he
    rcases he with rfl | rfl | rfl <;> exact ⟨rfl, .str _⟩
  | 1, _ => exact .cl (.int _ _)
  | 2, _ => exact gv_ints (l := [0]) (by simp) (at_ 1 _ rfl) rfl
  | 3, _ =>
    have g0 : Gv (fun i => h.length ≤ i) (idR (h ++ (cyT h m ++ X))) (h ++ (cyT h m ++ X)) (ints [1, 1]) (.slice (some ⟨h.length + 2, 0, none⟩) 2 2) := gv_ints (by simp) (at_ 2 _ rfl) rfl
    have g1 : Gv (fun i => h.length ≤ i) (idR (h ++ (cyT h m ++ X))) (h ++ (cyT h m ++ X)) (ints [1, 2, 0]) (.slice (some ⟨h.length + 3, 0, none⟩) 3 3) := gv_ints (by simp) (at_ 3 _ rfl) rfl
    have g2 : Gv (fun i => h.length ≤ i) (idR (h ++ (cyT h m ++ X))) (h ++ (cyT h m ++ X)) (ints [2]) (.slice (some ⟨h.length + 4, 0, none⟩) 1 1) := gv_ints (by simp) (at_ 4 _ rfl) rfl
    refine .frzS #[ints [1, 1], ints [1, 2, 0], ints [2]] (h.length + 5) 0 1 3 _ m (by simp) (at_ 5 _ rfl) (by omega) (fun k p => ?_) (by simp) fun k j p p2 p3 => ?_
    · match k, p with
      | 0, _ => rfl
      | 1, _ => rfl
      | 2, _ => rfl
    · match k, j, p, p2 with
      | 0, 0, _, _ => exact g0
      | 1, 0, _, _ => exact g1
      | 2, 0, _, _ => exact g2
      | 0, _ + 1, _, p2 => simp at p2
      | 1, _ + 1, _, p2 => simp at p2
      | 2, _ + 1, _, p2 => simp at p2
  | 4, _ => exact .cl (.int _ _)
/-- What awake has made: the grammar's rows, and other rows. -/
def CyH (h H : Heap) : Prop := ∃ X m, H = h ++ (cyT h m ++ X) ∧ ∀ o ∈ X, isRow o
theorem CyH.call {h H : Heap} (a : CyH h H) {f : FuncId} {args args2 : List Value} {Q : Value → Heap → Prop} (gv : GvL (fun i => h.length ≤ i) (idR H) H args2 args) (k : ∀ H', CyH h H' → acall Try.prog f args2 H' Q) : callW Try.prog (fn f) args H Q := by
  obtain ⟨X, m, rfl, hX⟩ := a
  have ht : ∀ o ∈ cyT h m ++ X, isRow o := fun o ho => by
    rcases List.mem_append.1 ho with q | q
    · exact cyT_row o q
    · exact hX o q
  refine callW_plain.2 (acall_frz (gh_roT ht) gv ?_)
  rw [List.map_append]
  refine k _ ⟨X.map roO, .ro, rfl, fun o ho => ?_⟩
  obtain ⟨o', ho', rfl⟩ := List.mem_map.1 ho
  obtain ⟨c, m', rfl⟩ := hX o' ho'
  exact ⟨c, .ro, rfl⟩
theorem CyH.le {h H : Heap} (a : CyH h H) : h.length ≤ H.length := by
  obtain ⟨X, m, rfl, _⟩ := a; simp
theorem CyH.row {h H : Heap} (a : CyH h H) {c : List Value} {m : Md} : CyH h (H ++ [.row c m]) := by
  obtain ⟨X, m', rfl, hX⟩ := a
  refine ⟨X ++ [.row c m], m', by simp, fun o ho => ?_⟩
  rcases List.mem_append.1 ho with q | q
  · exact hX o q
  · simp at q; subst q; exact ⟨c, m, rfl⟩
theorem CyH.gv {h H : Heap} (a : CyH h H) : Gv (fun i => h.length ≤ i) (idR H) H cyG.enc (cyR h) := by
  obtain ⟨X, m, rfl, _⟩ := a; exact cyR_gv
theorem CyH.ld {h H : Heap} (a : CyH h H) : ldW true 5 H (.pointer (some ⟨h.length + 6, 0, none⟩)) = some (cyR h) := by
  obtain ⟨X, m, rfl, _⟩ := a
  rw [ldW_agg, row_app]; rfl
theorem CyH.end_ {h H : Heap} (a : CyH h H) {Q : Value → Heap → Prop} {b : Bool} (hq : Q (.bool b) h) : gcV h Q (.bool b) H := by
  obtain ⟨X, m, rfl, _⟩ := a
  exact gcV_box (.bool _) hq
theorem bs3c {H : Heap} {a b c : Bool} : bslW H 3 [(.bool false), (.bool false), (.bool false)] [(0, 1, (.bool a)), (1, 1, (.bool b)), (2, 1, (.bool c))] = some (.slice (some ⟨H.length, 0, none⟩) 3 3, H ++ [.row [.bool a, .bool b, .bool c] .exact]) := by
  simp [bslW, okVal, cellsOf]
theorem atLast {H : Heap} {o : AObj} : (H ++ [o])[H.length]? = some o := by simp
/-- Ask for a row of bools, and compare. -/
theorem cy_bools {h H : Heap} (a : CyH h H) {f : FuncId} {l : List Bool} {x y z : Bool} (hl : l = [x, y, z]) (spec : ∀ (H : Heap) (Q : Value → Heap → Prop), Q (bools l) H → acall Try.prog f [cyG.enc] H Q) {K : Value → Heap → Prop} (k : ∀ H', CyH h H' → K (.bool true) H') :
    oW (ldW true 5 H (.pointer (some ⟨h.length + 6, 0, none⟩))) fun v => callW Try.prog (fn f) [v] H fun w H1 => hW (bslW H1 3 [(.bool false), (.bool false), (.bool false)] [(0, 1, (.bool x)), (1, 1, (.bool y)), (2, 1, (.bool z))]) fun u H2 => callW Try.prog (fn F_homographref17_Bools) [w, u] H2 K := by
  rw [a.ld, oW_some]
  refine a.call (args2 := [cyG.enc]) ⟨a.gv, trivial⟩ fun H1 a1 => spec _ _ ?_
  rw [bs3c, hW_some]
  refine a1.row.call (args2 := [bools l, bools [x, y, z]]) ⟨.cl cl_bl, gv_bools a1.le atLast rfl, trivial⟩ fun H2 a2 => eqBools_spec (by rw [hl]; simp) ?_
  rw [decide_eq_true hl]
  exact k H2 a2
theorem cy_cell {H : Heap} {j : Nat} (hj : j < 3) {K : Value → Prop} (k : ∀ b, (b = true ↔ Plus cyG.alone 1 j) → K (.bool b)) : oW (iaS 1 (lit (cyG.aloneT.map bools)) (.int .i64 1)) fun v => oW (ldW false 1 H v) fun w => oW (iaS 1 w (.int .i64 (j : Int))) fun u => oW (ldW false 1 H u) K := by
  have hl : 1 < cyG.aloneT.length := by unfold Gr.aloneT; rw [tabS_len]; decide
  refine ix_rowsB (i := 1) hl ?_
  have e : cyG.aloneT[1] = setL 3 (Plus cyG.alone 1) := tabS_row hl
  rw [e]
  refine ix_bool (n := 3) (by simp) (by unfold inR; omega) (k _ ?_)
  rw [decide_eq_true_eq, Int.toNat_natCast, setL_on]
  exact ⟨fun q => q.2, fun q => ⟨hj, q⟩⟩
theorem awake18_spec {h : Heap} {Q : Value → Heap → Prop} (hq : Q (.bool true) h) : acall Try.prog F_homographlaw18_awake [] h Q := by
  apply W_homographlaw18_awake_ok
  unfold W_homographlaw18_awake
  have e1 : bslW h 3 [(.string ⟨#[]⟩), (.string ⟨#[]⟩), (.string ⟨#[]⟩)] [(0, 1, (.string ⟨#[97]⟩)), (1, 1, (.string ⟨#[83]⟩)), (2, 1, (.string ⟨#[84]⟩))] = some (.slice (some ⟨h.length, 0, none⟩) 3 3, h ++ [.row [.string ⟨#[97]⟩, .string ⟨#[83]⟩, .string ⟨#[84]⟩] .exact]) := by simp [bslW, okVal, cellsOf]
  rw [e1, hW_some, bs1n, hW_some]
  generalize hX2 : h ++ [AObj.row [.string ⟨#[97]⟩, .string ⟨#[83]⟩, .string ⟨#[84]⟩] .exact] = X2
  have l2 : X2.length = h.length + 1 := by rw [← hX2]; simp
  generalize hX4 : X2 ++ [AObj.row [.int .i64 0] .exact] = X4
  have l4 : X4.length = h.length + 2 := by rw [← hX4]; simp [l2]
  have e2 : bslW X4 2 [(.int .i64 0), (.int .i64 0)] [(0, 1, (.int .i64 1)), (1, 1, (.int .i64 1))] = some (.slice (some ⟨X4.length, 0, none⟩) 2 2, X4 ++ [.row [.int .i64 1, .int .i64 1] .exact]) := by simp [bslW, okVal, cellsOf]
  rw [e2, hW_some]
  generalize hX5 : X4 ++ [AObj.row [.int .i64 1, .int .i64 1] .exact] = X5
  have l5 : X5.length = h.length + 3 := by rw [← hX5]; simp [l4]
  have e3 : bslW X5 3 [(.int .i64 0), (.int .i64 0), (.int .i64 0)] [(0, 1, (.int .i64 1)), (1, 1, (.int .i64 2)), (2, 1, (.int .i64 0))] = some (.slice (some ⟨X5.length, 0, none⟩) 3 3, X5 ++ [.row [.int .i64 1, .int .i64 2, .int .i64 0] .exact]) := by simp [bslW, okVal, cellsOf]
  rw [e3, hW_some]
  generalize hX6 : X5 ++ [AObj.row [.int .i64 1, .int .i64 2, .int .i64 0] .exact] = X6
  have l6 : X6.length = h.length + 4 := by rw [← hX6]; simp [l5]
  rw [bs1n, hW_some]
  generalize hX8 : X6 ++ [AObj.row [.int .i64 2] .exact] = X8
  have l8 : X8.length = h.length + 5 := by rw [← hX8]; simp [l6]
  have e4 : bslW X8 3 [(.slice none 0 0), (.slice none 0 0), (.slice none 0 0)] [(0, 1, .slice (some ⟨X4.length, 0, none⟩) 2 2), (1, 1, .slice (some ⟨X5.length, 0, none⟩) 3 3), (2, 1, .slice (some ⟨X6.length, 0, none⟩) 1 1)] = some (.slice (some ⟨X8.length, 0, none⟩) 3 3, X8 ++ [.row [.slice (some ⟨X4.length, 0, none⟩) 2 2, .slice (some ⟨X5.length, 0, none⟩) 3 3, .slice (some ⟨X6.length, 0, none⟩) 1 1] .exact]) := by simp [bslW, okVal, cellsOf]
  rw [e4, hW_some]
  generalize hX10 : X8 ++ [AObj.row _ .exact] = X10
  have l10 : X10.length = h.length + 6 := by rw [← hX10]; simp [l8]
  rw [show bldW [(.slice none 0 0), (.int .i64 0), (.slice none 0 0), (.slice none 0 0), (.int .i64 0)] [(0, 1, (.slice (some ⟨h.length, 0, none⟩) 3 3)), (1, 1, (.int .i64 1)), (2, 1, (.slice (some ⟨X2.length, 0, none⟩) 1 1)), (3, 1, (.slice (some ⟨X8.length, 0, none⟩) 3 3)), (4, 1, (.int .i64 1))] =
    some (.agg #[.slice (some ⟨h.length, 0, none⟩) 3 3, .int .i64 1, .slice (some ⟨X2.length, 0, none⟩) 1 1, .slice (some ⟨X8.length, 0, none⟩) 3 3, .int .i64 1]) from rfl, oW_some, letH_eq]
  have st5 : stW 5 (X10 ++ [zg]) (.pointer (some ⟨X10.length, 0, none⟩)) (.agg #[.slice (some ⟨h.length, 0, none⟩) 3 3, .int .i64 1, .slice (some ⟨X2.length, 0, none⟩) 1 1, .slice (some ⟨X8.length, 0, none⟩) 3 3, .int .i64 1]) = some (h ++ (cyT h .exact ++ [])) := by
    rw [stW_agg, row_app0]
    show (some (_, Md.exact)).bind _ = _
    rw [Option.bind_some, if_pos (by simp [okCell]), set_app0, ← hX10, l4, l5, l6, ← hX8, ← hX6, ← hX5, ← hX4, ← hX2]
    simp
  rw [st5, sW_some, l10]
  have a0 : CyH h (h ++ (cyT h .exact ++ [])) := ⟨[], .exact, rfl, by simp⟩
  generalize h ++ (cyT h .exact ++ []) = H0 at a0
  refine cy_bools a0 cy_cycL (fun H Q q => cyclic_spec cyG_ok q) fun H1 a1 => ?_
  rw [bW_true]
  refine cy_bools a1 cy_leftL (fun H Q q => left_spec cyG_ok q) fun H2 a2 => ?_
  rw [bW_true]
  refine cy_bools a2 cy_hidL (fun H Q q => hidden_spec cyG_ok q) fun H3 a3 => ?_
  rw [bW_true, a3.ld, oW_some]
  refine a3.call (args2 := [cyG.enc, .int .i64 1]) ⟨a3.gv, .cl (.int _ _), trivial⟩ fun H4 a4 => chain_spec (s := 1) cyG_ok (by decide) (.inl cy_alone11) (fun k hk hl hh => ?_) (fun q => absurd cy_alone11 (q 1))
  have hk0 : k = 0 := by
    have hk3 : k < 3 := hk
    match k, hk3 with
    | 0, _ => rfl
    | 1, _ =>
      obtain ⟨a, b, e, _⟩ := hh
      have := cy_split cy_r1 e
      have e2 : ([2, 0] : List Int) = a ++ 1 :: b := e
      rcases this.2 with ⟨rfl, _, rfl⟩ | ⟨_, z, _⟩ | ⟨_, z, _⟩
      · simp at e2
      · cases z
      · cases z
    | 2, _ => cases hl
  subst hk0
  rw [bs1n, hW_some]
  refine a4.row.call (args2 := [ints [0], ints [0]]) ⟨.cl cl_il, gv_ints a4.le atLast rfl, trivial⟩ fun H5 a5 => same_spec (by simp) (by simp) ?_
  rw [decide_eq_true rfl, bW_true, a5.ld, oW_some]
  have no2 : ∀ j, ¬ cyG.alone 2 j := fun j q => by have := (cy_alone q).1; omega
  refine a5.call (args2 := [cyG.enc, .int .i64 2]) ⟨a5.gv, .cl (.int _ _), trivial⟩ fun H6 a6 => chain_spec (s := 2) cyG_ok (by decide) (.inr no2) (fun k hk hl hh => ?_) (fun _ => ?_)
  · have e : cyG.rules.getD k [] = cyG.rules[k] := by rw [List.getD_eq_getElem?_getD, List.getElem?_eq_getElem hk]; rfl
    rw [e] at hl hh
    exact absurd (hit_alone ⟨_, List.getElem_mem hk, hl, hh⟩) (no2 _)
  rw [show lenS (.slice none 0 0) = some (.int .i64 (0 : Int)) from rfl, oW_some, n_eql, oW_some, decide_eq_true rfl, bW_true, a6.ld, oW_some]
  refine a6.call (args2 := [cyG.enc]) ⟨a6.gv, trivial⟩ fun H7 a7 => calone_spec cyG_ok ?_
  refine cy_cell (j := 1) (by omega) fun b hb => ?_
  have hb1 : b = true := hb.2 (.one cy_alone11)
  subst hb1
  rw [bW_true, a7.ld, oW_some]
  refine a7.call (args2 := [cyG.enc]) ⟨a7.gv, trivial⟩ fun H8 a8 => calone_spec cyG_ok ?_
  refine cy_cell (j := 2) (by omega) fun b hb => ?_
  have hb2 : b = false := by
    cases b with
    | false => rfl
    | true =>
      have := plus_snd (P := fun j => j = 1 ∨ j = 0) (fun a b z => (cy_alone z).2) (hb.1 rfl)
      omega
  subst hb2
  rw [u_not, oW_some]
  exact a8.end_ hq
end Go.Ax
namespace Go.Ax
open Go Go.Proofs Go.RowKit
theorem boxG {H : Heap} {g : Gr} {K : Heap → Prop} (k : K (H ++ [grow g])) : sW (stW 5 (H ++ [.row [(.slice none 0 0), (.int .i64 0), (.slice none 0 0), (.slice none 0 0), (.int .i64 0)] .exact]) (.pointer (some ⟨H.length, 0, none⟩)) g.enc) K := by
  rw [stW_agg, row_app0]
  refine ⟨H ++ [grow g], ?_, k⟩
  show (some (_, Md.exact)).bind _ = _
  rw [Option.bind_some, if_pos (by simp [okCell]), set_app0]; rfl
theorem made18_spec {s : ByteArray} (hs : s.size ≤ 1000) {h : Heap} {Q : Value → Heap → Prop} (hq : Q (mkG (bytesN s)).enc h) : acall Try.prog F_homographlaw18_made [.string s] h Q := by
  apply W_homographlaw18_made_ok
  unfold W_homographlaw18_made
  rw [letH_eq]
  refine callW_plain.2 (make16_spec hs ?_)
  generalize mkG (bytesN s) = g at *
  rw [letH_eq]
  refine boxG ?_
  have L1 : (h ++ [zg]).length = h.length + 1 := by simp
  have ga : GAt (h ++ [zg] ++ [grow g]) (h ++ [zg]).length g := GAt.box
  refine ga.names (ga.terms (ga.tokens (ga.rules (ga.start ?_))))
  rw [show bldW [(.slice none 0 0), (.int .i64 0), (.slice none 0 0), (.slice none 0 0), (.int .i64 0)] [(0, 1, lit (g.names.map .string)), (1, 1, .int .i64 g.terms), (2, 1, ints g.tokens), (3, 1, lit (g.rules.map ints)), (4, 1, .int .i64 g.start)] = some g.enc from rfl, oW_some]
  have e2 : stW 5 (h ++ [zg] ++ [grow g]) (.pointer (some ⟨h.length, 0, none⟩)) g.enc = some (h ++ [grow g, grow g]) := by
    rw [stW_agg, List.append_assoc, row_app0]
    show (some (_, Md.exact)).bind _ = _
    rw [Option.bind_some, if_pos (by simp [okCell]), set_app0]; rfl
  rw [e2, sW_some, ldP_agg, row_app0]
  show oW (some g.enc) _
  rw [oW_some]
  refine gcV_box ?_ hq
  refine .agg _ fun x hx => ?_
  simp at hx
  rcases hx with rfl | rfl | rfl | rfl | rfl
  · exact Cl.lit' fun e he x hx => by
      obtain ⟨b, _, rfl⟩ := List.mem_map.1 he
      simp at hx; subst hx; exact .str _
  · exact .int _ _
  · exact cl_il
  · exact cl_rows
  · exact .int _ _
end Go.Ax

