/- Specs: a map's keys, sorted: by the library's contracts. -/
import Derived.Test.YthhknneomcleoaaC3
import Derived.Test.YthhknneomcleoaaLay
namespace Go.Proofs
open Go.RowKit Go.Maps Go.Sort Go.Shelf
theorem Try.sortsA (m : Nat) : AnyZI.SortsIn Try.prog Try.sortedA_ren Fence.wide m :=
  ⟨fun blk off cap ss W hH hblk hsz => callsIn_wide.2 (AnyM.slices_Sort_int Try.sortA blk off cap ss W hH hblk hsz),
   fun p cap W => callsIn_wide.2 (AnyM.slices_Sort_int_none Try.sortA p cap W)⟩

/-- slices.Sorted at an iterator over a map's keys. -/
theorem Try.sorted_at {H : Type} (Bm b nn : Nat) (D0 : DataW H) (R : Value → Option (DataW H × List MemPlace)) (w : World) (hBm : Bm < w.heap.size) (hm : w.cell? ⟨Bm, 0, none⟩ = some (.map (some b))) (hown : w.ownsMap Try.prog 3 R b nn D0) (hmax : Maps.size D0 ≤ maxLen) (hbytes : Maps.size D0 * 8 ≤ 140737488355328) :
    Calls Try.prog 64 #[.func (.func 108) #[] #[.pointer (some ⟨Bm, 0, none⟩)]] w fun e w' => ∃ (v : Value) (ss : List Int), e = .returned v ∧ ss.Perm (intKeys D0) ∧
      w'.ownsRow w.heap.size 3 1 v ss.length ((ss.mergeSort (fun x y => decide (x ≤ y))).map encZ) ∧ (v = .slice none 0 0 ↔ ss = []) ∧ Below w.heap.size w w' := by
  refine (callsIn_wide (n := 5)).1 ?_
  have hseq : SeqGives Fence.wide 2 Try.prog 108 #[.pointer (some ⟨Bm, 0, none⟩)] encZ (fun ss => ss.Perm (intKeys D0)) (Maps.size D0) w :=
    AnyZI.keys_gives (ρ := Try.keysA_ren) { Try.keysA with } Fence.wide _ trivial rfl (by omega) Bm b nn D0 _ hBm hm hown
  have cS := AnyZI.sorted_in Try.sortedA Fence.wide 5 trivial trivial trivial trivial rfl (by omega) (Try.sortsA _) (enters_of Try.func107 (by kernel_rfl) rfl) 108 #[.pointer (some ⟨Bm, 0, none⟩)] trivial (enters_of Try.func108 (by kernel_rfl) rfl) _ _ hmax hbytes w hseq
  change CallsIn _ _ Try.prog 64 _ _ _ at cS
  exact cS.mono fun e w' h => h
end Go.Proofs

namespace Go.Ax
open Go Go.Proofs Go.RowKit Go.Maps

section
variable {B : Fr} {w0 w w' : World} {ρ : Ren} {h : Heap}

/-- A block that is frozen from here on. -/
def Ren.cool (ρ : Ren) (g : Nat) (cc : Array Value) : Ren := ⟨ρ.bind, fun k => if k = g then some cc else ρ.frz k⟩
theorem Ren.cool_le {g : Nat} {cc : Array Value} (hg : ρ.frz g = none) : ρ.le (ρ.cool g cc) := ⟨fun _ _ e => e, fun k c e => by
  unfold Ren.cool
  dsimp only
  by_cases q : k = g
  · subst q; rw [hg] at e; cases e
  · rw [if_neg q]; exact e⟩
theorem Sim.cool (s : Sim B w0 ρ h w) {g : Nat} {cc : Array Value} {el : TypeId} {f : Nat × Nat} (hw : w.heap[g]? = some (.cells cc el f)) (hn : ρ.frz g = none) (hno : ∀ i b, ρ i = some b → b.block ≠ g) (hF : ¬ B.F g) : Sim B w0 (ρ.cool g cc) h w := by
  have hle := Ren.cool_le (cc := cc) hn
  refine ⟨s.below, s.le, s.fle, s.dom, fun i c m hi => let ⟨b, h1, h2⟩ := s.row i c m hi; ⟨b, h1, h2.mono hle rfl⟩, fun i es hi => let ⟨b, h1, h2⟩ := s.map i es hi; ⟨b, h1, h2.mono hle rfl⟩, s.inj, fun k c hk => ?_, fun k c i b hk hi hl => ?_, fun k c hk => ?_⟩
  · unfold Ren.cool at hk
    dsimp only at hk
    by_cases q : k = g
    · subst q; rw [if_pos rfl] at hk; cases hk; exact ⟨el, f, hw⟩
    · rw [if_neg q] at hk; exact s.cold k c hk
  · unfold Ren.cool at hk
    dsimp only at hk
    by_cases q : k = g
    · subst q; exact .inr (hno i b hi)
    · rw [if_neg q] at hk; exact s.apart k c i b hk hi hl
  · unfold Ren.cool at hk
    dsimp only at hk
    by_cases q : k = g
    · subst q; exact hF
    · rw [if_neg q] at hk; exact s.coldF k c hk
end

theorem insert_perm {H : Type} (x : Lit × DataW H) : ∀ l : List (Lit × DataW H), (DataW.insert x l).Perm (x :: l)
  | [] => .refl _
  | y :: r => by
    unfold DataW.insert
    split
    · exact .refl _
    · exact ((insert_perm x r).cons y).trans (.swap x y r)
theorem foldr_perm {H : Type} : ∀ l : List (Lit × DataW H), (l.foldr DataW.insert []).Perm l
  | [] => .refl _
  | x :: r => (insert_perm x _).trans ((foldr_perm r).cons x)

/-- A map with int keys, as the library's contracts want it. -/
theorem owns_map {P : Program} {t : TypeId} (ht : P.underlying t = some (.int .i64)) {w : World} {b : Nat} {ents : Array MapEntry} {clock : Nat} {ks : List Int} (hb : w.heap[b]? = some (.map ents clock)) (hs : MapKept.Stamped ents clock)
    (hk : ents.toList.map (·.key) = ks.map (Value.int .i64)) (hi : ∀ k ∈ ks, inI k) (hl : ks.length ≤ 1000000000000) :
    ∃ D0 : DataW Unit, w.ownsMap P t (fun _ => some (.nil, [])) b ents.size D0 ∧ (intKeys D0).Perm ks ∧ Maps.size D0 = ks.length := by
  have hlen : ents.size = ks.length := by
    have := congrArg List.length hk; simpa using this
  have hrd : ∀ x ∈ ents.toList, ∃ n, n ∈ ks ∧ x.key = .int .i64 n ∧ WideElems.rd (H := Unit) P t (fun _ => some (.nil, [])) x = some (.int .i64 n, .nil) := fun x hx => by
    have : x.key ∈ ks.map (Value.int .i64) := by rw [← hk]; exact List.mem_map.2 ⟨x, hx, rfl⟩
    obtain ⟨n, hn, e⟩ := List.mem_map.1 this
    obtain ⟨h1, h2⟩ := hi n hn
    refine ⟨n, hn, e.symm, ?_⟩
    have hw : (Lit.int .i64 n).wf = true := by
      simp [Lit.wf, IntKind.min, IntKind.max, IntKind.signed, IntKind.bits]
      omega
    simp [WideElems.rd, ← e, keyOf, ht, mapKey, hw]
  refine ⟨.map ((ents.toList.map (WideElems.rg P t fun _ => some (.nil, []))).foldr DataW.insert []), ⟨ents, clock, hb, ⟨by rw [hlen]; unfold maxLen; omega, hs, fun x hx => let ⟨n, _, _, e⟩ := hrd x hx; ⟨_, e⟩⟩, Nat.le_refl _, rfl⟩, ?_, ?_⟩
  · show (List.map _ _).Perm ks
    refine ((foldr_perm _).map _).trans ?_
    rw [List.map_map]
    have : List.map ((fun p => intOf p.1) ∘ WideElems.rg (H := Unit) P t fun _ => some (.nil, [])) ents.toList = ks := by
      have h2 : List.map (fun x : MapEntry => match x.key with | .int _ n => n | _ => 0) ents.toList = ks := by
        have := congrArg (List.map fun v : Value => match v with | .int _ n => n | _ => (0 : Int)) hk
        rw [List.map_map, List.map_map] at this
        have e2 : (List.map ((fun v : Value => match v with | .int _ n => n | _ => (0 : Int)) ∘ Value.int .i64) ks) = ks := by
          exact (List.map_congr_left (g := id) fun _ _ => rfl).trans (List.map_id _)
        rw [e2] at this
        exact this
      rw [← h2]
      refine List.map_congr_left fun x hx => ?_
      obtain ⟨n, _, e, e2⟩ := hrd x hx
      simp only [Function.comp, WideElems.rg, e2, Option.getD_some, e]
      rfl
    rw [this]
  · show (List.foldr DataW.insert [] (ents.toList.map (WideElems.rg (H := Unit) P t fun _ => some (.nil, [])))).length = _
    rw [(foldr_perm _).length_eq, List.length_map, Array.length_toList, hlen]

/-- slices.Sorted at an iterator over the keys of a set of ints. -/
theorem sorted_spec {H : Heap} {i j : Nat} {ks : List Int} {E : List (Int × Value)} (hi : H[i]? = some (.row [.map (some j)] .exact)) (hm : getMap H j = some (encE E)) (hk : E.map (·.1) = ks) (hn : ks.Nodup) (hin : ∀ k ∈ ks, inI k) (hl : ks.length ≤ 1000000000000)
    {Q : Value → Heap → Prop} (hq : ∀ l : List Int, l.Pairwise (· < ·) → (∀ x, x ∈ l ↔ x ∈ ks) → Q (ints l) H) :
    acall Try.prog 64 [.func (.func 108) #[] #[.pointer (some ⟨i, 0, none⟩)]] H Q := by
  refine ⟨⟨_, Try.func64, rfl, rfl⟩, fun B w0 ρ w args' s hr => ?_⟩
  obtain ⟨hlen, hrel⟩ := hr
  have ha : ∃ v', args' = #[v'] := by
    obtain ⟨l⟩ := args'
    match l, hlen with
    | [v'], _ => exact ⟨v', rfl⟩
  obtain ⟨v', rfl⟩ := ha
  have h0 := hrel 0 _ v' rfl rfl
  cases h0 with
  | func fn xs xs' cs cs' hf h1 h2 h3 h4 =>
  have hxs : xs' = #[] := Array.size_eq_zero_iff.1 h1.symm
  subst hxs
  have hcs : ∃ y, cs' = #[y] := by
    obtain ⟨l⟩ := cs'
    match l, h2 with
    | [y], _ => exact ⟨y, rfl⟩
  obtain ⟨y, rfl⟩ := hcs
  have h5 := h4 0 (by simp) (by simp)
  simp only [List.getElem_toArray, List.getElem_cons_zero] at h5
  cases h5 with
  | ptr i off b hb =>
  obtain ⟨b2, hb2, hrow⟩ := s.row i _ _ hi
  rw [hb] at hb2; cases hb2
  have hz := hrow.zero rfl
  obtain ⟨cc, el, fr, l1, l2, l3, l4⟩ := hrow.lies
  obtain ⟨y2, hy2, hr2⟩ := l3 0 (.map (some j)) rfl
  cases hr2 with
  | map j bj hbj =>
  obtain ⟨bj2, hbj2, hmap⟩ := s.map j _ (getMap_eq hm)
  rw [hbj] at hbj2; cases hbj2
  obtain ⟨ents, clock, m1, m2, m3⟩ := hmap.lies
  have hks : ents.toList.map (·.key) = ks.map (Value.int .i64) := by
    apply List.ext_getElem?
    intro q
    rw [List.getElem?_map, List.getElem?_map, ← hk, List.getElem?_map]
    cases he : E[q]? with
    | none =>
      have : E.length ≤ q := List.getElem?_eq_none_iff.1 he
      have h6 : ents.toList[q]? = none := List.getElem?_eq_none (by simp at m2 ⊢; omega)
      rw [h6]; rfl
    | some p =>
      obtain ⟨e, he2, he3, _⟩ := m3 q (.int .i64 p.1, p.2) (by rw [List.getElem?_map, he]; rfl)
      have h6 : ents.toList[q]? = some e := by simpa using he2
      rw [h6]; simp [he3]
  obtain ⟨D0, hown, hperm, hsize⟩ := owns_map (P := Try.prog) (t := 3) Try.underlying3 m1 (hmap.stamp _ _ m1) hks hin hl
  have hcell : w.cell? ⟨b.block, 0, none⟩ = some (.map (some bj.block)) := by
    rw [cell_of l1]; rw [hz] at hy2; exact hy2
  have hlt : b.block < w.heap.size := (s.dom _ _ hb).2.1
  have hc := Try.sorted_at b.block bj.block ents.size D0 _ w hlt hcell hown (by rw [hsize]; unfold maxLen; omega) (by rw [hsize]; omega)
  have e0 : b.base + 0 = 0 := by omega
  rw [e0]
  refine hc.mono ?_
  rintro e w' ⟨v, ss, rfl, hp, hrw, hnil, hbel⟩
  have hkept : Kept ⟨w.heap.size, fun _ => False⟩ w w' := ⟨hbel.os, hbel.tape, hbel.output, hbel.size, fun k hk => hbel.block k (hk.elim id fun q => q.elim)⟩
  have s' := s.moved hkept
  have hpk : ss.Perm ks := hp.trans hperm
  have hns : ss.Nodup := hpk.nodup_iff.2 hn
  have hsp := List.mergeSort_perm ss fun x y => decide (x ≤ y)
  have hpw : (ss.mergeSort fun x y => decide (x ≤ y)).Pairwise (· < ·) := by
    have h1 : (ss.mergeSort fun x y => decide (x ≤ y)).Pairwise (fun a b => decide (a ≤ b) = true) := List.pairwise_mergeSort (fun a b c h1 h2 => by simp only [decide_eq_true_eq] at *; omega) (fun a b => by simp only [Bool.or_eq_true, decide_eq_true_eq]; omega) ss
    have h2 : (ss.mergeSort fun x y => decide (x ≤ y)).Nodup := hsp.nodup_iff.2 hns
    exact (h1.and h2).imp fun {a b} h => by
      have h3 : a ≤ b := by simpa using h.1
      have := h.2
      omega
  have hQ := hq _ hpw fun x => by rw [hsp.mem_iff, hpk.mem_iff]
  obtain ⟨r1, r2⟩ := hrw
  rcases r2 with ⟨rfl, hz0⟩ | ⟨g, cap, cur, rfl, g1, g2, g3, g4, g5, g6⟩
  · have : ss = [] := List.eq_nil_of_length_eq_zero hz0
    subst this
    refine ⟨ρ, _, _, H, .refl _, rfl, ?_, s', hQ⟩
    rw [show (([] : List Int).mergeSort fun x y => decide (x ≤ y)) = [] by simp]
    exact Rel.lit0 none 0 (fun _ => rfl)
  · have hgn : ρ.frz g = none := by
      cases q : ρ.frz g with
      | none => rfl
      | some c0 => have := s.coldLt q; omega
    refine ⟨ρ.cool g cur, _, _, H, Ren.cool_le hgn, rfl, ?_, s'.cool g2 hgn (fun i b hb q => by have := (s.dom i b hb).2.1; omega) (fun q => by have := s.fle _ q; omega), hQ⟩
    have hsl : (ss.mergeSort fun x y => decide (x ≤ y)).length = ss.length := hsp.length_eq
    have := Rel.litS (ρ := ρ.cool g cur) ((ss.mergeSort fun x y => decide (x ≤ y)).map fun n => Value.int .i64 n).toArray g 0 1 cap cur (by unfold Ren.cool; simp) (by simp [hsl]; omega) (by omega) (fun i p => by simp) (by simp [hsl]; omega) (fun i q p p2 p3 => by
      have hi : i < (ss.mergeSort fun x y => decide (x ≤ y)).length := by simpa using p
      have hq0 : q = 0 := by
        have : (cellsOf ((ss.mergeSort fun x y => decide (x ≤ y)).map fun n => Value.int .i64 n).toArray[i]).length = 1 := by simp
        omega
      subst hq0
      have h7 : cur.toList[i]? = some (.int .i64 (ss.mergeSort fun x y => decide (x ≤ y))[i]) := by
        have h8 : (cur.toList.take (ss.length * 1))[i]? = some (encZ (ss.mergeSort fun x y => decide (x ≤ y))[i]) := by rw [g6]; simp [hi]
        rw [List.getElem?_take] at h8
        split at h8
        · exact h8
        · cases h8
      have h9 : cur[0 + (i * 1 + 0)] = .int .i64 (ss.mergeSort fun x y => decide (x ≤ y))[i] := by
        have h10 : cur[i]? = some (.int .i64 (ss.mergeSort fun x y => decide (x ≤ y))[i]) := by simpa using h7
        have h11 := Array.getElem?_eq_getElem p3
        have e4 : 0 + (i * 1 + 0) = i := by omega
        have h12 : cur[0 + (i * 1 + 0)]? = some (.int .i64 (ss.mergeSort fun x y => decide (x ≤ y))[i]) := by rw [e4]; exact h10
        exact Option.some.inj (h11.symm.trans h12)
      rw [h9]
      simp
      exact .int _ _)
    simp only [List.size_toArray, List.length_map, hsl] at this
    exact this

end Go.Ax
