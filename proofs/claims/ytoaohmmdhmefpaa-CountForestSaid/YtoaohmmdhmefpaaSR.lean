/- The library's sorting of ints, at a local slice. -/
import Derived.Test.YtoaohmmdhmefpaaC7
import Derived.Shelf.SortM.Plain
import Derived.Shelf.SortM.SortNone
namespace Go.Ax
open Go Go.Proofs Go.RowKit Go.Sort

section
variable {P : Program} {B : Fr} {w0 w w' : World} {ρ : Ren} {h : Heap}
theorem Sim.aheadN (s : Sim B w0 ρ h w) (n : Nat) : Sim B w0 ρ h (Sort.ahead w n) :=
  ⟨⟨s.below.os, s.below.tape, s.below.output, s.below.size, s.below.block⟩, s.le, s.fle, s.dom, fun i c m hi => let ⟨b, h1, h2⟩ := s.row i c m hi; ⟨b, h1, h2.mono (.refl _) rfl⟩,
    fun i es hi => let ⟨b, h1, h2⟩ := s.map i es hi; ⟨b, h1, h2.mono (.refl _) rfl⟩, s.inj, s.cold, s.apart, s.coldF⟩
theorem Sim.growN (s : Sim B w0 ρ h w) (os : Array Obj) : Sim B w0 ρ h (Sort.grow w os) :=
  s.moved (F := fun _ => False) ⟨rfl, rfl, rfl, by simp, fun k hk => by
    have hk : k < w.heap.size := hk.elim id False.elim
    unfold Sort.grow
    simp [Array.getElem?_append, hk]⟩
theorem rel_int {k : IntKind} {n : Int} {y : Value} (h : Rel ρ (.int k n) y) : y = .int k n := by cases h; rfl

theorem rel_unit : Rel ρ (.tuple #[]) (.tuple #[]) := .tuple #[] #[] rfl fun i p => absurd p (by simp)
/-- Sorting in place. -/
theorem acall_sortI {f : FuncId} (he : entersOk P f)
    (hs : ∀ blk off cap (zs : List Int) (w : World), Sort.Holds (Value.int .i64) w blk off zs.toArray → blk < w.heap.size → zs.length < 4611686018427387904 → Calls P f #[.slice (some ⟨blk, off, none⟩) zs.length cap] w fun e w' =>
      e = .returned (.tuple #[]) ∧ ∃ n os, w' = Sort.grow (Sort.putRow (Value.int .i64) (Sort.ahead w n) blk off (zs.mergeSort fun x y => decide (x ≤ y)).toArray) os)
    (h0 : ∀ p cap w, Calls P f #[.slice p 0 cap] w fun e w' => e = .returned (.tuple #[]) ∧ w' = w)
    {H : Heap} {i cap : Nat} {c : List Value} {m : Md} {zs : List Int} (hr : getRow H i = some (c, m)) (hm : m ≠ .ro) (hc : c.take zs.length = zs.map vi) (hz : zs.length < 4611686018427387904) {Q : Value → Heap → Prop}
    (hq : Q (.tuple #[]) (H.set i (.row ((zs.mergeSort fun x y => decide (x ≤ y)).map vi ++ c.drop zs.length) m))) : acall P f [.slice (some ⟨i, 0, none⟩) zs.length cap] H Q := by
  have hri := getRow_eq hr
  have hlc : zs.length ≤ c.length := by
    have := congrArg List.length hc
    rw [List.length_take, List.length_map] at this; omega
  have hsl : (zs.mergeSort fun x y => decide (x ≤ y)).length = zs.length := List.length_mergeSort ..
  refine ⟨he, fun B w0 ρ w args' s ha => ?_⟩
  obtain ⟨ha1, ha2⟩ := ha
  have hsz : args'.size = 1 := by simpa using ha1.symm
  have e0 := ha2 0 _ args'[0] rfl (by simp [hsz])
  have harg : args' = #[args'[0]] := by
    apply Array.ext
    · simp [hsz]
    · intro k h1 h2
      have : k = 0 := by omega
      subst this; rfl
  obtain ⟨b, hb, hrow⟩ := s.row i c m hri
  obtain ⟨cc, el, fr, h1, h2, h3, h4⟩ := hrow.lies
  have hfr := h4 hm
  by_cases hz0 : zs.length = 0
  · have : zs = [] := List.length_eq_zero_iff.1 hz0
    subst this
    generalize args'[0] = v' at e0 harg
    subst harg
    cases e0 with
    | slice i off len cap cap' b a' hb hl hcap ha =>
      refine (h0 (some a') cap' w).mono ?_
      rintro e w' ⟨rfl, rfl⟩
      refine ⟨ρ, .tuple #[], .tuple #[], _, .refl _, rfl, rel_unit, ?_, hq⟩
      have : H.set i (.row ((([] : List Int).mergeSort fun x y => decide (x ≤ y)).map vi ++ c.drop ([] : List Int).length) m) = H := by
        simp only [List.mergeSort_nil, List.map_nil, List.nil_append, List.length_nil, List.drop_zero]
        apply List.ext_getElem?
        intro k
        by_cases q : i = k
        · subst q
          rw [List.getElem?_set_self (List.getElem?_eq_some_iff.1 hri).1, hri]
        · rw [List.getElem?_set_ne q]
      rw [this]; exact s
  · generalize args'[0] = v' at e0 harg
    subst harg
    cases e0 with
    | slice i off len cap cap' b' a' hb' hl hcap ha =>
      rw [hb] at hb'; cases hb'
      have ha : a' = ⟨b.block, b.base + 0, none⟩ := ha.resolve_right fun q => by omega
      subst ha
      have hcell : ∀ k (hk : k < zs.length), cc[b.base + k]? = some (vi zs[k]) := fun k hk => by
        have hck : c[k]? = some (vi zs[k]) := by
          have := congrArg (fun l : List Value => l[k]?) hc
          simp only [List.getElem?_take, if_pos hk, List.getElem?_map, List.getElem?_eq_getElem hk, Option.map_some] at this
          exact this
        obtain ⟨y, hy, hry⟩ := h3 k _ hck
        rw [hy, rel_int hry]
      have hn := hrow.len
      have hlt : b.block < w.heap.size := (s.dom i b hb).2.1
      have holds : Sort.Holds (Value.int .i64) w b.block (b.base + 0) zs.toArray := fun j hj => by
        have hj' : j < zs.length := by simpa using hj
        have hcc : b.base + j < cc.size := by omega
        refine ⟨?_, ?_⟩
        · rw [cell_of h1, Nat.add_zero, hcell j hj']
          simp [hj', vi]
        · rw [frozen_of h1]
          exact hfr _ (by omega)
      refine (hs b.block (b.base + 0) cap' zs w holds hlt hz).mono ?_
      rintro e w' ⟨rfl, n, os, rfl⟩
      refine ⟨ρ, .tuple #[], .tuple #[], _, .refl _, rfl, rel_unit, Sim.growN ?_ os, hq⟩
      have s1 := s.aheadN n
      generalize hd : (zs.mergeSort fun x y => decide (x ≤ y)) = ds at hsl
      have hnr : ¬ isRo H i := fun ⟨c', hc'⟩ => by rw [hri] at hc'; cases hc'; exact hm rfl
      have hblk : ∀ k, k ≠ b.block → (Sort.putRow (Value.int .i64) (Sort.ahead w n) b.block (b.base + 0) ds.toArray).heap[k]? = (Sort.ahead w n).heap[k]? := fun k hk => by
        unfold Sort.putRow Sort.mapBlock
        simp only [Array.getElem?_modify]
        rw [if_neg (Ne.symm hk)]
      have hthis : (Sort.putRow (Value.int .i64) (Sort.ahead w n) b.block (b.base + 0) ds.toArray).heap[b.block]? = some (.cells (Sort.putCells (Value.int .i64) (b.base + 0) ds.toArray cc) el fr) := by
        unfold Sort.putRow Sort.mapBlock
        simp only [Array.getElem?_modify, if_true]
        have : (Sort.ahead w n).heap[b.block]? = some (.cells cc el fr) := h1
        rw [this]; rfl
      refine s1.turn i b _ hb ⟨_, hri, by simp⟩ hnr (hrow.own hm) (by unfold Sort.putRow Sort.mapBlock; simp) rfl rfl rfl hblk (fun c' e => by cases e; exact hm rfl) (fun c' m' e => ?_) (fun es e => by cases e)
      cases e
      refine ⟨by rw [List.length_append, List.length_map, List.length_drop, hsl]; omega, ⟨_, el, fr, hthis, by unfold Sort.putCells; simpa using h2, fun k x hx => ?_, fun _ o ho => hfr o (by unfold Sort.putCells at ho; simpa using ho)⟩, hrow.own, hrow.fit, hrow.fit2, hrow.zero⟩
      unfold Sort.putCells
      simp only [Array.getElem?_mapIdx]
      by_cases hk : k < zs.length
      · rw [List.getElem?_append_left (by rw [List.length_map]; omega), List.getElem?_map, List.getElem?_eq_getElem (by omega)] at hx
        cases hx
        rw [hcell k hk]
        refine ⟨vi ds[k], ?_, .int _ _⟩
        have : b.base + k - (b.base + 0) = k := by omega
        simp only [Option.map_some, List.size_toArray]
        rw [if_pos ⟨by omega, by omega⟩, this]
        simp [hsl, hk, vi]
      · rw [List.getElem?_append_right (by rw [List.length_map]; omega), List.length_map, hsl, List.getElem?_drop, show zs.length + (k - zs.length) = k by omega] at hx
        obtain ⟨y, hy, hry⟩ := h3 k x hx
        refine ⟨y, ?_, hry⟩
        rw [hy]
        simp only [Option.map_some, List.size_toArray]
        rw [if_neg (by omega)]
end
end Go.Ax
