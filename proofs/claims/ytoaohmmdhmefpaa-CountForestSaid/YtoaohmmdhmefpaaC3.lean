/- Ax, rules 3: maps whose keys are ints. -/
import Derived.Test.YtoaohmmdhmefpaaC2
namespace Go.Ax
open Go.RowKit

/-- A map's entries, by int keys. -/
abbrev encE (E : List (Int × Value)) : List (Value × Value) := E.map fun p => (.int .i64 p.1, p.2)
def aget : List (Int × Value) → Int → Option Value
  | [], _ => none
  | p :: E, k => if p.1 = k then some p.2 else aget E k
def aset : List (Int × Value) → Int → Value → List (Int × Value)
  | [], k, v => [(k, v)]
  | p :: E, k, v => if p.1 = k then (k, v) :: E else p :: aset E k v

theorem aget_aset (E : List (Int × Value)) (k : Int) (v : Value) (q : Int) : aget (aset E k v) q = if q = k then some v else aget E q := by
  induction E with
  | nil =>
    simp only [aset, aget]
    by_cases h : k = q
    · rw [if_pos h, if_pos h.symm]
    · rw [if_neg h, if_neg (Ne.symm h)]
  | cons p E ih =>
    simp only [aset]
    by_cases h : p.1 = k
    · rw [if_pos h]
      simp only [aget]
      by_cases h2 : k = q
      · rw [if_pos h2, if_pos h2.symm]
      · rw [if_neg h2, if_neg (Ne.symm h2), if_neg (by rw [h]; exact h2)]
    · rw [if_neg h]
      simp only [aget, ih]
      by_cases h2 : p.1 = q
      · rw [if_pos h2, if_pos h2, if_neg (by rw [← h2]; exact h)]
      · rw [if_neg h2, if_neg h2]
theorem aset_keys (E : List (Int × Value)) (k : Int) (v : Value) : (aset E k v).map (·.1) = if k ∈ E.map (·.1) then E.map (·.1) else E.map (·.1) ++ [k] := by
  induction E with
  | nil => simp [aset]
  | cons p E ih =>
    simp only [aset]
    by_cases h : p.1 = k
    · rw [if_pos h]; simp [h]
    · rw [if_neg h]
      simp only [List.map_cons, ih, List.mem_cons]
      by_cases h2 : k ∈ E.map (·.1)
      · rw [if_pos h2, if_pos (.inr h2)]
      · rw [if_neg h2, if_neg (by rintro (q | q); exact h q.symm; exact h2 q)]; simp
theorem aget_none {E : List (Int × Value)} {k : Int} : aget E k = none ↔ k ∉ E.map (·.1) := by
  induction E with
  | nil => simp [aget]
  | cons p E ih =>
    simp only [aget, List.map_cons, List.mem_cons]
    by_cases h : p.1 = k
    · rw [if_pos h]; simp [h]
    · rw [if_neg h, ih]
      constructor
      · rintro q (r | r)
        · exact h r.symm
        · exact q r
      · exact fun q r => q (.inr r)

theorem findS_int (k : Int) : ∀ (E : List (Int × Value)) (i : Nat), (findS (.int .i64) (.int .i64 k) (encE E) i = some none ∧ aget E k = none) ∨
    ∃ j v, findS (.int .i64) (.int .i64 k) (encE E) i = some (some (i + j, v)) ∧ aget E k = some v ∧ ∀ u, (encE E).set j (.int .i64 k, u) = encE (aset E k u)
  | [], i => .inl ⟨rfl, rfl⟩
  | p :: E, i => by
    simp only [List.map_cons, findS, Instr.sameNow, if_true, aget]
    by_cases h : p.1 = k
    · right
      have : (k == p.1) = true := by simp [h]
      rw [this]
      refine ⟨0, p.2, by simp, by rw [if_pos h], fun u => ?_⟩
      simp [aset, h]
    · have : (k == p.1) = false := by simp; exact fun q => h q.symm
      rw [this, if_neg h]
      rcases findS_int k E (i + 1) with ⟨h1, h2⟩ | ⟨j, v, h1, h2, h3⟩
      · exact .inl ⟨h1, h2⟩
      · refine .inr ⟨j + 1, v, by simp only [h1]; congr 3; omega, h2, fun u => ?_⟩
        simp [aset, h, h3]

theorem aset_new {E : List (Int × Value)} {k : Int} {v : Value} (h : aget E k = none) : aset E k v = E ++ [(k, v)] := by
  induction E with
  | nil => rfl
  | cons p E ih =>
    simp only [aget] at h
    by_cases q : p.1 = k
    · rw [if_pos q] at h; cases h
    · rw [if_neg q] at h
      simp [aset, q, ih h]

theorem lk_int {z : Value} {H : Heap} {j : Nat} {E : List (Int × Value)} {k : Int} (e : getMap H j = some (encE E)) : lkS (.int .i64) z false H (.map (some j)) (.int .i64 k) = some ((aget E k).getD z) := by
  simp only [lkS, ground, if_true, mapEs, e]
  rcases findS_int k E 0 with ⟨h1, h2⟩ | ⟨j, v, h1, h2, _⟩ <;> simp only [h1, h2] <;> rfl
theorem lk_int2 {z : Value} {H : Heap} {j : Nat} {E : List (Int × Value)} {k : Int} (e : getMap H j = some (encE E)) :
    lkS (.int .i64) z true H (.map (some j)) (.int .i64 k) = some (.tuple #[(aget E k).getD z, .bool (aget E k).isSome]) := by
  simp only [lkS, ground, if_true, mapEs, e]
  rcases findS_int k E 0 with ⟨h1, h2⟩ | ⟨j, v, h1, h2, _⟩ <;> simp only [h1, h2] <;> rfl
theorem lk_nil {d : TypeDesc} {z k : Value} {H : Heap} (hk : ground k = true) : lkS d z false H (.map none) k = some z := by simp [lkS, hk, mapEs, findS]
theorem up_int {H : Heap} {j : Nat} {E : List (Int × Value)} {k : Int} {v : Value} (e : getMap H j = some (encE E)) : upS (.int .i64) H (.map (some j)) (.int .i64 k) v = some (H.set j (.map (encE (aset E k v)))) := by
  simp only [upS, ground, if_true, e]
  rcases findS_int k E 0 with ⟨h1, h2⟩ | ⟨i, u, h1, h2, h3⟩
  · simp only [h1, aset_new h2]; simp
  · simp only [h1, Nat.zero_add, h3]

theorem getMap_lt {h : Heap} {i : Nat} {x : List (Value × Value)} (e : getMap h i = some x) : i < h.length := by
  unfold getMap at e
  split at e
  · rename_i hh; exact (List.getElem?_eq_some_iff.1 hh).1
  · cases e
theorem getMap_set {h : Heap} {i : Nat} {x : List (Value × Value)} (e : getMap h i = some x) (y : List (Value × Value)) : getMap (h.set i (.map y)) i = some y := by
  unfold getMap; rw [List.getElem?_set_self (getMap_lt e)]
theorem getMap_app {h t : Heap} {i : Nat} {x : List (Value × Value)} (e : getMap h i = some x) : getMap (h ++ t) i = some x := by
  have := getMap_lt e
  unfold getMap at *
  rw [List.getElem?_append_left this]; exact e

/-- A set of ints: a map to true. -/
abbrev setE (s : List Int) : List (Int × Value) := s.map fun k => (k, .bool true)
theorem aget_setE {s : List Int} {k : Int} : (aget (setE s) k).getD (.bool false) = .bool (decide (k ∈ s)) := by
  induction s with
  | nil => rfl
  | cons x s ih =>
    simp only [List.map_cons, aget]
    by_cases h : x = k
    · rw [if_pos h]; simp [h]
    · rw [if_neg h, ih]; simp [Ne.symm h]
theorem aset_setE {s : List Int} {k : Int} : aset (setE s) k (.bool true) = if k ∈ s then setE s else setE (s ++ [k]) := by
  induction s with
  | nil => rfl
  | cons x s ih =>
    simp only [List.map_cons, aset]
    by_cases h : x = k
    · rw [if_pos h]; simp [h]
    · rw [if_neg h, ih]
      by_cases h2 : k ∈ s
      · rw [if_pos h2, if_pos (by simp [h2])]
      · rw [if_neg h2, if_neg (by simp [h2, Ne.symm h])]; rfl

end Go.Ax
