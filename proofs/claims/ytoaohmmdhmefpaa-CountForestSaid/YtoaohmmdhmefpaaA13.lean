/- Ax, part 13: conversions, copies; every operation that calls nothing. -/
import Derived.Test.YtoaohmmdhmefpaaA12
namespace Go.Ax
open Go.RowKit

section
variable {P : Program} {B : Fr} {w0 w : World} {ρ : Ren} {h : Heap}

theorem bytesOfV_rel : ∀ {vs : List Value} {l : List UInt8} {ys : List Value}, bytesOfV vs = some l → RelL ρ vs ys →
    ∃ ns : List Int, ys = ns.map (Value.int .u8) ∧ ns.map (fun n => UInt8.ofNat n.toNat) = l := by
  intro vs
  induction vs with
  | nil =>
    intro l ys e hr
    simp only [bytesOfV, Option.some.injEq] at e
    subst e
    cases ys with
    | nil => exact ⟨[], rfl, rfl⟩
    | cons y ys => have := hr.1; simp at this
  | cons v vs ih =>
    intro l ys e hr
    cases ys with
    | nil => have := hr.1; simp at this
    | cons y ys =>
      unfold bytesOfV at e
      split at e
      · rename_i hh; cases hh
      · rename_i n rest hh
        simp only [List.cons.injEq] at hh
        obtain ⟨rfl, rfl⟩ := hh
        simp only [Option.map_eq_some_iff] at e
        obtain ⟨l', hl', rfl⟩ := e
        have h0 : Rel ρ (.int .u8 n) y := hr.2 0 _ y rfl rfl
        cases h0
        obtain ⟨ns, q1, q2⟩ := ih hl' (ys := ys) ⟨by have := hr.1; simpa using this, fun i a b ha hb => hr.2 (i + 1) a b (by simpa using ha) (by simpa using hb)⟩
        exact ⟨n :: ns, by simp [q1], by simp [q2]⟩
      · cases e

theorem foldl_push (ns : List Int) : ∀ s : ByteArray, ns.foldl (fun r n => r.push (UInt8.ofNat n.toNat)) s = ⟨(s.data.toList ++ ns.map (fun n => UInt8.ofNat n.toNat)).toArray⟩ := by
  induction ns with
  | nil => intro s; simp
  | cons n ns ih =>
    intro s
    rw [List.foldl_cons, ih]
    simp [ByteArray.push]

theorem push_modify {α : Type} (a : Array α) (x : α) (f : α → α) : (a.push x).modify a.size f = a.push (f x) := by
  apply Array.ext_getElem?
  intro i
  rw [Array.getElem?_modify]
  by_cases e : a.size = i
  · subst e; simp
  · rw [if_neg e, Array.getElem?_push, Array.getElem?_push, if_neg (Ne.symm e), if_neg (Ne.symm e)]

theorem strBytes_ok (s : Sim B w0 ρ h w) (el : TypeId) (str : ByteArray) :
    Comes1 P B w0 w ρ (Conv.stringToBytes el str) (.slice (some ⟨h.length, 0, none⟩) str.size str.size) (h ++ [.row (bytesV str) (.grown 1)]) := by
  have hq : ∃ c, str.size ≤ c ∧ (choose (.appendCap str.size 0 el)).run P w = .ok c w.drew := by
    refine ⟨grownCap w str.size 0 el, by unfold grownCap Question.cut; exact Nat.le_add_right _ _, by simp [Question.forced, grownCap]⟩
  obtain ⟨c, hc, hrun⟩ := hq
  have hlen : (bytesV str).length = str.size := by simp [bytesV]
  let cc : Array Value := str.data.map (fun b => Value.int .u8 b.toNat) ++ Array.replicate (c - str.size) (.int .u8 0)
  have hcs : cc.size = c := by
    show (str.data.map (fun b => Value.int .u8 b.toNat) ++ Array.replicate (c - str.size) (Value.int .u8 0)).size = c
    have : str.data.size = str.size := rfl
    simp; omega
  have hs := s.drew.add (.cells cc el (c, c + 1)) (.row (bytesV str) (.grown 1)) ⟨w.heap.size, 0, str.size, 1, c - str.size⟩ rfl (fun c' m' e => by
    cases e
    refine ⟨hlen, ⟨cc, el, (c, c + 1), heap_alloc_new _ _, by dsimp only; omega, fun k x hx => ?_, fun _ o ho => ?_⟩, fun _ => s.le, (fun q => by cases q), (fun q _ hq => by cases hq; rfl), (fun q => by cases q)⟩
    · have hk : k < str.size := by have := (List.getElem?_eq_some_iff.1 hx).1; omega
      refine ⟨x, ?_, ?_⟩
      · show cc[0 + k]? = some x
        rw [Nat.zero_add]
        show (str.data.map (fun b => Value.int .u8 b.toNat) ++ Array.replicate (c - str.size) (Value.int .u8 0))[k]? = some x
        rw [Array.getElem?_append_left (by simpa using hk), ← Array.getElem?_toList]
        simpa [bytesV] using hx
      · simp only [bytesV, List.getElem?_map, Option.map_eq_some_iff] at hx
        obtain ⟨u, _, rfl⟩ := hx
        exact .int _ _
    · rw [hcs] at ho
      simp; omega) (fun es e => by cases e)
  refine ⟨_, .slice (some ⟨w.heap.size, 0, none⟩) str.size c, _, Ren.add_le _ s.fresh, ?_, hs, ?_⟩
  · exact fresh_slice ρ _ _ _ _ _ _ _ (.inr ⟨by simp, by omega⟩)
  · have hfz : (w.drew.alloc (.cells cc el)).freeze ⟨w.heap.size, c, none⟩ 1 = w.drew.alloc (.cells cc el (c, c + 1)) := by
      unfold World.freeze
      rw [if_neg (by simp)]
      have : (w.drew.alloc (.cells cc el)).heap = w.heap.push (.cells cc el) := rfl
      rw [this, push_modify]
      rfl
    have hsh : (w.drew.alloc (.cells cc el)).shape? w.heap.size = some (el, c) := by
      have := heap_alloc_new w.drew (.cells cc el)
      have e2 : w.drew.heap.size = w.heap.size := rfl
      rw [e2] at this
      unfold World.shape?
      rw [this]
      simp [hcs]
    have hnr : (newRow el cc).run P w.drew = .ok ⟨w.heap.size, 0, none⟩ (w.drew.alloc (.cells cc el)) := rfl
    have hmk : (markStringish ⟨w.heap.size, 0, none⟩).run P (w.drew.alloc (.cells cc el)) = .ok () (w.drew.alloc (.cells cc el (c, c + 1))) := by
      simp [markStringish, hsh, hfz]
    unfold Conv.stringToBytes
    simp only [Sem.run_bind, hrun, Result.andThen_ok]
    have hnr' : (newRow el (str.data.map (fun b => Value.int .u8 b.toNat) ++ Array.replicate (c - str.size) (Value.int .u8 0))).run P w.drew = .ok ⟨w.heap.size, 0, none⟩ (w.drew.alloc (.cells cc el)) := hnr
    rw [hnr']
    simp only [Result.andThen_ok, hmk, Sem.run_pure]

theorem convA_ok (s : Sim B w0 ρ h w) {src dst : TypeId} {x x' v : Value} {h' : Heap} (hx : Rel ρ x x') (e : convA P h src dst x = some (v, h')) :
    Comes1 P B w0 w ρ (convert src dst x') v h' := by
  unfold convA at e
  split at e
  · rename_i q1 k r2 k2 n h1 h2
    simp only [Option.some.injEq, Prod.mk.injEq] at e
    obtain ⟨rfl, rfl⟩ := e
    cases hx
    refine .same s (.int _ _) ?_
    obtain ⟨d1, r1'⟩ := q1
    simp [convert, run_under h1, run_under h2, Conv.intToInt]
  · rename_i q1 r2 str h1 h2
    simp only [Option.some.injEq, Prod.mk.injEq] at e
    obtain ⟨rfl, rfl⟩ := e
    cases hx
    refine .same s (.str _) ?_
    obtain ⟨d1, r1'⟩ := q1
    simp [convert, run_under h1, run_under h2]
  · rename_i q1 el r2 str h1 h2
    split at e
    · rename_i r3 h3
      simp only [Option.some.injEq, Prod.mk.injEq] at e
      obtain ⟨rfl, rfl⟩ := e
      cases hx
      obtain ⟨d1, r1'⟩ := q1
      obtain ⟨ρ', v', w', c1, c2, c3, c4⟩ := strBytes_ok (P := P) s el str
      refine ⟨ρ', v', w', c1, c2, c3, ?_⟩
      rw [← c4]
      simp [convert, run_under h1, run_under h2, run_under h3]
    · cases e
  · rename_i el r1 r2 h1 h2
    split at e
    · rename_i r3 h3
      simp only [Option.some.injEq, Prod.mk.injEq] at e
      obtain ⟨rfl, rfl⟩ := e
      cases hx
      refine .same s (.str _) ?_
      simp [convert, run_under h1, run_under h2, run_under h3, Conv.bytesToString]
    · cases e
  · rename_i el r1 r2 i off len cap h1 h2
    split at e
    · rename_i r3 c md h3 hrow
      split at e
      · rename_i hle
        simp only [Option.map_eq_some_iff, Prod.mk.injEq] at e
        obtain ⟨l, hl, rfl, rfl⟩ := e
        cases hx with
        | slice i off len cap cap' b a' hb hlc hcap ha =>
          obtain ⟨b', hb1, hok⟩ := s.row _ _ _ (getRow_eq hrow)
          rw [hb] at hb1; cases hb1
          obtain ⟨ys, q1, q2, q3⟩ := hok.cells off len hle
          obtain ⟨ns, m1, m2⟩ := bytesOfV_rel hl q3
          have hload : (loadCells a' len).run P w = .ok (ns.map (Value.int .u8)).toArray w := by
            rcases ha with rfl | h0
            · have := run_loadCells_list (P := P) w ⟨b.block, b.base + off, none⟩ ys (fun j v hv => by rw [addr_add]; exact q2 j v hv)
              rw [q1] at this
              rw [this, m1]
            · have e0 : len = 0 := by omega
              subst e0
              simp at q1
              subst q1
              rw [← m1]
              simp [loadCells, loadCellsFrom]
          have := run_bytesToString (P := P) w a' len cap' ns hload
          refine .same s (.str _) ?_
          rw [foldl_push] at this
          simp only [m2] at this
          simp [convert, run_under h1, run_under h2, run_under h3]
          simpa using this
      · cases e
    · cases e
  · cases e

theorem minmax_ok (mx : Bool) : ∀ {xs xs' : List Value} {v v' r : Value}, RelL ρ xs xs' → Rel ρ v v' →
    xs.foldlM (fun v y => match v, y with
      | .int k x, .int _ y => some (.int k (if mx then (if y > x then y else x) else (if y < x then y else x)))
      | _, _ => none) v = some r → ∀ w : World, ∃ r', (xs'.foldlM (if mx then Builtin.max2 else Builtin.min2) v').run P w = .ok r' w ∧ Rel ρ r r' := by
  intro xs
  induction xs with
  | nil =>
    intro xs' v v' r hl hv e w
    cases xs' with
    | nil => simp at e; subst e; exact ⟨v', by simp, hv⟩
    | cons y ys => have := hl.1; simp at this
  | cons x xs ih =>
    intro xs' v v' r hl hv e w
    cases xs' with
    | nil => have := hl.1; simp at this
    | cons y ys =>
      simp only [List.foldlM_cons] at e
      split at e
      · rename_i k a k2 b
        simp only [Option.bind_eq_bind, Option.bind_some] at e
        have h0 : Rel ρ (.int k2 b) y := hl.2 0 _ y rfl rfl
        cases h0; cases hv
        obtain ⟨r', q1, q2⟩ := ih (xs' := ys) ⟨by have := hl.1; simpa using this, fun i a b ha hb => hl.2 (i + 1) a b (by simpa using ha) (by simpa using hb)⟩ (.int k _) e w
        refine ⟨r', ?_, q2⟩
        rw [List.foldlM_cons]
        cases mx <;> simp_all [Builtin.max2, Builtin.min2]
      · simp at e

end
end Go.Ax
