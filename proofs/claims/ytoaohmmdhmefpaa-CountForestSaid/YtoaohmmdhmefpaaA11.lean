/- Ax, part 11: appends. -/
import Derived.Test.YtoaohmmdhmefpaaA10
namespace Go.Ax
open Go.RowKit

section
variable {P : Program} {B : Fr} {w0 w : World} {ρ : Ren} {h : Heap}

theorem Sim.kill (s : Sim B w0 ρ h w) (i : Nat) : Sim B w0 ρ (h.set i .dead) w := by
  have get : ∀ {j : Nat} {o : AObj}, (h.set i .dead)[j]? = some o → o ≠ AObj.dead → h[j]? = some o := fun {j o} hj ho => by
    by_cases e : i = j
    · subst e
      by_cases hl : i < h.length
      · rw [List.getElem?_set_self hl] at hj; cases hj; exact absurd rfl ho
      · rw [List.getElem?_eq_none (by simp; omega)] at hj; cases hj
    · rw [List.getElem?_set_ne e] at hj; exact hj
  have ne : ∀ {j}, live (h.set i .dead) j → j ≠ i := fun {j} ⟨o, ho, hd⟩ e => by
    subst e
    by_cases hl : j < h.length
    · rw [List.getElem?_set_self hl] at ho; cases ho; exact hd rfl
    · rw [List.getElem?_eq_none (by simp; omega)] at ho; cases ho
  have liv : ∀ {j}, live (h.set i .dead) j → live h j := fun {j} ⟨o, ho, hd⟩ => ⟨o, get ho hd, hd⟩
  refine ⟨s.below, s.le, s.fle, fun j b hj => by have := s.dom j b hj; simpa using this, fun j c m hj => s.row j c m (get hj (by simp)), fun j es hj => s.map j es (get hj (by simp)),
    fun j k bj bk hne hj hk hb lj lk => ?_, s.cold, fun k cc j b hk hj lj => ?_, s.coldF⟩
  · have := s.inj j k bj bk hne hj hk hb (liv lj) (liv lk)
    unfold isRo at *
    rw [List.getElem?_set_ne (Ne.symm (ne lj)), List.getElem?_set_ne (Ne.symm (ne lk))]
    exact this
  · have := s.apart k cc j b hk hj (liv lj)
    unfold isRo at *
    rw [List.getElem?_set_ne (Ne.symm (ne lj))]
    exact this

/-- A block of which no name speaks is turned. -/
theorem Sim.turnFree (s : Sim B w0 ρ h w) {w' : World} (blk : Nat) (hb : B.lo ≤ blk) (hbf : ¬ B.F blk) (hcold : ρ.frz blk = none) (hfree : ∀ j bj, ρ j = some bj → live h j → bj.block ≠ blk)
    (hsz : w'.heap.size = w.heap.size) (hos : w'.os = w.os) (htape : w'.tape = w.tape) (hout : w'.output = w.output)
    (hoth : ∀ k, k ≠ blk → w'.heap[k]? = w.heap[k]?) : Sim B w0 ρ h w' :=
  ⟨⟨hos.trans s.below.os, htape.trans s.below.tape, hout.trans s.below.output, by have := s.below.size; omega, fun k hk => (hoth k (fun e => by
      subst e
      rcases hk with q | q
      · omega
      · exact hbf q)).trans (s.below.block k hk)⟩,
    by have := s.le; omega, fun k hk => by have := s.fle k hk; omega, fun j x hx => by
      obtain ⟨d1, d2, d3⟩ := s.dom j x hx
      exact ⟨d1, by omega, d3⟩,
    fun j c m hj => let ⟨b, h1, h2⟩ := s.row j c m hj; ⟨b, h1, h2.mono (.refl _) (hoth _ (hfree j b h1 ⟨_, hj, by simp⟩))⟩,
    fun j es hj => let ⟨b, h1, h2⟩ := s.map j es hj; ⟨b, h1, h2.mono (.refl _) (hoth _ (hfree j b h1 ⟨_, hj, by simp⟩))⟩, s.inj,
    fun k cc hk => let ⟨el, fr, q⟩ := s.cold k cc hk; ⟨el, fr, (hoth k fun e => by subst e; rw [hcold] at hk; cases hk).trans q⟩, s.apart, s.coldF⟩

/-- A new name for a block of which no other speaks. -/
theorem Sim.name (s : Sim B w0 ρ h w) (c : List Value) (m : Md) (b : Bind) (hb : b.block < w.heap.size) (hbf : ¬ B.F b.block) (hcold : ρ.frz b.block = none) (hfree : ∀ j bj, ρ j = some bj → live h j → bj.block ≠ b.block)
    (hrow : RowOk B (ρ.add h.length b) w b c m) : Sim B w0 (ρ.add h.length b) (h ++ [.row c m]) w := by
  have hle := Ren.add_le b s.fresh
  have old : ∀ {i x}, ρ.add h.length b i = some x → i ≠ h.length → ρ i = some x := fun {i x} hx hne => Ren.add_old hx hne
  refine ⟨s.below, s.le, s.fle, fun i x hx => ?_, fun i c' m' hi => ?_, fun i es hi => ?_, fun i j bi bj hne hi hj hbl hli hlj => ?_, s.cold, fun k cc i x hk hi hl => ?_, s.coldF⟩
  · by_cases e : i = h.length
    · subst e; rw [Ren.add_same] at hx; cases hx; simp [hb, hbf]
    · obtain ⟨d1, d2, d3⟩ := s.dom _ _ (old hx e); exact ⟨by simp; omega, d2, d3⟩
  · by_cases e : i < h.length
    · rw [List.getElem?_append_left e] at hi
      obtain ⟨x, h1, h2⟩ := s.row i c' m' hi
      exact ⟨x, hle.1 _ _ h1, h2.mono hle rfl⟩
    · rw [List.getElem?_append_right (by omega)] at hi
      have e2 : i = h.length := by
        have := (List.getElem?_eq_some_iff.1 hi).1; simp at this; omega
      subst e2
      simp at hi
      obtain ⟨rfl, rfl⟩ := hi
      exact ⟨b, Ren.add_same _ _ _, hrow⟩
  · by_cases e : i < h.length
    · rw [List.getElem?_append_left e] at hi
      obtain ⟨x, h1, h2⟩ := s.map i es hi
      exact ⟨x, hle.1 _ _ h1, h2.mono hle rfl⟩
    · rw [List.getElem?_append_right (by omega)] at hi
      have e2 : i = h.length := by
        have := (List.getElem?_eq_some_iff.1 hi).1; simp at this; omega
      subst e2
      simp at hi
  · by_cases e1 : i = h.length
    · by_cases e2 : j = h.length
      · omega
      · subst e1
        rw [Ren.add_same] at hi; cases hi
        have hj' := old hj e2
        have lj := (s.dom _ _ hj').1
        rw [live_append lj] at hlj
        exact absurd hbl.symm (hfree j bj hj' hlj)
    · by_cases e2 : j = h.length
      · subst e2
        rw [Ren.add_same] at hj; cases hj
        have hi' := old hi e1
        have li := (s.dom _ _ hi').1
        rw [live_append li] at hli
        exact absurd hbl (hfree i bi hi' hli)
      · have hi' := old hi e1
        have hj' := old hj e2
        have li := (s.dom _ _ hi').1
        have lj := (s.dom _ _ hj').1
        rw [live_append li] at hli
        rw [live_append lj] at hlj
        rw [isRo_append li, isRo_append lj]
        exact s.inj i j bi bj hne hi' hj' hbl hli hlj
  · by_cases e : i = h.length
    · subst e
      rw [Ren.add_same] at hi; cases hi
      right; intro q; subst q
      have hk' : ρ.frz b.block = some cc := hk
      rw [hcold] at hk'; cases hk'
    · have hi' := old hi e
      have li := (s.dom _ _ hi').1
      rw [live_append li] at hl
      rw [isRo_append li]
      exact s.apart k cc i x hk hi' hl

theorem cell_drew (b o : Nat) : w.drew.cell? ⟨b, o, none⟩ = w.cell? ⟨b, o, none⟩ := rfl

theorem live_dead {i j : Nat} (hl : live (h.set i .dead) j) : j ≠ i ∧ live h j := by
  obtain ⟨o, ho, hd⟩ := hl
  by_cases e : i = j
  · subst e
    by_cases hl : i < h.length
    · rw [List.getElem?_set_self hl] at ho; cases ho; exact absurd rfl hd
    · rw [List.getElem?_eq_none (by simp; omega)] at ho; cases ho
  · rw [List.getElem?_set_ne e] at ho
    exact ⟨Ne.symm e, o, ho, hd⟩

/-- A new row for what was there and what is appended. -/
theorem grow_ok (s : Sim B w0 ρ h w) {old new : List Value} {olds news : Array Value} (ho : RelL ρ old olds.toList) (hn : RelL ρ new news.toList) (rest : Array Value) (el : TypeId)
    (size k extra : Nat) (hk : old.length + new.length = k * size) (hrest : rest.size = extra * size) (hsz : 0 < size) :
    Sim B w0 (ρ.add h.length ⟨w.heap.size, 0, k * size, size, extra⟩) (h ++ [.row (old ++ new) (.grown size)]) (w.alloc (.cells (olds ++ news ++ rest) el)) := by
  have := s.addRow (cc := olds ++ news ++ rest) (el := el) (cs := old ++ new) size extra (.grown size) (fun hh => by cases hh) (fun q _ hq => by cases hq; rfl) (by simp)
    (by have := ho.1; have := hn.1; simp at *; omega)
    (fun j x hx => by
      have hr := RelL.append ho hn
      obtain ⟨y, hy, hr'⟩ := hr.get hx
      refine ⟨y, ?_, hr'⟩
      have hlt : j < olds.size + news.size := by
        have h1 := (List.getElem?_eq_some_iff.1 hy).1; simpa using h1
      rw [Array.getElem?_append_left (by simpa using hlt)]
      rw [← Array.getElem?_toList, Array.toList_append]; exact hy)
  rw [List.length_append, hk] at this
  exact this

theorem size_zeroCells' (z : Array Value) (n : Nat) : (Builtin.zeroCells z n).size = n * z.size := by simp [Builtin.zeroCells]

theorem append_run_grow {st xt ty e : TypeId} {z x' : Value} {size bytes sLen sCap n : Nat} {r1 : Value × Nat × Nat} {de : TypeDesc}
    (h1 : tinfo P st = some (.slice e, r1)) (h2 : tinfo P e = some (de, z, size, bytes)) (h3 : (∃ e2, P.underlying xt = some (.slice e2)) ∨ P.underlying xt = some .string) {base : Option Addr}
    (hl : (Builtin.lenOf x').run P w = .ok n w) {olds news : Array Value} (hnew : (Builtin.firstCells size n x').run P w.drew = .ok news w.drew)
    (hold : (Builtin.firstCells size sLen (.slice base sLen sCap)).run P w.drew = .ok olds w.drew) (hg : sCap < sLen + n) (hb : (sLen + n) * bytes ≤ 140737488355328) (h63 : sLen + n ≤ 9223372036854775807) :
    ∃ cap', sLen + n ≤ cap' ∧ (Builtin.append_ #[st, xt] ty #[.slice base sLen sCap, x']).run P w = .ok (.slice (some ⟨w.heap.size, 0, none⟩) (sLen + n) cap')
      (w.drew.alloc (.cells (olds ++ news ++ Builtin.zeroCells z.cells (cap' - (sLen + n))) e)) := by
  refine ⟨grownCap w (sLen + n) sCap e, by unfold grownCap Question.cut; exact Nat.le_add_right _ _, ?_⟩
  obtain ⟨hu, _⟩ := tinfo_spec h1
  obtain ⟨_, i, hi, hz, hsz, hby⟩ := tinfo_spec h2
  have hn : ¬ (sLen + n ≤ sCap) := by omega
  have h63' : ¬ (9223372036854775807 < ((sLen : Int) + (n : Int))) := by omega
  have h48' : ¬ (281474976710656 < Builtin.nextslicecap (sLen + n) sCap * i.bytes) := by have := growslice_fits hg hb; rw [hby]; omega
  subst hsz
  rcases h3 with ⟨e2, h3⟩ | h3
  · simp [Builtin.append_, run_underlying hu, run_underlying h3, sizeOf, typeInfo, zeroValue, hi, hz, hl, hn, h63', h48', Question.forced, hold, hnew, newRow, grownCap]
  · simp [Builtin.append_, run_underlying hu, run_underlying h3, sizeOf, typeInfo, zeroValue, hi, hz, hl, hn, h63', h48', Question.forced, hold, hnew, newRow, grownCap]

theorem append_run_fits {st xt ty e : TypeId} {z x' : Value} {size bytes sLen sCap n : Nat} {r1 : Value × Nat × Nat} {de : TypeDesc}
    (h1 : tinfo P st = some (.slice e, r1)) (h2 : tinfo P e = some (de, z, size, bytes)) (h3 : (∃ e2, P.underlying xt = some (.slice e2)) ∨ P.underlying xt = some .string) {base : Option Addr}
    (hl : (Builtin.lenOf x').run P w = .ok n w) {news : Array Value} (hnew : (Builtin.firstCells size n x').run P w = .ok news w) (hg : sLen + n ≤ sCap) {w' : World}
    (hst : ∀ a, base = some a → (storeCells (a.add (sLen * size)) news.toList).run P w = .ok () w') (hnil : base = none → w' = w) :
    (Builtin.append_ #[st, xt] ty #[.slice base sLen sCap, x']).run P w = .ok (.slice base (sLen + n) sCap) w' := by
  obtain ⟨hu, _⟩ := tinfo_spec h1
  obtain ⟨_, i, hi, hz, hsz, hby⟩ := tinfo_spec h2
  subst hsz
  cases base with
  | none =>
    have := hnil rfl
    subst this
    rcases h3 with ⟨e2, h3⟩ | h3
    · simp [Builtin.append_, run_underlying hu, run_underlying h3, sizeOf, typeInfo, hi, hl, hg, hnew]
    · simp [Builtin.append_, run_underlying hu, run_underlying h3, sizeOf, typeInfo, hi, hl, hg, hnew]
  | some a =>
    have := hst a rfl
    rcases h3 with ⟨e2, h3⟩ | h3
    · simp [Builtin.append_, run_underlying hu, run_underlying h3, sizeOf, typeInfo, hi, hl, hg, hnew, this]
    · simp [Builtin.append_, run_underlying hu, run_underlying h3, sizeOf, typeInfo, hi, hl, hg, hnew, this]

end
end Go.Ax
