/- Ax, part 5: literals, parts, addresses, numbers and texts. -/
import Derived.Test.YtoaohmmdhmefpaaA4
namespace Go.Ax
open Go.RowKit

section
variable {P : Program} {B : Fr} {w0 w : World} {ρ : Ren} {h : Heap}

theorem part_ok {t : TypeId} {cs cs' : Array Value} {off : Nat} {x : Value} (hr : RelL ρ cs.toList cs'.toList) (e : part_ P t cs off = some x) (w : World) :
    ∃ y, (part t cs' off).run P w = .ok y w ∧ Rel ρ x y := by
  unfold part_ at e
  split at e
  · rename_i d z sz by_ ht
    split at e
    · rename_i hd
      simp only [Option.some.injEq] at e; subst e
      refine ⟨.agg (cs'.extract off (off + sz)), by simp [part, run_agg ht, hd, run_size ht], RelL.agg ?_⟩
      have e1 : ∀ a : Array Value, (a.extract off (off + sz)).toList = (a.toList.drop off).take sz := fun a => by
        simp [Array.toList_extract]
      rw [e1, e1]
      exact (hr.drop off).take sz
    · rename_i hd
      have e' : cs.toList[off]? = some x := by simpa using e
      obtain ⟨y, hy, hr'⟩ := hr.get e'
      have hy' : cs'[off]? = some y := by simpa using hy
      exact ⟨y, by simp [part, run_agg ht, hd, hy'], hr'⟩
  · cases e

theorem foldl_zipIdx_write (cells : List Value) : ∀ (l : List Value) (cs : Array Value) (off k : Nat),
    ((l.zipIdx k).foldl (fun (cs : Array Value) (x : Value × Nat) => cs.setIfInBounds (off + x.2) x.1) cs).toList = writeL cs.toList (off + k) l := by
  intro l
  induction l with
  | nil => intro cs off k; rfl
  | cons v l ih =>
    intro cs off k
    rw [List.zipIdx_cons, List.foldl_cons, ih]
    simp [writeL_cons, Nat.add_assoc]

theorem writeL_rel {a a' : List Value} (h : RelL ρ a a') : ∀ {v v' : List Value} (off : Nat), RelL ρ v v' → RelL ρ (writeL a off v) (writeL a' off v') := by
  have setL : ∀ {a a' : List Value} (off : Nat) {x y : Value}, RelL ρ a a' → Rel ρ x y → RelL ρ (a.set off x) (a'.set off y) := fun {a a'} off {x y} h hxy => by
    refine ⟨by simp [h.1], fun i u v hu hv => ?_⟩
    by_cases e : off = i
    · subst e
      by_cases hl : off < a.length
      · rw [List.getElem?_set_self hl] at hu
        rw [List.getElem?_set_self (h.1 ▸ hl)] at hv
        cases hu; cases hv; exact hxy
      · rw [List.getElem?_eq_none (by simp; omega)] at hu; cases hu
    · rw [List.getElem?_set_ne e] at hu hv
      exact h.2 i u v hu hv
  intro v
  induction v generalizing a a' with
  | nil =>
    intro v' off hv
    cases v' with
    | nil => exact h
    | cons y ys => have := hv.1; simp at this
  | cons x xs ih =>
    intro v' off hv
    cases v' with
    | nil => have := hv.1; simp at this
    | cons y ys =>
      rw [writeL_cons, writeL_cons]
      exact ih (setL off h (hv.2 0 x y (by simp) (by simp))) (off + 1) ⟨by have := hv.1; simpa using this, fun i u v hu hv' => hv.2 (i + 1) u v (by simpa using hu) (by simpa using hv')⟩

/-- Parts of a literal. -/
def RelP (ρ : Ren) (l l' : List (Nat × Value)) : Prop :=
  l.length = l'.length ∧ ∀ (i : Nat) (x y : Nat × Value), l[i]? = some x → l'[i]? = some y → x.1 = y.1 ∧ Rel ρ x.2 y.2

theorem fill_ok (place : Nat → Option (Nat × Nat)) : ∀ {ps ps' : List (Nat × Value)} {cells : List Value} {cells' : Array Value} {out : List Value},
    RelP ρ ps ps' → RelL ρ cells cells'.toList → fillA place cells ps = some out → ∃ out', Instr.fill place cells' ps' = some out' ∧ RelL ρ out out'.toList := by
  intro ps
  induction ps with
  | nil =>
    intro ps' cells cells' out hp hc e
    cases ps' with
    | nil => simp only [fillA, Option.some.injEq] at e; subst e; exact ⟨cells', rfl, hc⟩
    | cons y ys => have := hp.1; simp at this
  | cons x xs ih =>
    intro ps' cells cells' out hp hc e
    cases ps' with
    | nil => have := hp.1; simp at this
    | cons y ys =>
      obtain ⟨i, v⟩ := x
      obtain ⟨i', v'⟩ := y
      obtain ⟨h1, h2⟩ := hp.2 0 (i, v) (i', v') rfl rfl
      dsimp only at h1 h2
      subst h1
      simp only [fillA] at e
      split at e
      · rename_i off size hpl
        split at e
        · rename_i hcond
          obtain ⟨c1, c2, c3⟩ := hcond
          have hcells := h2.cells c1
          have hsz : v'.cells.size = size := by have := hcells.1; simp at this; omega
          have hlen : cells.length = cells'.size := by simpa using hc.1
          have hw : (Array.foldl (fun cs (x : Value × Nat) => cs.setIfInBounds (off + x.2) x.1) cells' v'.cells.zipIdx).toList = writeL cells'.toList off v'.cells.toList := by
            rw [← Array.foldl_toList]
            have := foldl_zipIdx_write [] v'.cells.toList cells' off 0
            simpa using this
          obtain ⟨out', e1, e2⟩ := ih (ps' := ys) (cells' := Array.foldl (fun cs (x : Value × Nat) => cs.setIfInBounds (off + x.2) x.1) cells' v'.cells.zipIdx)
            ⟨by have := hp.1; simpa using this, fun k u u' hu hu' => hp.2 (k + 1) u u' (by simpa using hu) (by simpa using hu')⟩ (by rw [hw]; exact writeL_rel hc off hcells) e
          refine ⟨out', ?_, e2⟩
          have hno : (decide (v'.cells.size ≠ size) || decide (off + v'.cells.size > cells'.size)) = false := by simp; omega
          simp only [Instr.fill, hpl]
          rw [if_neg (by simpa using hno)]
          exact e1
        · cases e
      · cases e

theorem get_repA (z : List Value) : ∀ (n k : Nat), k < n * z.length → (repA z n)[k]? = z[k % z.length]? := by
  intro n
  induction n with
  | zero => intro k hk; simp at hk
  | succ n ih =>
    intro k hk
    have hz : 0 < z.length := by
      rcases Nat.eq_zero_or_pos z.length with h0 | h0
      · rw [h0] at hk; simp at hk
      · exact h0
    unfold repA at *
    rw [List.replicate_succ, List.flatten_cons]
    by_cases hlt : k < z.length
    · rw [List.getElem?_append_left hlt, Nat.mod_eq_of_lt hlt]
    · rw [List.getElem?_append_right (by omega), ih _ (by rw [Nat.succ_mul] at hk; omega)]
      congr 1
      exact (Nat.mod_eq_sub_mod (by omega)).symm
@[simp] theorem length_repA (z : List Value) (n : Nat) : (repA z n).length = n * z.length := by
  simp [repA]
theorem repA_one (v : Value) (n : Nat) : repA [v] n = List.replicate n v := by
  unfold repA
  induction n with
  | zero => rfl
  | succ n ih => rw [List.replicate_succ, List.flatten_cons, ih]; rfl

/-- The model's own way to say so many zero values. -/
theorem rep_rel {z : Value} (n size : Nat) (hz : z.cells.size = size) (hs : 0 < size) (hok : okVal (constV z) = true) :
    RelL ρ (repA (cellsOf (constV z)) n) ((Array.range (n * size)).map (fun i => z.cells[i % z.cells.size]!)).toList := by
  have hc := (constV_rel (ρ := ρ) z).cells hok
  have hl : (cellsOf (constV z)).length = size := by have := hc.1; simp at this; omega
  refine ⟨by simp [hl], fun i x y hx hy => ?_⟩
  have hi : i < n * size := by have := (List.getElem?_eq_some_iff.1 hx).1; simpa [hl] using this
  rw [get_repA _ _ _ (by rw [hl]; exact hi), hl] at hx
  have hmod : i % size < size := Nat.mod_lt _ hs
  have hy' : y = z.cells[i % size]! := by
    simp [hi, hz] at hy; exact hy.symm
  rw [hy']
  obtain ⟨u, hu, hr⟩ := hc.get hx
  have : z.cells[i % size]? = some u := by simpa using hu
  have e2 : z.cells[i % size]! = u := by
    rw [getElem!_pos _ _ (by rw [hz]; exact hmod)]
    have := (Array.getElem?_eq_some_iff.1 this).2
    exact this
  rw [e2]; exact hr


end
end Go.Ax
