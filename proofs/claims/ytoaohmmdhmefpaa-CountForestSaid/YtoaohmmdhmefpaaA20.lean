/- Ax, part 20: from a call on abstract values to a call of the program: where it begins. -/
import Derived.Test.YtoaohmmdhmefpaaA19
namespace Go.Ax
open Go.RowKit

section
variable {P : Program}

/-- Where a law begins: nothing has a name; all is frozen. -/
def startRen (W : World) : Ren := ⟨fun _ => none, fun k => match W.heap[k]? with
  | some (.cells cc _ _) => some cc
  | _ => none⟩

theorem Sim.start (W : World) : Sim ⟨W.heap.size, fun _ => False⟩ W (startRen W) [] W := by
  refine ⟨.refl _ _, Nat.le_refl _, fun _ q => q.elim, fun i b hi => ?_, fun i c m hi => ?_, fun i es hi => ?_, fun i j bi bj _ hi => ?_, fun k cc hk => ?_, fun k cc i b _ hi => ?_, fun _ _ _ q => q.elim⟩
  · cases hi
  · simp at hi
  · simp at hi
  · cases hi
  · unfold startRen at hk
    dsimp only at hk
    split at hk
    · rename_i c0 el f hw; cases hk; exact ⟨el, f, hw⟩
    · cases hk
  · cases hi

/-- A law's call. -/
theorem calls_of_acall {f : FuncId} {args : List Value} {args' : Array Value} {W : World} (hc : acall P f args [] fun v _ => v = .bool true)
    (hr : RelL (startRen W) args args'.toList) :
    Calls P f args' W fun e W' => e = .returned (.bool true) ∧ Below W.heap.size W W' := by
  refine (hc.2 _ _ _ _ _ (Sim.start W) hr).mono ?_
  rintro e w' ⟨ρ', v, v', h', _, rfl, h3, h4, rfl⟩
  cases h3
  exact ⟨rfl, h4.below.os, h4.below.tape, h4.below.output, h4.below.size, fun k hk => h4.below.block k (.inl hk)⟩

/-- A slice of scalars that a law is given. -/
theorem start_slice {W : World} {b off len cap : Nat} {cc : Array Value} {el : TypeId} {f : Nat × Nat} {es : List Value} (hw : W.heap[b]? = some (.cells cc el f)) (hl : es.length = len) (hc : len ≤ cap)
    (hz : ∀ e ∈ es, cellsOf e = [e] ∧ plainV e = true) (hb : off + len ≤ cc.size) (hr : ∀ (j : Nat) (v : Value), es[j]? = some v → cc[off + j]? = some v) :
    Rel (startRen W) (lit es) (.slice (some ⟨b, off, none⟩) len cap) := by
  subst hl
  have h1 : ∀ (i : Nat) (p : i < es.toArray.size), (cellsOf es.toArray[i]).length = 1 := fun i p => by
    have := (hz es.toArray[i] (by simp)).1
    rw [this]; rfl
  refine .litS es.toArray b off 1 cap cc (by unfold startRen; dsimp only; rw [hw]) (by simpa using hc) (by omega) h1 (by simpa using hb) fun i j p q r => ?_
  have hq := h1 i p
  have j0 : j = 0 := by omega
  subst j0
  have hp : i < es.length := by simpa using p
  have h2 := hr i es[i] (List.getElem?_eq_getElem hp)
  have e3 : off + (i * 1 + 0) = off + i := by omega
  have h3 : cc[off + (i * 1 + 0)] = es[i] := by
    have := Array.getElem?_eq_getElem r
    have h4 : cc[off + (i * 1 + 0)]? = some es[i] := by rw [e3]; exact h2
    exact Option.some.inj (this.symm.trans h4)
  rw [h3]
  obtain ⟨z1, z2⟩ := hz es[i] (by simp)
  have h5 : (cellsOf es.toArray[i])[0] = es[i] := by
    have h6 : ∀ (l : List Value) (p : 0 < l.length), l = [es[i]] → l[0] = es[i] := fun l p e => by subst e; rfl
    exact h6 _ q z1
  rw [h5]
  exact Rel.eq_plain z2

end
end Go.Ax
