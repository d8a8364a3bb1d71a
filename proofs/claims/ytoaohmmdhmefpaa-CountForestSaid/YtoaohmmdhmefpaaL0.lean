/- A law's arguments, on abstract values. -/
import Derived.Test.YtoaohmmdhmefpaaA20
import Derived.Test.YtoaohmmdhmefpaaC1
import Derived.ChangeSlices
import Derived.WideShapes
namespace Go.Ax
open Go.RowKit Go.ChangeShapes

theorem wf_inI {n : Int} (h : (Lit.int .i64 n).wf = true) : inI n := by
  simp only [Lit.wf, Bool.and_eq_true, decide_eq_true_eq] at h
  have h1 : IntKind.i64.min = -9223372036854775808 := rfl
  have h2 : IntKind.i64.max = 9223372036854775807 := rfl
  unfold inI; omega
theorem wf_byte {n : Int} (h : (Lit.int .u8 n).wf = true) : ∃ m : Nat, m < 256 ∧ n = (m : Int) := by
  simp only [Lit.wf, Bool.and_eq_true, decide_eq_true_eq] at h
  have h1 : IntKind.u8.min = 0 := rfl
  have h2 : IntKind.u8.max = 255 := rfl
  exact ⟨n.toNat, by omega, by omega⟩

/-- A row of ints that a law is given. -/
theorem ints_arg {H : Type} {enc : TypeId × Value → H} {P : Program} {W : World} {base : Nat} {spare : Nat → Bool} {held : Bool} {r : Reach} {b0 : Nat} {t e : TypeId} {v : Value} {d : DataW H} {ps : List MemPlace}
    (ht : P.underlying t = some (.slice e)) (he : P.underlying e = some (.int .i64)) (hc : P.cellsOf e = 1) (hval : Value.okWide P W r b0 t v) (hd : DataW.Trod enc P W base spare held t v d ps) :
    ∃ zs : List Int, Rel (startRen W) (lit (zs.map fun n => .int .i64 n)) v ∧ (∀ x ∈ zs, inI x) ∧ zs.length ≤ maxLen ∧ ∀ x ∈ ps, x.block < W.heap.size := by
  obtain ⟨a, len, cap, rfl⟩ := Go.WideShapes.okWide_slice ht hval
  obtain ⟨fuel, hf⟩ := hd
  have hlt := DataW.trod_lt _ _ _ _ hf
  have hcells : (Value.slice a len cap).cells.toList = [.slice a len cap] := rfl
  rw [hcells] at hf
  rcases open_ints ht he hc hf with ⟨h1, _⟩ | ⟨a', len', cap', zs, h1, h2, h3, h4, h5, h6, h7, h8⟩
  · simp only [List.cons.injEq, Value.slice.injEq, and_true] at h1
    obtain ⟨rfl, rfl, rfl⟩ := h1
    exact ⟨[], .lit0 none 0 (fun _ => rfl), by simp, by simp, hlt⟩
  · simp only [List.cons.injEq, Value.slice.injEq, and_true] at h1
    obtain ⟨rfl, rfl, rfl⟩ := h1
    have hz : len ≤ zs.length := by rw [h5]; split <;> omega
    refine ⟨zs.take len, ?_, fun x hx => wf_inI (h8 x (List.mem_of_mem_take hx)), by simp; omega, hlt⟩
    by_cases h0 : len = 0
    · subst h0
      exact .lit0 _ _ (fun q => by cases q)
    · have hc0 := h7 0 (by omega)
      have ea : a'.add 0 = a' := by simp [Addr.add]
      rw [ea] at hc0
      obtain ⟨b, off, spot⟩ := a'
      unfold World.cell? at hc0
      simp only at hc0
      split at hc0
      · rename_i cc el f hb
        cases spot with
        | some s => simp at hc0
        | none =>
          have each : ∀ i, i < zs.length → cc[off + i]? = some (.int .i64 (zs.getD i 0)) := fun i hi => by
            have := h7 i hi
            unfold World.cell? Addr.add at this
            by_cases hi0 : i = 0
            · subst hi0; simpa [hb] using this
            · simpa [hi0, hb] using this
          have hlast := each (len - 1) (by omega)
          have hsz : off + (len - 1) < cc.size := by
            have := Array.getElem?_eq_some_iff.1 hlast
            exact this.1
          refine start_slice hb (by simp; omega) h3 (fun x hx => ?_) (by omega) fun j x hj => ?_
          · obtain ⟨n, _, rfl⟩ := List.mem_map.1 hx
            exact ⟨rfl, rfl⟩
          · rw [List.getElem?_map] at hj
            by_cases hjl : j < (zs.take len).length
            · rw [List.getElem?_eq_getElem hjl] at hj
              simp at hj
              have hjz : j < zs.length := by simp at hjl; omega
              rw [each j hjz, ← hj]
              simp [hjz]
            · rw [List.getElem?_eq_none (by omega)] at hj; cases hj
      · cases hc0

end Go.Ax
