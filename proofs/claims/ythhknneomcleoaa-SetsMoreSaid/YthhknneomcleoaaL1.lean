/- A law's arguments, on abstract values: slices and structs of whatever. -/
import Derived.Test.YthhknneomcleoaaL0
namespace Go.Ax
open Go.RowKit Go.ChangeShapes

section
variable {H : Type} {enc : TypeId × Value → H} {P : Program} {W : World} {base : Nat} {spare : Nat → Bool} {held : Bool}

/-- What is read as of a type is some abstract value. -/
def Reads (enc : TypeId × Value → H) (P : Program) (W : World) (base : Nat) (spare : Nat → Bool) (held : Bool) (t : TypeId) {α : Type} (f : α → Value) (Good : α → Prop) : Prop :=
  ∀ (fuel : Nat) (cs : List Value) (x : DataW H × List MemPlace), DataW.trod enc P W base spare held fuel t cs = some x → ∃ a, Good a ∧ RelL (startRen W) (cellsOf (f a)) cs
theorem relL1 {ρ : Ren} {a b : Value} (h : Rel ρ a b) : RelL ρ [a] [b] := ⟨rfl, fun i x y hx hy => by
  match i with
  | 0 => cases hx; cases hy; exact h
  | i + 1 => cases hx⟩
theorem relL_1 {ρ : Ren} {a b : Value} (h : RelL ρ [a] [b]) : Rel ρ a b := h.2 0 a b rfl rfl
theorem reads_int {t : TypeId} {k : IntKind} (ht : P.underlying t = some (.int k)) : Reads enc P W base spare held t (fun n => .int k n) fun n => (Lit.int k n).wf = true := fun _ _ _ h => by
  obtain ⟨n, rfl, _, hw⟩ := DataW.trod_int ht h
  exact ⟨n, hw, relL1 (.int _ _)⟩
theorem reads_bool {t : TypeId} (ht : P.underlying t = some .bool) : Reads enc P W base spare held t (fun b => .bool b) fun _ => True := fun _ _ _ h => by
  obtain ⟨b, rfl, _⟩ := DataW.trod_bool ht h
  exact ⟨b, trivial, relL1 (.bool _)⟩
theorem reads_str {t : TypeId} (ht : P.underlying t = some .string) : Reads enc P W base spare held t (fun s => .string s) fun s => s.size ≤ maxLen := fun _ _ _ h => by
  obtain ⟨s, rfl, _, hw⟩ := DataW.trod_string ht h
  exact ⟨s, hw, relL1 (.str _)⟩
theorem add_none {b off n : Nat} : (⟨b, off, none⟩ : Addr).add n = ⟨b, off + n, none⟩ := by
  unfold Addr.add
  split
  · rename_i h; subst h; rfl
  · rfl
theorem reads_slice {α : Type} {f : α → Value} {Good : α → Prop} {t e : TypeId} {sz : Nat} (ht : P.underlying t = some (.slice e)) (hc : P.cellsOf e = sz) (hs : 0 < sz) (hz : ∀ a, Good a → (cellsOf (f a)).length = sz) (he : Reads enc P W base spare held e f Good) :
    Reads enc P W base spare held t (fun l : List α => lit (l.map f)) fun l => (∀ x ∈ l, Good x) ∧ l.length ≤ maxLen := fun fuel cs x h => by
  subst hc
  rcases DataW.trod_slice ht h with ⟨rfl, _⟩ | ⟨a, len, cap, elems, rest, n, _, rfl, _, hb, hl, hm, hlen, hel, _, _⟩
  · exact ⟨[], ⟨by simp, by simp⟩, relL1 (.lit0 none 0 fun _ => rfl)⟩
  have each : ∀ i, i < len → ∃ y, Good y ∧ ∃ cs', W.cells? base (a.add (i * P.cellsOf e)) (P.cellsOf e) = some cs' ∧ RelL (startRen W) (cellsOf (f y)) cs' := fun i hi => by
    have := hel i hi
    rw [List.getElem?_eq_getElem (by omega), Option.bind_eq_some_iff] at this
    obtain ⟨cs', h1, h2⟩ := this
    obtain ⟨y, h3, h4⟩ := he n cs' _ h2
    exact ⟨y, h3, cs', h1, h4⟩
  let g : Fin len → α := fun i => Classical.choose (each i.1 i.2)
  have hg : ∀ (i : Fin len), Good (g i) ∧ ∃ cs', W.cells? base (a.add (i.1 * P.cellsOf e)) (P.cellsOf e) = some cs' ∧ RelL (startRen W) (cellsOf (f (g i))) cs' := fun i => Classical.choose_spec (each i.1 i.2)
  refine ⟨List.ofFn g, ⟨fun x hx => ?_, by rw [List.length_ofFn]; omega⟩, relL1 ?_⟩
  · obtain ⟨i, rfl⟩ := List.mem_ofFn.1 hx
    exact (hg i).1
  by_cases h0 : len = 0
  · subst h0
    exact .lit0 _ _ (fun q => by cases q)
  obtain ⟨b, off, spot⟩ := a
  have cellAt : ∀ i (hi : i < len) j, j < P.cellsOf e → ∃ y, W.cell? (((⟨b, off, spot⟩ : Addr).add (i * P.cellsOf e)).add j) = some y ∧ ∃ z, (cellsOf (f (g ⟨i, hi⟩)))[j]? = some z ∧ Rel (startRen W) z y := fun i hi j hj => by
    obtain ⟨hgd, cs', h1, h2⟩ := hg ⟨i, hi⟩
    obtain ⟨_, h3, h4⟩ := World.cells?_some h1
    have hzl := hz _ hgd
    have l2 := h2.1
    refine ⟨cs'[j]'(by omega), by rw [h4 j hj, List.getElem?_eq_getElem], (cellsOf (f (g ⟨i, hi⟩)))[j]'(by omega), List.getElem?_eq_getElem _, h2.2 j _ _ (List.getElem?_eq_getElem _) (List.getElem?_eq_getElem _)⟩
  obtain ⟨y0, hy0, _⟩ := cellAt 0 (by omega) 0 hs
  have e0 : ((⟨b, off, spot⟩ : Addr).add (0 * P.cellsOf e)).add 0 = ⟨b, off, spot⟩ := by simp [Addr.add]
  rw [e0] at hy0
  unfold World.cell? at hy0
  simp only at hy0
  split at hy0
  · rename_i cc el fo hw
    cases spot with
    | some s => simp at hy0
    | none =>
      have at_ : ∀ i (hi : i < len) j, j < P.cellsOf e → ∃ y, cc[off + (i * P.cellsOf e + j)]? = some y ∧ ∃ z, (cellsOf (f (g ⟨i, hi⟩)))[j]? = some z ∧ Rel (startRen W) z y := fun i hi j hj => by
        obtain ⟨y, h1, h2⟩ := cellAt i hi j hj
        rw [add_none, add_none] at h1
        unfold World.cell? at h1
        simp only [hw] at h1
        refine ⟨y, ?_, h2⟩
        rw [← Nat.add_assoc]; simpa using h1
      have hbd : off + len * P.cellsOf e ≤ cc.size := by
        obtain ⟨y, h1, _⟩ := at_ (len - 1) (by omega) (P.cellsOf e - 1) (by omega)
        have h2 := (Array.getElem?_eq_some_iff.1 h1).1
        have h3 : len * P.cellsOf e = (len - 1) * P.cellsOf e + P.cellsOf e := by
          rw [← Nat.succ_mul]; congr 1; omega
        omega
      have hsz : ((List.ofFn g).map f).toArray.size = len := by simp
      have hget : ∀ (i : Nat) (p : i < ((List.ofFn g).map f).toArray.size), ((List.ofFn g).map f).toArray[i] = f (g ⟨i, by rw [hsz] at p; exact p⟩) := fun i p => by simp
      have key := Rel.litS (ρ := startRen W) ((List.ofFn g).map f).toArray b off (P.cellsOf e) cap cc (by unfold startRen; dsimp only; rw [hw]) (by rw [hsz]; exact hl) hs (fun i p => by rw [hget i p]; exact hz _ (hg _).1) (by rw [hsz]; exact hbd) fun i j p q r => by
        have hi : i < len := by rw [hsz] at p; exact p
        have hj : j < P.cellsOf e := by rw [← hz _ (hg ⟨i, hi⟩).1]; simpa [hget i p] using q
        obtain ⟨y, h1, z, h2, h3⟩ := at_ i hi j hj
        have e1 : cc[off + (i * P.cellsOf e + j)] = y := by
          have := Array.getElem?_eq_getElem r
          exact Option.some.inj (this.symm.trans h1)
        have e2 : (cellsOf ((List.ofFn g).map f).toArray[i])[j]? = some z := by rw [hget i p]; exact h2
        have e3 : (cellsOf ((List.ofFn g).map f).toArray[i])[j] = z := by
          have := List.getElem?_eq_getElem q
          exact Option.some.inj (this.symm.trans e2)
        rw [e1, e3]; exact h3
      rw [hsz] at key
      exact key
  · cases hy0
theorem reads_struct {fs : Array Field} {α : Type} {g : α → List Value} {Good : α → Prop} {t : TypeId} {n : Nat} (ht : P.underlying t = some (.struct fs)) (hn : P.cellsOf t = n)
    (parts : ∀ cs : List Value, cs.length = n → (∀ (i : Nat) (f : Field), fs[i]? = some f → ∃ m y, DataW.trod enc P W base spare held m f.type ((cs.drop f.offset).take (P.cellsOf f.type)) = some y) → ∃ a, Good a ∧ RelL (startRen W) (g a) cs) :
    Reads enc P W base spare held t (fun a => .agg (g a).toArray) Good := fun fuel cs x h => by
  obtain ⟨xs, m, _, _, h1, h2, h3⟩ := DataW.trod_struct ht h
  obtain ⟨a, h4, h5⟩ := parts cs (by rw [← hn]; exact h1) fun i f hf => by
    have hi : i < fs.size := by
      have := Array.getElem?_eq_some_iff.1 hf
      exact this.1
    have := h3 i f hf
    rw [List.getElem?_eq_getElem (by omega)] at this
    exact ⟨m, _, this⟩
  exact ⟨a, h4, by simpa [cellsOf] using h5⟩

/-- An argument. -/
theorem arg_slice {α : Type} {f : α → Value} {Good : List α → Prop} {r : Reach} {b0 : Nat} {t e : TypeId} {v : Value} {d : DataW H} {ps : List MemPlace} (ht : P.underlying t = some (.slice e)) (hr : Reads enc P W base spare held t (fun l : List α => lit (l.map f)) Good)
    (hval : Value.okWide P W r b0 t v) (hd : DataW.Trod enc P W base spare held t v d ps) : ∃ zs : List α, Rel (startRen W) (lit (zs.map f)) v ∧ Good zs ∧ ∀ x ∈ ps, x.block < W.heap.size := by
  obtain ⟨a, len, cap, rfl⟩ := Go.WideShapes.okWide_slice ht hval
  obtain ⟨fuel, hf⟩ := hd
  have hlt := DataW.trod_lt _ _ _ _ hf
  obtain ⟨zs, h1, h2⟩ := hr _ _ _ hf
  exact ⟨zs, relL_1 h2, h1, hlt⟩
theorem arg_struct {fs : Array Field} {α : Type} {g : α → List Value} {Good : α → Prop} {r : Reach} {b0 : Nat} {t : TypeId} {v : Value} {d : DataW H} {ps : List MemPlace} (ht : P.underlying t = some (.struct fs)) (hr : Reads enc P W base spare held t (fun a => .agg (g a).toArray) Good)
    (hval : Value.okWide P W r b0 t v) (hd : DataW.Trod enc P W base spare held t v d ps) : ∃ a : α, Rel (startRen W) (.agg (g a).toArray) v ∧ Good a ∧ ∀ x ∈ ps, x.block < W.heap.size := by
  obtain ⟨cs, rfl, _⟩ := Go.WideShapes.okWide_struct ht hval
  obtain ⟨fuel, hf⟩ := hd
  have hlt := DataW.trod_lt _ _ _ _ hf
  obtain ⟨a, h1, h2⟩ := hr _ _ _ hf
  have h3 : RelL (startRen W) (g a) cs.toList := by simpa [cellsOf, Value.cells] using h2
  refine ⟨a, .agg _ _ (by simpa using h3.1) fun i p q => ?_, h1, hlt⟩
  refine h3.2 i _ _ ?_ ?_
  · simp at p; simp [p]
  · simp [q]

/-- A []uint8. -/
theorem u8s_arg {r : Reach} {b0 : Nat} {t e : TypeId} {v : Value} {d : DataW H} {ps : List MemPlace}
    (ht : P.underlying t = some (.slice e)) (he : P.underlying e = some (.int .u8)) (hc : P.cellsOf e = 1) (hval : Value.okWide P W r b0 t v) (hd : DataW.Trod enc P W base spare held t v d ps) :
    ∃ bs : List Nat, Rel (startRen W) (lit (bs.map fun b : Nat => Value.int .u8 (b : Int))) v ∧ (∀ x ∈ bs, x < 256) ∧ bs.length ≤ maxLen ∧ ∀ x ∈ ps, x.block < W.heap.size := by
  obtain ⟨zs, h1, ⟨h2, h3⟩, h4⟩ := arg_slice ht (reads_slice ht hc (by omega) (fun _ _ => rfl) (reads_int he)) hval hd
  have hz : ∀ x ∈ zs, ∃ m : Nat, m < 256 ∧ x = (m : Int) := fun x hx => wf_byte (h2 x hx)
  refine ⟨zs.map Int.toNat, ?_, fun x hx => ?_, by simpa using h3, h4⟩
  · have : ((zs.map Int.toNat).map fun b : Nat => Value.int .u8 (b : Int)) = zs.map fun n => Value.int .u8 n := by
      rw [List.map_map]
      refine List.map_congr_left fun x hx => ?_
      obtain ⟨m, _, rfl⟩ := hz x hx
      simp
    rw [this]; exact h1
  · obtain ⟨y, hy, rfl⟩ := List.mem_map.1 hx
    obtain ⟨m, hm, rfl⟩ := hz y hy
    simpa using hm
end
end Go.Ax
