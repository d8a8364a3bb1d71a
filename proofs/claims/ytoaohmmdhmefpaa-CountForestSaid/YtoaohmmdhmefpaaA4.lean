/- Ax, part 4: each operation that calls nothing does in the model what it does on abstract values. -/
import Derived.Test.YtoaohmmdhmefpaaA3
import Derived.Laws.Entries
namespace Go.Ax
open Go.RowKit

section
variable {P : Program} {B : Fr} {w0 w : World} {ρ : Ren} {h : Heap}

theorem tinfo_spec {t : TypeId} {d : TypeDesc} {z : Value} {sz by_ : Nat} (e : tinfo P t = some (d, z, sz, by_)) :
    P.underlying t = some d ∧ ∃ i, P.info? t = some i ∧ i.zero = some z ∧ i.size = sz ∧ i.bytes = by_ := by
  unfold tinfo at e
  split at e
  · rename_i d' i h1 h2
    split at e
    · rename_i z' h3
      simp only [Option.some.injEq, Prod.mk.injEq] at e
      obtain ⟨rfl, rfl, rfl, rfl⟩ := e
      exact ⟨h1, i, h2, h3, rfl, rfl⟩
    · cases e
  · cases e

theorem run_under {t : TypeId} {d : TypeDesc} {r : Value × Nat × Nat} (e : tinfo P t = some (d, r)) (w : World) : (underlying t).run P w = .ok d w :=
  run_underlying (tinfo_spec e).1 w
theorem run_size {t : TypeId} {d : TypeDesc} {z : Value} {sz by_ : Nat} (e : tinfo P t = some (d, z, sz, by_)) (w : World) : (sizeOf t).run P w = .ok sz w := by
  obtain ⟨_, i, h1, _, h3, _⟩ := tinfo_spec e
  simp [sizeOf, typeInfo, h1, h3]
theorem run_zero {t : TypeId} {d : TypeDesc} {z : Value} {r : Nat × Nat} (e : tinfo P t = some (d, z, r)) (w : World) : (zeroValue t).run P w = .ok z w := by
  obtain ⟨r1, r2⟩ := r
  obtain ⟨_, i, h1, h2, _, _⟩ := tinfo_spec e
  simp [zeroValue, typeInfo, h1, h2]
theorem run_agg {t : TypeId} {d : TypeDesc} {r : Value × Nat × Nat} (e : tinfo P t = some (d, r)) (w : World) : (isAgg t).run P w = .ok (isAggD d) w := by
  cases d <;> simp [isAgg, run_under e, isAggD]

theorem Rel.eq_plain {v : Value} (hv : plainV v = true) : Rel ρ v v := by
  unfold plainV at hv
  split at hv
  · exact .bool _
  · exact .int _ _
  · exact .str _
  · exact .ptrNil
  · exact .sliceNil
  · exact .mapNil
  · exact .nilFunc
  · exact .nilIface
  · cases hv

theorem constV_rel (v : Value) : Rel ρ (constV v) v := by
  unfold constV
  split
  · rename_i cs
    split
    · rename_i hall
      refine .agg cs cs rfl fun i p q => ?_
      have := List.all_eq_true.1 hall (cs[i]) (by simp)
      exact Rel.eq_plain this
    · exact .any _
  · split
    · rename_i hp; exact Rel.eq_plain hp
    · exact .any _

theorem Rel.cells {v v' : Value} (hr : Rel ρ v v') (hv : okVal v = true) : RelL ρ (cellsOf v) v'.cells.toList := by
  have one : ∀ (x y : Value), Rel ρ x y → RelL ρ [x] [y] := fun x y hxy => RelL.cons hxy (RelL.nil ρ)
  cases hr with
  | any v => simp [okVal] at hv
  | tuple cs cs' h1 h2 => simp [okVal] at hv
  | agg cs cs' h1 h2 => exact Rel.agg_list h1 h2
  | bool b => exact one _ _ (.bool b)
  | int k n => exact one _ _ (.int k n)
  | str s => exact one _ _ (.str s)
  | ptrNil => exact one _ _ .ptrNil
  | ptr i off b hh => exact one _ _ (.ptr i off b hh)
  | sliceNil => exact one _ _ .sliceNil
  | slice i off len cap cap' b a' hh hl hc ha => exact one _ _ (.slice i off len cap cap' b a' hh hl hc ha)
  | mapNil => exact one _ _ .mapNil
  | map i b hh => exact one _ _ (.map i b hh)
  | nilFunc => exact one _ _ .nilFunc
  | nilIface => exact one _ _ .nilIface
  | iface t v v' hh => exact one _ _ (.iface t v v' hh)
  | func fn xs xs' cs cs' hf h1 h2 h3 h4 => exact one _ _ (.func fn xs xs' cs cs' hf h1 h2 h3 h4)
  | lit0 a cap h => exact one _ _ (.lit0 a cap h)
  | empS a cap => exact one _ _ (.empS a cap)
  | litS es b off sz cap cc h hl hs hz hb hr => exact one _ _ (.litS es b off sz cap cc h hl hs hz hb hr)
  | litP cs b off cc h hb hr => exact one _ _ (.litP cs b off cc h hb hr)

theorem row_of (s : Sim B w0 ρ h w) {i off : Nat} {c : List Value} {m : Md} {v' : Value} (hr : Rel ρ (.pointer (some ⟨i, off, none⟩)) v')
    (hi : getRow h i = some (c, m)) : ∃ b, ρ i = some b ∧ v' = .pointer (some ⟨b.block, b.base + off, none⟩) ∧ RowOk B ρ w b c m := by
  cases hr with
  | ptr i off b hh =>
    obtain ⟨b', h1, h2⟩ := s.row _ _ _ (getRow_eq hi)
    rw [hh] at h1; cases h1
    exact ⟨b, hh, rfl, h2⟩

theorem load_ok (s : Sim B w0 ρ h w) {t : TypeId} {v v' x : Value} (hr : Rel ρ v v') (e : aload P h t v = some x) :
    ∃ y, (Instr.loadAt t v').run P w = .ok y w ∧ Rel ρ x y := by
  unfold aload at e
  split at e
  · rename_i i off
    split at e
    · rename_i c m hrow
      split at e
      · rename_i d z sz by_ ht
        obtain ⟨b, hb, rfl, hok⟩ := row_of s hr hrow
        split at e
        · rename_i hd
          split at e
          · rename_i hle
            simp only [Option.some.injEq] at e; subst e
            obtain ⟨l, h1, h2, h3⟩ := hok.cells off sz hle
            refine ⟨.agg l.toArray, ?_, RelL.agg (by simpa using h3)⟩
            have hl := run_loadCells_list (P := P) w ⟨b.block, b.base + off, none⟩ l (fun j v hv => by rw [addr_add]; exact h2 j v hv)
            rw [h1] at hl
            simp [Instr.loadAt, Instr.sureAddr, loadVar, run_agg ht, hd, run_size ht, hl]
          · cases e
        · rename_i hd
          have hlt : off < c.length := (List.getElem?_eq_some_iff.1 e).1
          obtain ⟨l, h1, h2, h3⟩ := hok.cells off 1 (by omega)
          have hx : ((c.drop off).take 1)[0]? = some x := by
            rw [List.getElem?_take, if_pos (by omega), List.getElem?_drop]; simpa using e
          obtain ⟨y, hy, hr'⟩ := h3.get hx
          refine ⟨y, ?_, hr'⟩
          have := h2 0 y hy
          simp only [Nat.add_zero] at this
          simp [Instr.loadAt, Instr.sureAddr, loadVar, run_agg ht, hd, this]
      · cases e
    · cases e
  · cases e

theorem store_ok (s : Sim B w0 ρ h w) {t : TypeId} {p p' v v' : Value} {h' : Heap} (hp : Rel ρ p p') (hv : Rel ρ v v') (e : astore P h t p v = some h') :
    ∃ w', (Instr.storeAt t p' v').run P w = .ok () w' ∧ Sim B w0 ρ h' w' := by
  unfold astore at e
  split at e
  · rename_i i off
    split at e
    · rename_i c m hrow
      split at e
      · rename_i d z sz by_ ht
        obtain ⟨b, hb, rfl, hok⟩ := row_of s hp hrow
        split at e
        · rename_i hc
          obtain ⟨c1, c2, c3, c4, c5⟩ := hc
          simp only [Option.some.injEq] at e; subst e
          have hcells := hv.cells c2
          obtain ⟨w', e1, e2⟩ := s.store P (getRow_eq hrow) c1 hb off hcells c4 (by omega)
          refine ⟨w', ?_, e2⟩
          have hsz : v'.cells.size = sz := by have := hcells.1; simp at this; omega
          simp [Instr.storeAt, Instr.sureAddr, storeVar, run_size ht, hsz, e1]
        · cases e
      · cases e
    · cases e
  · cases e

end
end Go.Ax
