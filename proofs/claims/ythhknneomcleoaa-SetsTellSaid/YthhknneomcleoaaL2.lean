/- A law's argument that is a grammar. -/
import Derived.Test.YthhknneomcleoaaL1
import Derived.Test.YthhknneomcleoaaI5
namespace Go.Ax
open Go Go.RowKit Go.ChangeShapes

section
variable {H : Type} {enc : TypeId × Value → H} {P : Program} {W : World} {base : Nat} {spare : Nat → Bool} {held : Bool}

/-- The fields of a struct, one by one. -/
theorem struct_fld {fs : Array Field} {cs : List Value} {l : List (TypeId × Nat)} (hf : (fs.toList.map fun f => (f.type, f.offset)) = l)
    (h : ∀ (i : Nat) (f : Field), fs[i]? = some f → ∃ m y, DataW.trod enc P W base spare held m f.type ((cs.drop f.offset).take (P.cellsOf f.type)) = some y)
    {i : Nat} {ty : TypeId} {off : Nat} (hl : l[i]? = some (ty, off)) : ∃ m y, DataW.trod enc P W base spare held m ty ((cs.drop off).take (P.cellsOf ty)) = some y := by
  subst hf
  rw [List.getElem?_map] at hl
  cases e : fs.toList[i]? with
  | none => rw [e] at hl; cases hl
  | some f =>
    rw [e] at hl
    cases hl
    exact h i f (by rw [← e]; simp)

theorem gr_arg {fs : Array Field} {r : Reach} {b0 : Nat} {t tn ti tk tr ts : TypeId} {v : Value} {d : DataW H} {ps : List MemPlace}
    (ht : P.underlying t = some (.struct fs)) (hf : (fs.toList.map fun f => (f.type, f.offset)) = [(tn, 0), (ti, 1), (tk, 2), (tr, 3), (ti, 4)]) (h5 : P.cellsOf t = 5)
    (un : P.underlying tn = some (.slice ts)) (us : P.underlying ts = some .string) (ui : P.underlying ti = some (.int .i64)) (uk : P.underlying tk = some (.slice ti)) (ur : P.underlying tr = some (.slice tk))
    (cn : P.cellsOf tn = 1) (ci : P.cellsOf ti = 1) (ck : P.cellsOf tk = 1) (cr : P.cellsOf tr = 1) (cz : P.cellsOf ts = 1)
    (hval : Value.okWide P W r b0 t v) (hd : DataW.Trod enc P W base spare held t v d ps) :
    ∃ g : Gr, Rel (startRen W) g.enc v ∧ g.Fin ∧ ∀ x ∈ ps, x.block < W.heap.size := by
  have rk : Reads enc P W base spare held tk _ _ := reads_slice uk ci (by omega) (fun _ _ => rfl) (reads_int ui)
  have rn : Reads enc P W base spare held tn _ _ := reads_slice un cz (by omega) (fun _ _ => rfl) (reads_str us)
  have rr : Reads enc P W base spare held tr _ _ := reads_slice ur ck (by omega) (fun _ _ => rfl) rk
  refine arg_struct (g := fun g : Gr => [lit (g.names.map .string), .int .i64 g.terms, ints g.tokens, lit (g.rules.map ints), .int .i64 g.start]) (Good := Gr.Fin) ht (reads_struct ht h5 fun cs hl hp => ?_) hval hd
  match cs, hl with
  | [c0, c1, c2, c3, c4], _ =>
    obtain ⟨m0, y0, e0⟩ := struct_fld hf hp (i := 0) rfl
    obtain ⟨m1, y1, e1⟩ := struct_fld hf hp (i := 1) rfl
    obtain ⟨m2, y2, e2⟩ := struct_fld hf hp (i := 2) rfl
    obtain ⟨m3, y3, e3⟩ := struct_fld hf hp (i := 3) rfl
    obtain ⟨m4, y4, e4⟩ := struct_fld hf hp (i := 4) rfl
    rw [cn] at e0
    rw [ci] at e1 e4
    rw [ck] at e2
    rw [cr] at e3
    obtain ⟨names, g0, r0⟩ := rn _ _ _ e0
    obtain ⟨terms, g1, r1⟩ := reads_int ui _ _ _ e1
    obtain ⟨tokens, g2, r2⟩ := rk _ _ _ e2
    obtain ⟨rules, g3, r3⟩ := rr _ _ _ e3
    obtain ⟨start, g4, r4⟩ := reads_int ui _ _ _ e4
    have hm : maxLen ≤ 9223372036854775807 := by decide
    refine ⟨⟨names, terms, tokens, rules, start⟩, ⟨Nat.le_trans g0.2 hm, Nat.le_trans g2.2 hm, Nat.le_trans g3.2 hm, fun r hr => Nat.le_trans (g3.1 r hr).2 hm⟩, rfl, fun i x y hx hy => ?_⟩
    match i with
    | 0 => cases hx; cases hy; exact relL_1 r0
    | 1 => cases hx; cases hy; exact relL_1 r1
    | 2 => cases hx; cases hy; exact relL_1 r2
    | 3 => cases hx; cases hy; exact relL_1 r3
    | 4 => cases hx; cases hy; exact relL_1 r4
    | i + 5 => cases hx
end
end Go.Ax
