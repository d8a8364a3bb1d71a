/- Ax, part 10: maps written; appends. -/
import Derived.Test.YtoaohmmdhmefpaaA9
namespace Go.Ax
open Go.RowKit

section
variable {P : Program} {B : Fr} {w0 w : World} {ρ : Ren} {h : Heap}

theorem afind_key {kt : TypeId} {kd : TypeDesc} {k : Value} : ∀ {es : List (Value × Value)} {i j : Nat} {v : Value}, afind P kt kd k es i = some (some (j, v)) →
    i ≤ j ∧ ∃ x, es[j - i]? = some x ∧ sameK P kt kd k x.1 = some true := by
  intro es
  induction es with
  | nil => intro i j v e; simp [afind] at e
  | cons x es ih =>
    intro i j v e
    simp only [afind] at e
    cases hsn : sameK P kt kd k x.1 with
    | none => rw [hsn] at e; cases e
    | some c =>
      cases c with
      | true =>
        rw [hsn] at e
        simp only [Option.some.injEq, Prod.mk.injEq] at e
        obtain ⟨rfl, _⟩ := e
        exact ⟨Nat.le_refl _, x, by simp, hsn⟩
      | false =>
        rw [hsn] at e
        obtain ⟨h1, y, h2, h3⟩ := ih e
        refine ⟨by omega, y, ?_, h3⟩
        rw [show j - i = (j - (i + 1)) + 1 by omega]; simpa using h2

theorem bytes_beq (a b : ByteArray) : (a == b) = true ↔ a = b := by
  obtain ⟨x⟩ := a
  obtain ⟨y⟩ := b
  constructor
  · intro h
    have e : x = y := by simpa using (show (x == y) = true from h)
    rw [e]
  · intro h
    cases h
    show (x == x) = true
    simp

theorem sameNow_eq {kd : TypeDesc} {k x : Value} (e : Instr.sameNow kd k x = some true) : x = k ∧ Instr.sameBits 10000 x k = true := by
  unfold Instr.sameNow at e
  split at e
  · split at e
    · rename_i hk
      simp only [Option.some.injEq, beq_iff_eq] at e
      subst hk; subst e
      exact ⟨rfl, by simp [Instr.sameBits]⟩
    · cases e
  · simp only [Option.some.injEq] at e
    have e' := (bytes_beq _ _).1 e; subst e'; exact ⟨rfl, by simpa [Instr.sameBits] using e⟩
  · simp only [Option.some.injEq, beq_iff_eq] at e; subst e; exact ⟨rfl, by simp [Instr.sameBits]⟩
  · cases e

theorem sameBits_self {x : Value} (h : ground x = true) (hs : ∀ cs, x ≠ .agg cs) (n : Nat) : Instr.sameBits n x x = true := by
  cases x <;> simp [ground] at h hs <;> simp [Instr.sameBits]
  case string s => exact (bytes_beq s s).2 rfl

theorem sameK_eq {kt : TypeId} {kd : TypeDesc} {k x : Value} (e : sameK P kt kd k x = some true) : x = k ∧ Instr.sameBits 10000 x k = true := by
  unfold sameK at e
  split at e
  · exact sameNow_eq e
  · split at e
    · rename_i lx ly h1 h2
      obtain ⟨xs, rfl, _, _, _, _, c1⟩ := aggLits_eq h1
      obtain ⟨ys, rfl, _, _, _, _, c2⟩ := aggLits_eq h2
      simp only [Option.some.injEq, cellsOf] at e
      rw [cellsEq_iff (by rw [c1]; exact toCell_flat lx)] at e
      have : xs = ys := Array.ext' e
      subst this
      refine ⟨rfl, ?_⟩
      simp only [Instr.sameBits, beq_self_eq_true, Bool.true_and, List.all_eq_true]
      intro z hz
      obtain ⟨a, b⟩ := z
      have hm : ∀ l : List Value, (a, b) ∈ l.zip l → a = b ∧ a ∈ l := by
        intro l
        induction l with
        | nil => simp
        | cons y l ih =>
          intro h
          simp only [List.zip_cons_cons, List.mem_cons, Prod.mk.injEq] at h
          rcases h with ⟨rfl, rfl⟩ | h
          · exact ⟨rfl, by simp⟩
          · exact ⟨(ih h).1, by simp [(ih h).2]⟩
      obtain ⟨rfl, hin⟩ := hm _ hz
      rw [c1] at hin
      obtain ⟨g1, g2⟩ := toCell_flat lx a hin
      exact sameBits_self g1 g2 9999
    · cases e

theorem sameK_self {kt : TypeId} {kd : TypeDesc} {k : Value} {b : Bool} (e : sameK P kt kd k k = some b) : b = true := by
  unfold sameK at e
  split at e
  · cases kd <;> cases k <;> first
      | (simp [Instr.sameNow] at e; done)
      | (simp only [Instr.sameNow, Option.some.injEq] at e; rw [← e]; exact (bytes_beq _ _).2 rfl)
      | (simp only [Instr.sameNow, Option.some.injEq] at e; rw [← e]; exact beq_self_eq_true _)
      | (simp only [Instr.sameNow] at e; split at e
         · simp only [Option.some.injEq] at e; rw [← e]; exact beq_self_eq_true _
         · cases e)
  · split at e
    · rename_i lx ly h1 h2
      obtain ⟨xs, rfl, _, _, _, _, c1⟩ := aggLits_eq h1
      simp only [Option.some.injEq, cellsOf] at e
      rw [← e, cellsEq_iff (by rw [c1]; exact toCell_flat lx)]
    · cases e

theorem afind_none {kt : TypeId} {kd : TypeDesc} {k : Value} (hk : keyOk P kt kd k) : ∀ {es : List (Value × Value)} {i : Nat}, afind P kt kd k es i = some none → ∀ x ∈ es, x.1 ≠ k := by
  intro es
  induction es with
  | nil => intro i _ x hx; cases hx
  | cons y es ih =>
    intro i e x hx
    simp only [afind] at e
    split at e
    · cases e
    · rename_i hsn
      rcases List.mem_cons.1 hx with rfl | hx
      · intro q; rw [q] at hsn; have := sameK_self hsn; cases this
      · exact ih e x hx
    · cases e

theorem updateA_ok (s : Sim B w0 ρ h w) {t : TypeId} {m m' k k' v v' : Value} {h' : Heap} (hm : Rel ρ m m') (hk : Rel ρ k k') (hv : Rel ρ v v') (e : updateA P h t m k v = some h') :
    ∃ w', (Instr.mapUpdate t m' k' v').run P w = .ok () w' ∧ Sim B w0 ρ h' w' := by
  unfold updateA at e
  split at e
  · rename_i kt et r hty
    split at e
    · rename_i kd r1 hkt
      split at e
      · rename_i hc
        have hgr := hc.1
        have hke : k' = k := ground_eq hk hgr
        subst hke
        split at e
        · rename_i i
          split at e
          · cases e
          · rename_i es hes
            cases hm with
            | map i b hb =>
              have hmap := getMap_eq hes
              obtain ⟨b', h1, h2⟩ := s.map _ _ hmap
              rw [hb] at h1; cases h1
              obtain ⟨ents, clock, l1, l2, l3⟩ := h2.lies
              have hn : ¬ isRo h i := fun ⟨c', hc'⟩ => by rw [hmap] at hc'; cases hc'
              have hchk : (Instr.checkKey false 10000 kt k').run P w = .ok () w := keyCheck_ok hkt hc false w
              have hlt : b.block < w.heap.size := (s.dom _ _ hb).2.1
              have turn : ∀ (ents' : Array MapEntry) (clock' : Nat) (es' : List (Value × Value)), ents'.size = es'.length → MapKept.Stamped ents' clock' →
                  (∀ (j : Nat) (x : Value × Value), es'[j]? = some x → ∃ e : MapEntry, ents'[j]? = some e ∧ e.key = x.1 ∧ ground x.1 = true ∧ Rel ρ x.2 e.val) →
                  Sim B w0 ρ (h.set i (.map es')) { w with heap := w.heap.setIfInBounds b.block (.map ents' clock') } := fun ents' clock' es' q1 hst q2 =>
                s.turn i b _ hb ⟨_, hmap, by simp⟩ hn h2.own (by simp) rfl rfl rfl (fun k hk => by simp [Array.getElem?_setIfInBounds_ne (Ne.symm hk)])
                  (fun c e => by cases e) (fun c m e => by cases e) (fun es e => by
                    cases e
                    exact ⟨h2.own, ⟨ents', clock', by simp [hlt], q1, q2⟩, fun en cl q => by
                      simp [hlt] at q; obtain ⟨rfl, rfl⟩ := q; exact hst⟩)
              have hset : ∀ o : Obj, (setObj b.block o).run P w = .ok () { w with heap := w.heap.setIfInBounds b.block o } := fun o => by
                simp [setObj, Sem.run, l1]
              split at e
              · rename_i j v0 hf
                simp only [Option.some.injEq] at e; subst e
                obtain ⟨r', q1, q2⟩ := afind_ok (ρ := ρ) hc (ents := ents.toList) (by simpa using l2) (fun j x hx => by simpa using l3 j x hx) hf
                rcases q2 with ⟨q, _⟩ | ⟨j', v1, v'', q3, q4, _, q5, q6⟩
                · cases q
                · cases q3
                  subst q4
                  obtain ⟨_, x, hx, hsn⟩ := afind_key hf
                  obtain ⟨hxk, hbits⟩ := sameK_eq hsn
                  simp at hx
                  obtain ⟨en, he, hek, _, _⟩ := l3 j x hx
                  have hfind : (Instr.findKey kt k' ents.toList).run P w = .ok (some (j, v'')) w := findKey_of hkt hc q1 w
                  have hks : ((ents[j]?).map (·.key)).getD k' = x.1 := by rw [he]; simp [hek]
                  refine ⟨_, ?_, turn (ents.modify j fun e => { e with key := k', val := v' }) clock (es.set j (k', v)) (by simp [l2]) (MapKept.stamped_modify (h2.stamp _ _ l1) j _ (fun _ _ => rfl) (fun e _ q => by rw [he] at q; cases q; rw [hek, hxk])) (fun n y hy => ?_)⟩
                  · simp only [Instr.mapUpdate, Sem.run_bind, run_under hty, Result.andThen_ok]
                    simp [getObj, Sem.run, l1, hchk, hfind, hset, Instr.keyThatStays, he, hek, hbits]
                  · by_cases en' : n = j
                    · subst en'
                      rw [List.getElem?_set_self (by simpa using q5)] at hy
                      cases hy
                      exact ⟨{ en with key := k', val := v' }, by rw [Array.getElem?_modify, if_pos rfl, he]; rfl, rfl, hgr, hv⟩
                    · rw [List.getElem?_set_ne (Ne.symm en')] at hy
                      obtain ⟨e', he', r1, r2, r3⟩ := l3 n y hy
                      exact ⟨e', by rw [Array.getElem?_modify, if_neg (Ne.symm en')]; exact he', r1, r2, r3⟩
              · rename_i hf
                simp only [Option.some.injEq] at e; subst e
                obtain ⟨r', q1, q2⟩ := afind_ok (ρ := ρ) hc (ents := ents.toList) (by simpa using l2) (fun j x hx => by simpa using l3 j x hx) hf
                rcases q2 with ⟨_, rfl⟩ | ⟨j', v1, v'', q3, _⟩
                · have hfind : (Instr.findKey kt k' ents.toList).run P w = .ok none w := findKey_of hkt hc q1 w
                  refine ⟨_, ?_, turn (ents.push { key := k', val := v', born := clock }) (clock + 1) (es ++ [(k', v)]) (by simp [l2]) (MapKept.stamped_push (h2.stamp _ _ l1) (fun x hx e => by
                    obtain ⟨j, hj⟩ := List.mem_iff_getElem?.1 hx
                    have hjl : j < es.length := by have := (List.getElem?_eq_some_iff.1 hj).1; simp at this; omega
                    obtain ⟨en, he, hek, _, _⟩ := l3 j es[j] (by simp [hjl])
                    simp at hj; rw [hj] at he; cases he
                    exact afind_none hc hf _ (List.getElem_mem hjl) (by rw [← hek]; exact e))) (fun n y hy => ?_)⟩
                  · simp only [Instr.mapUpdate, Sem.run_bind, run_under hty, Result.andThen_ok]
                    simp [getObj, Sem.run, l1, hchk, hfind, hset]
                  · by_cases en' : n < es.length
                    · rw [List.getElem?_append_left en'] at hy
                      obtain ⟨e', he', r1, r2, r3⟩ := l3 n y hy
                      exact ⟨e', by rw [Array.getElem?_push, if_neg (by omega)]; exact he', r1, r2, r3⟩
                    · have : n = es.length := by
                        have := (List.getElem?_eq_some_iff.1 hy).1; simp at this; omega
                      subst this
                      simp at hy; subst hy
                      exact ⟨{ key := k', val := v', born := clock }, by rw [← l2]; simp, rfl, hgr, hv⟩
                · cases q3
              · cases e
        · cases e
      · cases e
    · cases e
  · cases e

/-- What an appended source gives, as the world has it. -/
theorem srcA_ok (s : Sim B w0 ρ h w) {size n : Nat} {x x' : Value} {vs : List Value} (hx : Rel ρ x x') (e : srcA h size x = some (n, vs)) :
    vs.length = n * size ∧ (Builtin.lenOf x').run P w = .ok n w ∧ ∀ w1 : World, (∀ b o, w1.cell? ⟨b, o, none⟩ = w.cell? ⟨b, o, none⟩) →
      ∃ ys : Array Value, (Builtin.firstCells size n x').run P w1 = .ok ys w1 ∧ RelL ρ vs ys.toList := by
  unfold srcA at e
  split at e
  · simp only [Option.some.injEq, Prod.mk.injEq] at e
    obtain ⟨rfl, rfl⟩ := e
    cases hx
    exact ⟨by simp, by simp [Builtin.lenOf], fun w1 _ => ⟨#[], by simp [Builtin.firstCells], RelL.nil ρ⟩⟩
  · rename_i i off len cap
    split at e
    · rename_i c md hrow
      split at e
      · rename_i hle
        simp only [Option.some.injEq, Prod.mk.injEq] at e
        obtain ⟨rfl, rfl⟩ := e
        cases hx with
        | slice i off len cap cap' b a' hb hl hcap ha =>
          obtain ⟨b', hb1, hok⟩ := s.row _ _ _ (getRow_eq hrow)
          rw [hb] at hb1; cases hb1
          obtain ⟨l, q1, q2, q3⟩ := hok.cells off (len * size) hle
          refine ⟨by simp; omega, by simp [Builtin.lenOf], fun w1 hw1 => ⟨l.toArray, ?_, by simpa using q3⟩⟩
          rcases ha with rfl | h0
          · have := run_loadCells_list (P := P) w1 ⟨b.block, b.base + off, none⟩ l (fun j v hv => by rw [addr_add, hw1]; exact q2 j v hv)
            rw [q1] at this
            simpa [Builtin.firstCells] using this
          · have e0 : len = 0 := by omega
            subst e0
            simp at q1
            subst q1
            simp [Builtin.firstCells, loadCells, loadCellsFrom]
      · cases e
    · cases e
  · rename_i str
    split at e
    · rename_i hs1
      simp only [Option.some.injEq, Prod.mk.injEq] at e
      obtain ⟨rfl, rfl⟩ := e
      cases hx
      subst hs1
      refine ⟨by simp [bytesV], by simp [Builtin.lenOf], fun w1 _ => ⟨(Array.map (fun b : UInt8 => Value.int IntKind.u8 (b.toNat : Int)) (str.extract 0 str.size).data), by simp [Builtin.firstCells], ?_⟩⟩
      have hx : (str.extract 0 str.size).data = str.data := by
        rw [ByteArray.data_extract]
        have hs : str.size = str.data.size := rfl
        rw [hs, Array.extract_size]
      rw [hx]
      refine ⟨by simp [bytesV], fun i x y hx hy => ?_⟩
      simp only [bytesV, Array.toList_map] at hx hy
      rw [hx] at hy; cases hy
      simp only [List.getElem?_map, Option.map_eq_some_iff] at hx
      obtain ⟨u, _, rfl⟩ := hx
      exact .int _ _
    · cases e
  · simp only [Option.some.injEq, Prod.mk.injEq] at e
    obtain ⟨rfl, rfl⟩ := e
    cases hx with
    | func fn xs xs' cs cs' hf => cases hf
    | empS a cap => exact ⟨by simp, by simp [Builtin.lenOf], fun w1 _ => ⟨#[], by simp [Builtin.firstCells, loadCells, loadCellsFrom], RelL.nil ρ⟩⟩
  · rename_i f0 es
    split at e
    · rename_i hall
      simp only [Option.some.injEq, Prod.mk.injEq] at e
      obtain ⟨rfl, rfl⟩ := e
      have hz' : ∀ e ∈ es.toList, (cellsOf e).length = size := fun e he => by simpa using List.all_eq_true.1 hall e he
      have hlen : (es.toList.flatMap cellsOf).length = es.size * size := flat_len hz'
      cases hx with
      | func fn xs xs' cs cs' hf => cases hf
      | lit0 a cap => exact ⟨by simp, by simp [Builtin.lenOf], fun w1 _ => ⟨#[], by cases a <;> simp [Builtin.firstCells, loadCells, loadCellsFrom], RelL.nil ρ⟩⟩
      | litS es b off sz cap cc hf hl hs hz hb hr =>
        refine ⟨hlen, by simp [Builtin.lenOf], fun w1 hw1 => ?_⟩
        by_cases h0 : es.size = 0
        · have : es = #[] := Array.size_eq_zero_iff.1 h0
          subst this
          exact ⟨#[], by simp [Builtin.firstCells, loadCells, loadCellsFrom], RelL.nil ρ⟩
        · have hsz : sz = size := by
            have p : 0 < es.size := by omega
            rw [← hz 0 p]; exact hz' _ (by simp)
          subst hsz
          obtain ⟨l, q1, q2, q3⟩ := s.litCells hf hs hz hb hr es.size (Nat.le_refl _)
          rw [← hlen, List.take_length] at q3
          refine ⟨l.toArray, ?_, by simpa using q3⟩
          have := run_loadCells_list (P := P) w1 ⟨b, off, none⟩ l (fun j v hv => by rw [addr_add, hw1]; exact q2 j v hv)
          rw [q1] at this
          simpa [Builtin.firstCells] using this
    · cases e
  · cases e

end
end Go.Ax
