/- Ax, part 9: numbers, parts, lengths, maps, conversions. -/
import Derived.Test.YtoaohmmdhmefpaaA8
namespace Go.Ax
open Go.RowKit

section
variable {P : Program} {B : Fr} {w0 w : World} {ρ : Ren} {h : Heap}

theorem eqlA_shape {t : TypeId} {x y : Value} {b : Bool} (e : eqlA P t x y = some b) : okVal x = true ∧ okVal y = true ∧ x ≠ .nilIface := by
  unfold eqlA at e
  split at e
  · exact ⟨rfl, rfl, by simp⟩
  · exact ⟨rfl, rfl, by simp⟩
  · split at e
    all_goals (first | (cases e; done) | (split at e <;> first | (cases e; done) | exact ⟨rfl, rfl, by simp⟩))

theorem binA_ok {op : BinOp} {t : TypeId} {x y : Operand} {a b a' b' v : Value} (ha : Rel ρ a a') (hb : Rel ρ b b') (e : binA P op t a b = some v) (w : World) :
    ∃ v', (do eqGuard op t x y a' b'; binOp op t a' b' : Sem Value).run P w = .ok v' w ∧ Rel ρ v v' := by
  have scal : ∀ {v : Value}, ((∃ k n, v = .int k n) ∨ (∃ c, v = .bool c) ∨ (∃ s, v = .string s)) → Rel ρ v v := fun {v} hv => by
    rcases hv with ⟨k, n, rfl⟩ | ⟨c, rfl⟩ | ⟨s, rfl⟩
    · exact .int _ _
    · exact .bool _
    · exact .str _
  unfold binA at e
  split at e
  · rename_i k a k' b
    cases ha; cases hb
    have hg : (eqGuard op t x y (.int k a) (.int k' b)).run P w = .ok () w := eqGuard_ok rfl w
    split at e
    · split at e
      · cases e
      · rename_i hlt
        simp only [Option.some.injEq] at e; subst e
        exact ⟨_, by simp [hg, binOp, Op.shift, hlt], .int _ _⟩
    · split at e
      · cases e
      · rename_i hlt
        simp only [Option.some.injEq] at e; subst e
        exact ⟨_, by simp [hg, binOp, Op.shift, hlt], .int _ _⟩
    · rename_i h1 h2
      split at e
      · rename_i hk
        subst hk
        rcases intOp_ok (P := P) h1 h2 e t w with ⟨r, q⟩ | ⟨r, q⟩
        · exact ⟨v, by simp [hg, r], scal (.inl q)⟩
        · exact ⟨v, by simp [hg, r], scal (.inr (.inl q))⟩
      · cases e
  · rename_i a b
    cases ha; cases hb
    have hg : (eqGuard op t x y (.string a) (.string b)).run P w = .ok () w := eqGuard_ok rfl w
    obtain ⟨r, q⟩ := strOp_ok (P := P) e t w
    exact ⟨v, by simp [hg, r], scal (q.elim (fun q => .inr (.inr q)) (fun q => .inr (.inl q)))⟩
  · rename_i hni hns
    split at e
    · simp only [Option.map_eq_some_iff] at e
      obtain ⟨c, hc, rfl⟩ := e
      have hg : (eqGuard .eql t x y a' b').run P w = .ok () w := eqlA_guard ha hb hc w
      have hr := eqlA_ok ha hb hc w
      refine ⟨.bool c, ?_, .bool _⟩
      have : (binOp .eql t a' b').run P w = .ok (.bool c) w := by
        cases ha <;> cases hb <;> first
          | (exact absurd rfl (hni _ _ _ _ rfl))
          | (exact absurd rfl (hns _ _ rfl))
          | (simp [binOp, hr]; done)
          | (have := eqlA_shape hc; simp [okVal] at this; done)
      simp [hg, this]
    · simp only [Option.map_eq_some_iff] at e
      obtain ⟨c, hc, rfl⟩ := e
      have hg : (eqGuard .neq t x y a' b').run P w = .ok () w := eqlA_guard ha hb hc w
      have hr := eqlA_ok ha hb hc w
      refine ⟨.bool !c, ?_, .bool _⟩
      have : (binOp .neq t a' b').run P w = .ok (.bool !c) w := by
        cases ha <;> cases hb <;> first
          | (exact absurd rfl (hni _ _ _ _ rfl))
          | (exact absurd rfl (hns _ _ rfl))
          | (simp [binOp, hr]; done)
          | (have := eqlA_shape hc; simp [okVal] at this; done)
      simp [hg, this]
    · cases e

theorem unA_ok {op : UnOp} {x x' v : Value} (hx : Rel ρ x x') (e : unA op x = some v) (w : World) : ∃ v', (Op.unary op x').run P w = .ok v' w ∧ Rel ρ v v' := by
  unfold unA at e
  split at e
  · simp only [Option.some.injEq] at e; subst e; cases hx; exact ⟨_, by simp [Op.unary, Op.intArith], .int _ _⟩
  · simp only [Option.some.injEq] at e; subst e; cases hx; exact ⟨_, by simp [Op.unary, Op.intBits], .int _ _⟩
  · simp only [Option.some.injEq] at e; subst e; cases hx; exact ⟨_, by simp [Op.unary], .bool _⟩
  · cases e

theorem lenA_ok (s : Sim B w0 ρ h w) {t : TypeId} {x x' v : Value} {ts : Array TypeId} {ty : TypeId} (hts : ts[0]? = some t) (hx : Rel ρ x x') (e : lenA P h t x = some v) :
    ∃ v', (Builtin.len_ ts ty #[x']).run P w = .ok v' w ∧ Rel ρ v v' := by
  unfold lenA at e
  split at e
  · rename_i r s' hty
    simp only [Option.some.injEq] at e; subst e; cases hx
    exact ⟨_, by simp [Builtin.len_, hts, run_under hty, goInt], .int _ _⟩
  · rename_i n el r hty
    simp only [Option.some.injEq] at e; subst e
    exact ⟨_, by simp [Builtin.len_, hts, run_under hty, goInt], .int _ _⟩
  · rename_i el r a n c hty
    simp only [Option.some.injEq] at e; subst e
    cases hx <;> exact ⟨_, by simp [Builtin.len_, hts, run_under hty, goInt], .int _ _⟩
  · rename_i k el r hty
    simp only [Option.some.injEq] at e; subst e; cases hx
    exact ⟨_, by simp [Builtin.len_, hts, run_under hty, goInt], .int _ _⟩
  · rename_i k el r i hty
    simp only [Option.map_eq_some_iff] at e
    obtain ⟨es, hes, rfl⟩ := e
    cases hx with
    | map i b hb =>
      obtain ⟨b', h1, h2⟩ := s.map _ _ (getMap_eq hes)
      rw [hb] at h1; cases h1
      obtain ⟨ents, clock, l1, l2, _⟩ := h2.lies
      refine ⟨.int .i64 es.length, ?_, .int _ _⟩
      simp [Builtin.len_, hts, run_under hty, goInt, getObj, Sem.run, l1, l2]
  · cases e

/-- A key that is a number, a text or a bool asks nothing. -/
theorem checkKey_ok {kt : TypeId} {kd : TypeDesc} {r : Value × Nat × Nat} (ht : tinfo P kt = some (kd, r)) (hs : scalarD kd = true) (b : Bool) (v : Value) (w : World) (n : Nat) :
    (Instr.checkKey b (n + 1) kt v).run P w = .ok () w := by
  cases kd <;> simp [scalarD] at hs <;> simp [Instr.checkKey, run_under ht]

theorem keyCheck_ok {kt : TypeId} {kd : TypeDesc} {r : Value × Nat × Nat} {k : Value} (ht : tinfo P kt = some (kd, r)) (hk : keyOk P kt kd k) (b : Bool) (w : World) :
    (Instr.checkKey b 10000 kt k).run P w = .ok () w := by
  rcases hk.2 with hs | ⟨_, hs⟩
  · exact checkKey_ok ht hs b k w 9999
  · cases hl : aggLits P kt k with
    | none => rw [hl] at hs; cases hs
    | some l =>
      obtain ⟨cs, rfl, h1, h2, h3, h4, _⟩ := aggLits_eq hl
      exact run_checkKey_deep b 9960 40 kt h1 w 41 _ l h3 (by simpa [Value.cells] using h4)

theorem afind_ok {kt : TypeId} {kd : TypeDesc} {k : Value} (hk : keyOk P kt kd k) : ∀ {es : List (Value × Value)} {ents : List MapEntry} {i : Nat} {r : Option (Nat × Value)},
    ents.length = es.length → (∀ (j : Nat) (x : Value × Value), es[j]? = some x → ∃ e : MapEntry, ents[j]? = some e ∧ e.key = x.1 ∧ ground x.1 = true ∧ Rel ρ x.2 e.val) →
    afind P kt kd k es i = some r → ∃ r', ((scalarD kd = true ∧ Instr.findNow kd k ents i = some r') ∨ (scalarD kd = false ∧ ∀ w, (Instr.findAsking kt k ents i).run P w = .ok r' w)) ∧
      ((r = none ∧ r' = none) ∨ ∃ j v v', r = some (j, v) ∧ r' = some (j, v') ∧ i ≤ j ∧ j < i + es.length ∧ Rel ρ v v') := by
  intro es
  induction es with
  | nil =>
    intro ents i r hl _ e
    cases ents with
    | nil =>
      simp only [afind, Option.some.injEq] at e; subst e
      refine ⟨none, ?_, .inl ⟨rfl, rfl⟩⟩
      cases hs : scalarD kd with
      | true => exact .inl ⟨rfl, rfl⟩
      | false => exact .inr ⟨rfl, fun w => by simp [Instr.findAsking]⟩
    | cons y ys => simp at hl
  | cons x es ih =>
    intro ents i r hl hr e
    cases ents with
    | nil => simp at hl
    | cons y ys =>
      obtain ⟨en, he, hkey, _, hval⟩ := hr 0 x (by simp)
      simp at he; subst he
      simp only [afind] at e
      -- the two keys compared, as the world does it
      have cmp : ∀ c, sameK P kt kd k x.1 = some c → (scalarD kd = true ∧ Instr.sameNow kd k x.1 = some c) ∨ (scalarD kd = false ∧ ∀ w, (Op.equal kt k x.1).run P w = .ok c w) := fun c hc => by
        unfold sameK at hc
        cases hs : scalarD kd with
        | true => rw [if_pos hs] at hc; exact .inl ⟨rfl, hc⟩
        | false =>
          rw [if_neg (by rw [hs]; simp)] at hc
          split at hc
          · rename_i lx ly h1 h2
            simp only [Option.some.injEq] at hc; subst hc
            obtain ⟨xs, e1, _⟩ := aggLits_eq h1
            obtain ⟨ys, e2, _⟩ := aggLits_eq h2
            refine .inr ⟨rfl, fun w => ?_⟩
            rw [e1] at h1; rw [e2] at h2
            rw [e1, e2]
            exact aggEqual_ok h1 h2 9960 w
          · cases hc
      cases hsn : sameK P kt kd k x.1 with
      | none => rw [hsn] at e; cases e
      | some c =>
        have hc := cmp c hsn
        cases c with
        | true =>
          rw [hsn] at e
          simp only [Option.some.injEq] at e; subst e
          refine ⟨some (i, y.val), ?_, .inr ⟨i, x.2, y.val, rfl, rfl, Nat.le_refl _, by simp, hval⟩⟩
          rcases hc with ⟨h1, h2⟩ | ⟨h1, h2⟩
          · exact .inl ⟨h1, by simp [Instr.findNow, hkey, h2]⟩
          · exact .inr ⟨h1, fun w => by simp [Instr.findAsking, hkey, h2]⟩
        | false =>
          rw [hsn] at e
          obtain ⟨r', h1, h2⟩ := ih (ents := ys) (by simpa using hl) (fun j z hz => hr (j + 1) z (by simpa using hz)) e
          refine ⟨r', ?_, ?_⟩
          · rcases hc with ⟨c1, c2⟩ | ⟨c1, c2⟩
            · rcases h1 with ⟨_, h1⟩ | ⟨h1, _⟩
              · exact .inl ⟨c1, by simp [Instr.findNow, hkey, c2, h1]⟩
              · rw [c1] at h1; cases h1
            · rcases h1 with ⟨h1, _⟩ | ⟨_, h1⟩
              · rw [c1] at h1; cases h1
              · exact .inr ⟨c1, fun w => by simp [Instr.findAsking, hkey, c2, h1]⟩
          · rcases h2 with q | ⟨j, v, v', q1, q2, q3, q4, q5⟩
            · exact .inl q
            · exact .inr ⟨j, v, v', q1, q2, by omega, by simp; omega, q5⟩

theorem findKey_of {kt : TypeId} {kd : TypeDesc} {r : Value × Nat × Nat} {k : Value} {ents : List MapEntry} {r' : Option (Nat × Value)} (ht : tinfo P kt = some (kd, r)) (hk : keyOk P kt kd k)
    (q : (scalarD kd = true ∧ Instr.findNow kd k ents 0 = some r') ∨ (scalarD kd = false ∧ ∀ w, (Instr.findAsking kt k ents 0).run P w = .ok r' w)) (w : World) :
    (Instr.findKey kt k ents).run P w = .ok r' w := by
  rcases q with ⟨_, q⟩ | ⟨hs, q⟩
  · simp [Instr.findKey, run_under ht, q]
  · rcases hk.2 with h | ⟨h, _⟩
    · rw [hs] at h; cases h
    · have hu : P.underlying kt = some kd := by
        unfold tinfo at ht
        split at ht
        · rename_i d i hd hi
          split at ht
          · simp at ht; rw [hd, ht.1]
          · cases ht
        · cases ht
      rw [run_findKey_eq w (by rw [hu]; cases kd <;> simp [isAggD] at h ⊢)]
      exact q w

theorem lookupA_ok (s : Sim B w0 ρ h w) {t : TypeId} {m m' k k' v : Value} {ok : Bool} (hm : Rel ρ m m') (hk : Rel ρ k k') (e : lookupA P h t m k ok = some v) :
    ∃ v', (Instr.lookup t m' k' ok).run P w = .ok v' w ∧ Rel ρ v v' := by
  unfold lookupA at e
  split at e
  · rename_i kt et r hty
    split at e
    · rename_i kd r1 ed z r2 hkt het
      split at e
      · rename_i hc
        have hgr := hc.1
        have hke : k' = k := by
          exact ground_eq hk hgr
        subst hke
        split at e
        · cases e
        · rename_i es hes
          -- the entries as the world has them
          have hents : ∃ ents : Array MapEntry, ents.size = es.length ∧
              (∀ (j : Nat) (x : Value × Value), es[j]? = some x → ∃ e : MapEntry, ents[j]? = some e ∧ e.key = x.1 ∧ ground x.1 = true ∧ Rel ρ x.2 e.val) ∧
              ((m' = .map none ∧ ents = #[]) ∨ ∃ r clock, m' = .map (some r) ∧ w.heap[r]? = some (.map ents clock)) := by
            split at hes
            · simp only [Option.some.injEq] at hes; subst hes
              cases hm
              exact ⟨#[], rfl, by simp, .inl ⟨rfl, rfl⟩⟩
            · rename_i i
              cases hm with
              | map i b hb =>
                obtain ⟨b', h1, h2⟩ := s.map _ _ (getMap_eq hes)
                rw [hb] at h1; cases h1
                obtain ⟨ents, clock, l1, l2, l3⟩ := h2.lies
                exact ⟨ents, l2, l3, .inr ⟨_, clock, rfl, l1⟩⟩
            · cases hes
          obtain ⟨ents, n1, n2, n3⟩ := hents
          have hchk : ∀ b, (Instr.checkKey b 10000 kt k').run P w = .ok () w := fun b => keyCheck_ok hkt hc b w
          split at e
          · rename_i j v0 hf
            obtain ⟨r', q1, q2⟩ := afind_ok (ρ := ρ) hc (ents := ents.toList) (by simpa using n1) (fun j x hx => by simpa using n2 j x hx) hf
            rcases q2 with ⟨q, _⟩ | ⟨j', v1, v', q3, q4, _, _, q5⟩
            · cases q
            · cases q3
              subst q4
              simp only [Option.some.injEq] at e; subst e
              refine ⟨if ok then .tuple #[v', .bool true] else v', ?_, ?_⟩
              · have q1' := findKey_of hkt hc q1 w
                rcases n3 with ⟨rfl, rfl⟩ | ⟨r, clock, rfl, l1⟩
                · simp at q1'
                  simp [Instr.lookup, run_under hty, hchk, q1']
                · simp [Instr.lookup, run_under hty, hchk, q1', getObj, Sem.run, l1]
              · cases ok
                · exact q5
                · refine .tuple _ _ rfl fun i p q => ?_
                  match i, p with
                  | 0, _ => exact q5
                  | 1, _ => exact .bool true
          · rename_i hf
            obtain ⟨r', q1, q2⟩ := afind_ok (ρ := ρ) hc (ents := ents.toList) (by simpa using n1) (fun j x hx => by simpa using n2 j x hx) hf
            rcases q2 with ⟨_, rfl⟩ | ⟨j', v1, v', q3, _⟩
            · simp only [Option.some.injEq] at e; subst e
              refine ⟨if ok then .tuple #[z, .bool false] else z, ?_, ?_⟩
              · have q1' := findKey_of hkt hc q1 w
                rcases n3 with ⟨rfl, rfl⟩ | ⟨r, clock, rfl, l1⟩
                · simp at q1'
                  simp [Instr.lookup, run_under hty, hchk, q1', run_zero het]
                · simp [Instr.lookup, run_under hty, hchk, q1', run_zero het, getObj, Sem.run, l1]
              · cases ok
                · exact constV_rel z
                · refine .tuple _ _ rfl fun i p q => ?_
                  match i, p with
                  | 0, _ => exact constV_rel z
                  | 1, _ => exact .bool false
            · cases q3
          · cases e
      · cases e
    · cases e
  · cases e

end
end Go.Ax
