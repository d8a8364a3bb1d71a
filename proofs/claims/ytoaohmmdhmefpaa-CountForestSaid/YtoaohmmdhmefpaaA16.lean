/- Ax, part 16: regions that draw their order. -/
import Derived.Test.YtoaohmmdhmefpaaA15
namespace Go.Ax
open Go.RowKit

section
variable {P : Program} {n : Nat} {ops : Array Oper}

theorem evalO_aput {t : Ts} {dst : Option Tmp} {v : Value} {x : Operand} (h : ∀ d, dst = some d → x ≠ .tmp d) : evalO (aput t dst v) x = evalO t x := by
  cases dst with
  | none => rfl
  | some d =>
    cases x with
    | tmp s =>
      have hne : s ≠ d := fun e => h d rfl (e ▸ rfl)
      simp [evalO, aput, hne]
    | _ => rfl

theorem aput_comm (t : Ts) {x y : Option Tmp} (v u : Value) (h : ∀ d, x = some d → y ≠ some d) : aput (aput t x v) y u = aput (aput t y u) x v := by
  cases x with
  | none => rfl
  | some d =>
    cases y with
    | none => rfl
    | some e =>
      have hne : e ≠ d := fun he => h d rfl (he ▸ rfl)
      funext i
      simp only [aput]
      by_cases q1 : i = e
      · subst q1; simp [hne]
      · by_cases q2 : i = d
        · subst q2; simp [q1]
        · simp [q1, q2]

theorem aop0_congr {t t' : Ts} (h : Heap) (op : Op) (hx : ∀ x ∈ op.operands, evalO t x = evalO t' x) : aop0 P t h op = aop0 P t' h op := by
  have pairs : ∀ ps : Array (Nat × Operand), (∀ x ∈ ps.map (·.2), evalO t x = evalO t' x) →
      (ps.toList.map fun (i, x) => (i, evalO t x)) = (ps.toList.map fun (i, x) => (i, evalO t' x)) := fun ps hp =>
    List.map_congr_left fun p hm => by
      obtain ⟨i, x⟩ := p
      simp only [hp x (Array.mem_map.2 ⟨(i, x), by simpa using hm, rfl⟩)]
  have opt : ∀ o : Option Operand, (∀ x ∈ o.toArray, evalO t x = evalO t' x) → o.map (evalO t) = o.map (evalO t') := fun o ho => by
    cases o with
    | none => rfl
    | some x => simp [ho x (by simp)]
  cases op <;> simp only [Op.operands] at hx <;> simp only [aop0]
  case build t ps => rw [pairs ps fun x h => hx x (by simpa using h)]
  case buildSlice t n ps => rw [pairs ps fun x h => hx x (by simpa using h)]
  case makeFunc fn first captured =>
    rw [Array.map_congr_left (xs := first) fun x h => hx x (by simp [h]), Array.map_congr_left (xs := captured) fun x h => hx x (by simp [h])]
  case call c =>
    obtain ⟨callee, args, tys⟩ := c
    have hargs : ∀ x ∈ args.toList, evalO t x = evalO t' x := fun x h => hx x (by simp [Call.operands]; exact .inr (by simpa using h))
    have hm : args.toList.map (evalO t) = args.toList.map (evalO t') := List.map_congr_left hargs
    unfold abuiltin
    dsimp only
    split
    · split
      · rename_i x ty ha _; rw [hargs x (by rw [ha]; simp)]
      · rfl
    · split
      · rename_i a x st xt ha _; rw [hargs a (by rw [ha]; simp), hargs x (by rw [ha]; simp)]
      · rfl
    · split
      · rename_i a x st xt ha _; rw [hargs a (by rw [ha]; simp), hargs x (by rw [ha]; simp)]
      · rfl
    · rw [hm]
    · rw [hm]
    · split
      · rename_i x ty ha _; rw [hargs x (by rw [ha]; simp)]
      · rfl
    · rfl
  case makeMap t r => cases r <;> rfl
  case slice t x lo hi mx =>
    rw [hx x (by simp), opt lo fun y hy => hx y (by simp [hy]), opt hi fun y hy => hx y (by simp [hy]), opt mx fun y hy => hx y (by simp [hy])]
  all_goals (first | rfl | (simp_all; done))

theorem lop_congr {t t' : Ts} (op : Op) (hx : ∀ x ∈ op.operands, evalO t x = evalO t' x) : lop P t op = lop P t' op := by
  have opt : ∀ o : Option Operand, (∀ x ∈ o.toArray, evalO t x = evalO t' x) → o.map (evalO t) = o.map (evalO t') := fun o ho => by
    cases o with
    | none => rfl
    | some x => simp [ho x (by simp)]
  cases op <;> simp only [Op.operands] at hx <;> simp only [lop]
  case load ty a => rw [hx a (by simp)]
  case nilCheck x => rw [hx x (by simp)]
  case fieldAddr s x f => rw [hx x (by simp)]
  case indexAddr ty x ix => rw [hx x (by simp), hx ix (by simp)]
  case slice ty x lo hi mx =>
    cases mx with
    | some _ => simp only [lop]
    | none => simp only [lop]; rw [hx x (by simp), opt lo fun y hy => hx y (by simp [hy]), opt hi fun y hy => hx y (by simp [hy])]
  case convert a b x => rw [hx x (by simp)]
  case binOp op ty x y z => cases op <;> simp only [lop] <;> rw [hx x (by simp), hx y (by simp)]
  case call c =>
    obtain ⟨callee, args, tys⟩ := c
    have hargs : ∀ x ∈ args.toList, evalO t x = evalO t' x := fun x h => hx x (by simp [Call.operands]; exact .inr (by simpa using h))
    cases callee with
    | builtin b =>
      cases b <;> simp only [lop]
      split
      · rename_i x ty ha _; rw [hargs x (by rw [ha]; simp)]
      · rfl
    | _ => simp only [lop]

theorem aop_congr {t t' : Ts} (h : Heap) (op : Op) (hx : ∀ x ∈ op.operands, evalO t x = evalO t' x) : aop P t h op = aop P t' h op := by
  unfold aop
  rw [lop_congr op hx, aop0_congr h op hx]

theorem awanted_put (t : Ts) (o : Oper) (dst : Option Tmp) (v : Value) (h : ∀ d, dst = some d → d ∉ o.looksAt ops) : awanted ops (aput t dst v) o = awanted ops t o := by
  cases dst with
  | none => rfl
  | some d =>
    unfold awanted
    cases hg : o.guard with
    | none => rfl
    | some gw =>
      obtain ⟨g, want⟩ := gw
      dsimp only
      cases ht : (ops[g]?).bind (·.dst) with
      | none => rfl
      | some s =>
        have hne : s ≠ d := fun e => h d rfl (by subst e; simp [Oper.looksAt, hg, ht])
        simp [aput, hne]

theorem looks_operand {o : Oper} {dst : Option Tmp} (h : ∀ d, dst = some d → d ∉ o.looksAt ops) {x : Operand} (hx : x ∈ o.op.operands) : ∀ d, dst = some d → x ≠ .tmp d := fun d hd e => by
  subst e
  exact h d hd (List.mem_append_left _ (List.mem_filterMap.2 ⟨.tmp d, by simpa using hx, rfl⟩))

theorem aStep_mono {o : Oper} {K K' : Ts → Heap → Prop} (hk : ∀ t h, K t h → K' t h) {t : Ts} {h : Heap} (e : aStep P n ops o K t h) : aStep P n ops o K' t h := by
  obtain ⟨h1, e⟩ := e
  refine ⟨h1, ?_⟩
  rcases e with ⟨hw, e⟩ | ⟨hw, ⟨hn, v, h', e1, e2⟩ | ⟨f, args, tys, g, first, captured, hop, hf, e⟩⟩
  · exact .inl ⟨hw, hk _ _ e⟩
  · exact .inr ⟨hw, .inl ⟨hn, v, h', e1, hk _ _ e2⟩⟩
  · exact .inr ⟨hw, .inr ⟨f, args, tys, g, first, captured, hop, hf, e.mono fun _ _ => hk _ _⟩⟩

/-- In state 't' an operation yields 'v', whatever the heap, if S holds of it. -/
def AY (P : Program) (n : Nat) (ops : Array Oper) (S : Heap → Prop) (o : Oper) (v : Value) (t : Ts) : Prop :=
  dstOk n o = true ∧ ((awanted ops t o = some true ∧ notCall o.op = true ∧ ∀ h, S h → aop P t h o.op = some (v, h)) ∨ (awanted ops t o = some false ∧ v = undef))

theorem AY.step {S : Heap → Prop} {o : Oper} {v : Value} {t : Ts} (hy : AY P n ops S o v t) {K : Ts → Heap → Prop} {h : Heap} (hS : S h) (hk : K (aput t o.dst v) h) : aStep P n ops o K t h := by
  obtain ⟨h1, ⟨hw, hop, hv⟩ | ⟨hw, rfl⟩⟩ := hy
  · exact ⟨h1, .inr ⟨hw, .inl ⟨hop, v, h, hv h hS, hk⟩⟩⟩
  · exact ⟨h1, .inl ⟨hw, hk⟩⟩

theorem AY.put {S : Heap → Prop} {o : Oper} {v : Value} {t : Ts} (hy : AY P n ops S o v t) {dst : Option Tmp} (u : Value) (h3 : ∀ d, dst = some d → d ∉ o.looksAt ops) :
    AY P n ops S o v (aput t dst u) := by
  obtain ⟨h1, hy⟩ := hy
  refine ⟨h1, ?_⟩
  rw [awanted_put t o dst u h3]
  refine hy.imp (fun ⟨hw, hop, hv⟩ => ⟨hw, hop, fun h hS => ?_⟩) id
  rw [aop_congr (t' := t) h o.op fun x hx => evalO_aput (looks_operand h3 hx)]
  exact hv h hS

theorem aStep_put {oi oj : Oper} {v : Value} {S : Heap → Prop} (hap : oi.apart ops oj = true) {K : Ts → Heap → Prop} {t : Ts} {h : Heap}
    (hy : AY P n ops S oi v t) (e : aStep P n ops oj K (aput t oi.dst v) h) :
    aStep P n ops oj (fun t' h' => AY P n ops S oi v t' ∧ K (aput t' oi.dst v) h') t h := by
  obtain ⟨h1, h2, h3⟩ := Oper.apart_spec hap
  obtain ⟨hd, e⟩ := e
  refine ⟨hd, ?_⟩
  rw [awanted_put t oj oi.dst v h1] at e
  have ev : ∀ x ∈ oj.op.operands, evalO (aput t oi.dst v) x = evalO t x := fun x hx => evalO_aput (looks_operand h1 hx)
  rcases e with ⟨hw, e⟩ | ⟨hw, ⟨hn, u, h', e1, e2⟩ | ⟨f, args, tys, g, first, captured, hop, hf, e⟩⟩
  · exact .inl ⟨hw, hy.put _ h3, by rw [← aput_comm t v undef h2]; exact e⟩
  · rw [aop_congr (t' := t) h oj.op ev] at e1
    exact .inr ⟨hw, .inl ⟨hn, u, h', e1, hy.put _ h3, by rw [← aput_comm t v u h2]; exact e2⟩⟩
  · have evf : evalO (aput t oi.dst v) f = evalO t f := ev f (by rw [hop]; simp [Op.operands, Call.operands])
    have eva : args.toList.map (evalO (aput t oi.dst v)) = args.toList.map (evalO t) := List.map_congr_left fun x hx => ev x (by rw [hop]; simp [Op.operands, Call.operands]; exact .inr (by simpa using hx))
    rw [evf] at hf
    rw [eva] at e
    refine .inr ⟨hw, .inr ⟨f, args, tys, g, first, captured, hop, hf, e.mono fun u h' hk => ⟨hy.put _ h3, ?_⟩⟩⟩
    rw [← aput_comm t v u h2]; exact hk

def aStepI (P : Program) (n : Nat) (ops : Array Oper) (i : Nat) (K : Ts → Heap → Prop) (t : Ts) (h : Heap) : Prop :=
  match ops[i]? with
  | none => K t h
  | some o => aStep P n ops o K t h

theorem aStepI_mono {i : Nat} {K K' : Ts → Heap → Prop} (hk : ∀ t h, K t h → K' t h) {t : Ts} {h : Heap} (e : aStepI P n ops i K t h) : aStepI P n ops i K' t h := by
  unfold aStepI at *
  split at e
  · exact hk _ _ e
  · exact aStep_mono hk e

/-- What a late operation makes: cells, the cells of an element, a slice's length. -/
abbrev LData := List Value × Nat × Option Nat

/-- Operations that make something new, whatever the heap. -/
def lateA (P : Program) (t : Ts) : Op → Option LData
  | .alloc e => match tinfo P e with
    | some (_, z, _, _) => if okVal (constV z) = true then some (cellsOf (constV z), 1, none) else none
    | none => none
  | .buildSlice ty len ps => match tinfo P ty with
    | some (.slice e, _) => match tinfo P e with
      | some (_, z, sz, _) =>
        if len * sz ≤ 16777216 ∧ okVal (constV z) = true ∧ z.cells.size = sz ∧ 0 < sz then
          (fillA (fun i => some (i * sz, sz)) (repA (cellsOf (constV z)) len) (ps.toList.map fun (i, x) => (i, evalO t x))).map fun cs => (cs, sz, some len) else none
      | none => none
    | _ => none
  | _ => none

def lateV (d : LData) (i : Nat) : Value :=
  match d.2.2 with
  | none => .pointer (some ⟨i, 0, none⟩)
  | some len => .slice (some ⟨i, 0, none⟩) len len

theorem aop_late {t : Ts} {op : Op} {d : LData} (e : lateA P t op = some d) (h : Heap) : aop P t h op = some (lateV d h.length, h ++ [.row d.1 .exact]) := by
  unfold lateA at e
  split at e
  · split at e
    · rename_i hty
      split at e
      · rename_i hok
        simp only [Option.some.injEq] at e; subst e
        simp [aop, lop, aop0, hty, hok, newRowA, lateV]
      · cases e
    · cases e
  · split at e
    · rename_i hty
      split at e
      · rename_i hte
        split at e
        · rename_i hc
          simp only [Option.map_eq_some_iff] at e
          obtain ⟨cs, hf, rfl⟩ := e
          simp only [aop, lop, aop0, hty, hte, if_pos hc, hf, Option.map_some, lateV]
        · cases e
      · cases e
    · cases e
  · cases e

theorem lateA_congr {t t' : Ts} {op : Op} (hx : ∀ x ∈ op.operands, evalO t x = evalO t' x) : lateA P t op = lateA P t' op := by
  cases op <;> simp only [lateA]
  case buildSlice ty len ps =>
    have : (ps.toList.map fun (i, x) => (i, evalO t x)) = (ps.toList.map fun (i, x) => (i, evalO t' x)) :=
      List.map_congr_left fun p hm => by
        obtain ⟨i, x⟩ := p
        have := hx x (by simp only [Op.operands]; simp; exact ⟨i, by simpa using hm⟩)
        simp only [this]
    rw [this]

theorem late_run {ρ : Ren} {t : Ts} {E : Operand → Value} (ht : ∀ x, Rel ρ (evalO t x) (E x)) {o : Oper} {d : LData} (e : lateA P t o.op = some d) (w : World) :
    ∃ cc el, (execOp E o).run P w = .ok (.value (lateV d w.heap.size)) (w.alloc (.cells cc el)) ∧ d.1.length ≤ cc.size ∧ ∀ (k : Nat) (x : Value), d.1[k]? = some x → ∃ y, cc[k]? = some y ∧ Rel ρ x y := by
  obtain ⟨dst, op, type, pos, after, guard⟩ := o
  dsimp only at e
  unfold lateA at e
  split at e
  · rename_i el
    split at e
    · rename_i d0 z sz by_ hty
      split at e
      · rename_i hok
        simp only [Option.some.injEq] at e; subst e
        have hc := (constV_rel (ρ := ρ) z).cells hok
        refine ⟨z.cells, el, by simp [execOp, Instr.alloc, run_zero hty, newVar, newRow, lateV], by have := hc.1; simp at this; simp; omega, fun k x hx => ?_⟩
        obtain ⟨y, hy, hr'⟩ := hc.get hx
        exact ⟨y, by simpa using hy, hr'⟩
      · cases e
    · cases e
  · rename_i ty len ps
    split at e
    · rename_i el r hty
      split at e
      · rename_i d0 z sz by_ hte
        split at e
        · rename_i hc
          obtain ⟨c1, c2, c3, c4⟩ := hc
          simp only [Option.map_eq_some_iff] at e
          obtain ⟨cs, hf, rfl⟩ := e
          obtain ⟨out', e1, e2⟩ := fill_ok _ (RelP.of ht ps) (rep_rel (ρ := ρ) len sz c3 c4 c2) hf
          refine ⟨out', el, ?_, by have := e2.1; simp at this; simp; omega, fun k x hx => ?_⟩
          · have hn : ¬ (len * sz > 2 ^ 24) := by omega
            by_cases h0 : len * sz = 0
            · have e1' : Instr.fill (fun i => some (i * sz, sz)) #[] (ps.map fun (i, x) => (i, E x)).toList = some out' := by
                rw [h0] at e1
                simpa [Array.range_zero'] using e1
              simp at e1'
              simp [execOp, Instr.buildSlice, run_under hty, run_size hte, h0, newRow, Array.range_zero', e1', lateV]
            · simp at e1
              have hn' : ¬ (16777216 < len * sz) := by omega
              simp [execOp, Instr.buildSlice, run_under hty, run_size hte, run_zero hte, h0, newRow, hn', e1, lateV]
          · obtain ⟨y, hy, hr'⟩ := e2.get hx
            exact ⟨y, by simpa using hy, hr'⟩
        · cases e
      · cases e
    · cases e
  · cases e

/-- A late operation that may be carried out at any time from here on: it asks nothing; no other one that is to come writes what it reads, none at all writes where it writes. -/
def lateAble (n : Nat) (ops : Array Oper) (al : Array Bool) (l : Nat) : Bool :=
  match ops[l]? with
  | some o => o.guard.isNone && (match o.dst with
    | some d => decide (d < n) && (List.range ops.size).all fun j => j == l || (match ops[j]? with
      | some oj => oj.dst != some d && (al.getD j true || (match oj.dst with | some e => !(o.looksAt ops).contains e | none => true))
      | none => true)
    | none => false)
  | none => false

theorem lateAble_spec {al : Array Bool} {l : Nat} (e : lateAble n ops al l = true) : ∃ o d, ops[l]? = some o ∧ o.guard = none ∧ o.dst = some d ∧ d < n ∧
    ∀ j oj, ops[j]? = some oj → j ≠ l → oj.dst ≠ some d ∧ (al.getD j true = false → ∀ k, oj.dst = some k → k ∉ o.looksAt ops) := by
  unfold lateAble at e
  split at e
  · rename_i o ho
    simp only [Bool.and_eq_true] at e
    obtain ⟨e1, e2⟩ := e
    split at e2
    · rename_i d hd
      simp only [Bool.and_eq_true, decide_eq_true_eq, List.all_eq_true, List.mem_range, Bool.or_eq_true, beq_iff_eq] at e2
      obtain ⟨hdn, e3⟩ := e2
      refine ⟨o, d, ho, by simpa using e1, hd, hdn, fun j oj hj hne => ?_⟩
      rcases e3 j (Array.getElem?_eq_some_iff.1 hj).1 with q | q
      · exact absurd q hne
      · rw [hj] at q
        simp only [Bool.and_eq_true, Bool.or_eq_true, bne_iff_ne] at q
        refine ⟨q.1, fun ha k hk => ?_⟩
        rw [ha, hk] at q
        simpa using q.2
    · cases e2
  · cases e

theorem lateAble_mono {al : Array Bool} {l i : Nat} (e : lateAble n ops al l = true) : lateAble n ops (al.setIfInBounds i true) l = true := by
  unfold lateAble at *
  split at e
  · rename_i o ho
    simp only [Bool.and_eq_true] at e ⊢
    refine ⟨e.1, ?_⟩
    have e2 := e.2
    split at e2
    · rename_i d hd
      simp only [Bool.and_eq_true, decide_eq_true_eq, List.all_eq_true, List.mem_range, Bool.or_eq_true, beq_iff_eq] at e2 ⊢
      refine ⟨e2.1, fun j hj => (e2.2 j hj).imp id fun q => ?_⟩
      split at q
      · rename_i oj hoj
        simp only [Bool.and_eq_true, Bool.or_eq_true] at q ⊢
        refine ⟨q.1, q.2.imp (fun q => ?_) id⟩
        by_cases hij : i = j
        · subst hij
          by_cases hb : i < al.size
          · simp [hb]
          · simp [Array.getElem?_eq_none (Nat.le_of_not_lt hb)]
        · rw [getD_set_ne true hij]; exact q
      · rfl
    · exact e2
  · exact e

theorem lateAble_unset {al : Array Bool} {l i : Nat} {oi ol : Oper} (hi : ops[i]? = some oi) (hl : ops[l]? = some ol) (hx : ∀ d, oi.dst = some d → d ∉ ol.looksAt ops)
    (e : lateAble n ops (al.setIfInBounds i true) l = true) : lateAble n ops al l = true := by
  unfold lateAble at *
  rw [hl] at e ⊢
  simp only [Bool.and_eq_true] at e ⊢
  refine ⟨e.1, ?_⟩
  have e2 := e.2
  split at e2
  · rename_i d hd
    simp only [Bool.and_eq_true, decide_eq_true_eq, List.all_eq_true, List.mem_range, Bool.or_eq_true, beq_iff_eq] at e2 ⊢
    refine ⟨e2.1, fun j hj => (e2.2 j hj).imp id fun q => ?_⟩
    split at q
    · rename_i oj hoj
      simp only [Bool.and_eq_true, Bool.or_eq_true] at q ⊢
      refine ⟨q.1, ?_⟩
      by_cases hij : i = j
      · subst hij
        rw [hi] at hoj; cases hoj
        right
        split
        · rename_i k hk; simpa using hx k hk
        · rfl
      · rw [getD_set_ne true hij] at q; exact q.2
    · rfl
  · exact e2

/-- The operations that are carried out, and those that are so before their time. -/
def lst (al : Array Bool) : List (Nat × LData) → Array Bool
  | [] => al
  | p :: pd => lst (al.setIfInBounds p.1 true) pd

theorem lst_set (pd : List (Nat × LData)) : ∀ (al : Array Bool) (i : Nat), lst (al.setIfInBounds i true) pd = (lst al pd).setIfInBounds i true := by
  induction pd with
  | nil => intro al i; rfl
  | cons p pd ih =>
    intro al i
    simp only [lst]
    by_cases h : i = p.1
    · subst h; rw [ih, ih]
    · rw [Array.setIfInBounds_comm _ _ h, ih]

theorem ready_lst {j : Nat} {pd : List (Nat × LData)} : ∀ {al : Array Bool}, j ∈ Region.ready .any ops al → (∀ p ∈ pd, j ≠ p.1) → j ∈ Region.ready .any ops (lst al pd) := by
  induction pd with
  | nil => intro al h _; exact h
  | cons p pd ih => intro al h hp; exact ih (ready_mono h (hp p (by simp))) fun q hq => hp q (by simp [hq])

theorem not_ready_of_true {al : Array Bool} {i : Nat} (h : al.getD i true = true) : i ∉ Region.ready .any ops al := fun q => by
  have := (mem_ready.1 q).1
  rw [h] at this; cases this

theorem getD_set_self (al : Array Bool) (i : Nat) : (al.setIfInBounds i true).getD i true = true := by
  by_cases hb : i < al.size
  · simp [hb]
  · simp [Array.getElem?_eq_none (Nat.le_of_not_lt hb)]

/-- What is made before its time gets its name. -/
inductive Rz (P : Program) (ops : Array Oper) (S : Nat → Heap → Prop) : Array Bool → List (Nat × LData) → Ts → Heap → Array Bool → List (Nat × LData) → Ts → Heap → Prop
  | refl (al pd t h) : Rz P ops S al pd t h al pd t h
  | step {al pd1 p pd2 t h al' pd' t' h'} (o : Oper) (ho : ops[p.1]? = some o) (hr : p.1 ∈ Region.ready .any ops al) (hS : S p.1 (h ++ [.row p.2.1 .exact]))
      (hn : Rz P ops S (al.setIfInBounds p.1 true) (pd1 ++ pd2) (aput t o.dst (lateV p.2 h.length)) (h ++ [.row p.2.1 .exact]) al' pd' t' h') :
      Rz P ops S al (pd1 ++ p :: pd2) t h al' pd' t' h'

/-- Whatever order is picked from here on; S holds behind each operation. -/
def AW (P : Program) (n : Nat) (ops : Array Oper) (K : Ts → Heap → Prop) (S : Nat → Heap → Prop) : Nat → Array Bool → List (Nat × LData) → Ts → Heap → Prop
  | 0, al, pd, t, h => ∃ al' t' h', Rz P ops S al pd t h al' [] t' h' ∧ Region.ready .any ops al' = [] ∧ K t' h'
  | m + 1, al, pd, t, h => ∃ al' pd' t' h', Rz P ops S al pd t h al' pd' t' h' ∧ (Region.ready .any ops (lst al' pd') = [] → pd' = [] ∧ K t' h') ∧
    ∀ i ∈ Region.ready .any ops (lst al' pd'),
      aStepI P n ops i (fun t2 h2 => (h2 = h' ∨ S i h2) ∧ AW P n ops K S m (al'.setIfInBounds i true) pd' t2 h2) t' h' ∨
      (∃ o d data, ops[i]? = some o ∧ o.dst = some d ∧ i ∈ Region.ready .any ops al' ∧ lateAble n ops al' i = true ∧ lateA P t' o.op = some data ∧ t' d = und ∧
        AW P n ops K S m al' ((i, data) :: pd') t' h')

theorem AW.rz {K : Ts → Heap → Prop} {S : Nat → Heap → Prop} {m : Nat} {al al' : Array Bool} {pd pd' : List (Nat × LData)} {t t' : Ts} {h h' : Heap} (hr : Rz P ops S al pd t h al' pd' t' h')
    (e : AW P n ops K S m al' pd' t' h') : AW P n ops K S m al pd t h := by
  induction hr with
  | refl => exact e
  | step o ho hrd hS hn ih =>
    have e' := ih e
    cases m with
    | zero =>
      obtain ⟨a2, t2, h2, r, q⟩ := e'
      exact ⟨a2, t2, h2, .step o ho hrd hS r, q⟩
    | succ m =>
      obtain ⟨a2, p2, t2, h2, r, q⟩ := e'
      exact ⟨a2, p2, t2, h2, .step o ho hrd hS r, q⟩

theorem Rz.strengthen {S S' : Nat → Heap → Prop} (hs : ∀ j h, S' j h → S j h) {al al' : Array Bool} {pd pd' : List (Nat × LData)} {t t' : Ts} {h h' : Heap} (hr : Rz P ops S' al pd t h al' pd' t' h') :
    Rz P ops S al pd t h al' pd' t' h' := by
  induction hr with
  | refl => exact .refl _ _ _ _
  | step o ho hrd hS hn ih => exact .step o ho hrd (hs _ _ hS) ih

theorem AW.strengthen {K : Ts → Heap → Prop} {S S' : Nat → Heap → Prop} (hs : ∀ j h, S' j h → S j h) : ∀ {m : Nat} {al : Array Bool} {pd : List (Nat × LData)} {t : Ts} {h : Heap}, AW P n ops K S' m al pd t h → AW P n ops K S m al pd t h
  | 0, _, _, _, _, ⟨a, t, h, r, q⟩ => ⟨a, t, h, r.strengthen hs, q⟩
  | m + 1, _, _, _, _, ⟨a, p, t, h, r, q1, q2⟩ => ⟨a, p, t, h, r.strengthen hs, q1, fun i hi => (q2 i hi).imp
      (aStepI_mono fun _ _ q => ⟨q.1.imp id (hs _ _), AW.strengthen hs q.2⟩) fun ⟨o, d, data, r1, r2, r3, r4, r5, r6, r7⟩ => ⟨o, d, data, r1, r2, r3, r4, r5, r6, AW.strengthen hs r7⟩⟩

/-- Does an operation wait for another one? -/
def afterB (ops : Array Oper) (q j : Nat) : Bool :=
  match ops[j]? with
  | some o => o.after.any fun e => Region.binds .any e && e.on == q
  | none => false

theorem afterB_ready {al : Array Bool} {q j : Nat} (hq : q ∈ Region.ready .any ops al) (hj : j ∈ Region.ready .any ops al) : afterB ops q j = false := by
  obtain ⟨_, oj, hoj, hall⟩ := mem_ready.1 hj
  unfold afterB
  rw [hoj]
  rw [Array.any_eq_false']
  intro e he hb
  simp only [Bool.and_eq_true, beq_iff_eq] at hb
  have h1 := hall e he hb.1
  have h0 := (mem_ready.1 hq).1
  rw [hb.2] at h1
  rcases Nat.lt_or_ge q al.size with h' | h'
  · simp [h'] at h0 h1; rw [h0] at h1; cases h1
  · simp [Array.getElem?_eq_none h'] at h1

/-- What may not touch a quiet operation. -/
def FreeOf (ops : Array Oper) (al : Array Bool) (i : Nat) (oi : Oper) : Prop :=
  ∀ j oj, ops[j]? = some oj → j ≠ i → al.getD j true = false → (∀ e ∈ oj.after, Region.binds .any e = true → e.on ≠ i) → oi.apart ops oj = true

theorem FreeOf.mono {al : Array Bool} {i j : Nat} {oi : Oper} (hf : FreeOf ops al i oi) : FreeOf ops (al.setIfInBounds j true) i oi := fun k ok hk hki hun hno => by
  refine hf k ok hk hki ?_ hno
  by_cases hjk : j = k
  · subst hjk; rw [getD_set_self] at hun; cases hun
  · rw [getD_set_ne true hjk] at hun; exact hun

theorem FreeOf.apart {al : Array Bool} {i j : Nat} {oi oj : Oper} (hf : FreeOf ops al i oi) (hri : i ∈ Region.ready .any ops al) (hj : ops[j]? = some oj) (hrj : j ∈ Region.ready .any ops al) (hne : j ≠ i) : oi.apart ops oj = true := by
  obtain ⟨hjun, oj', hoj, hall⟩ := mem_ready.1 hrj
  rw [hj] at hoj; cases hoj
  refine hf j oj hj hne hjun fun e he hb heq => ?_
  have h1 := hall e he hb
  have h0 := (mem_ready.1 hri).1
  rw [heq] at h1
  rcases Nat.lt_or_ge i al.size with h' | h'
  · simp [h'] at h0 h1; rw [h0] at h1; cases h1
  · simp [Array.getElem?_eq_none h'] at h1

theorem nodup_mid {pd1 pd2 : List (Nat × LData)} {p : Nat × LData} (h : ((pd1 ++ p :: pd2).map (·.1)).Nodup) : ((pd1 ++ pd2).map (·.1)).Nodup ∧ ∀ q ∈ pd1 ++ pd2, q.1 ≠ p.1 := by
  simp only [List.map_append, List.map_cons, List.nodup_append, List.nodup_cons, List.mem_cons] at h ⊢
  obtain ⟨h1, ⟨h2, h3⟩, h4⟩ := h
  refine ⟨⟨h1, h3, fun a ha b hb => h4 a ha b (.inr hb)⟩, fun q hq e => ?_⟩
  rcases List.mem_append.1 hq with hq | hq
  · exact h4 q.1 (List.mem_map.2 ⟨q, hq, rfl⟩) p.1 (.inl rfl) e
  · exact h2 (e ▸ List.mem_map.2 ⟨q, hq, rfl⟩)

/-- Names given before and behind a quiet operation. -/
theorem Rz.first {S : Nat → Heap → Prop} {Sq : Heap → Prop} {i : Nat} {oi : Oper} {v : Value} (hi : ops[i]? = some oi) (hSq : ∀ j, afterB ops i j = false → ∀ h, S j h → Sq h) {a1 al' : Array Bool} {pd pd' : List (Nat × LData)} {t1 t' : Ts} {h h' : Heap}
    (hr : Rz P ops S a1 pd t1 h al' pd' t' h') : ∀ {al : Array Bool} {t : Ts}, a1 = al.setIfInBounds i true → t1 = aput t oi.dst v → FreeOf ops al i oi → (pd.map (·.1)).Nodup → (∀ p ∈ pd, p.1 ≠ i ∧ p.1 ∈ Region.ready .any ops al) →
      i ∈ Region.ready .any ops al → AY P n ops Sq oi v t → Sq h →
      ∃ al2 t2, Rz P ops S al pd t h al2 pd' t2 h' ∧ al' = al2.setIfInBounds i true ∧ t' = aput t2 oi.dst v ∧ FreeOf ops al2 i oi ∧ (pd'.map (·.1)).Nodup ∧ (∀ p ∈ pd', p.1 ≠ i ∧ p.1 ∈ Region.ready .any ops al2) ∧
      i ∈ Region.ready .any ops al2 ∧ AY P n ops Sq oi v t2 ∧ Sq h' := by
  induction hr with
  | refl al0 pd t0 h0 =>
    rintro al t rfl rfl hf hnd hpd hri hy hS
    exact ⟨al, t, .refl _ _ _ _, rfl, rfl, hf, hnd, hpd, hri, hy, hS⟩
  | @step al0 pd1 p pd2 t0 h0 al' pd' t' h' o ho hrd hS0 hn ih =>
    rintro al t rfl rfl hf hnd hpd hri hy hS
    obtain ⟨hpi, hpr⟩ := hpd p (by simp)
    obtain ⟨p1, p2, p3⟩ := Oper.apart_spec (hf.apart hri ho hpr hpi)
    obtain ⟨nd1, nd2⟩ := nodup_mid hnd
    obtain ⟨al2, t2, q1, q2, q3, q4, q5, q6, q7, q8, q9⟩ := ih (al := al.setIfInBounds p.1 true) (t := aput t o.dst (lateV p.2 h0.length)) (Array.setIfInBounds_comm _ _ (Ne.symm hpi))
      (aput_comm t v _ p2) hf.mono nd1 (fun q hq => ⟨(hpd q (by
        rcases List.mem_append.1 hq with hq | hq <;> simp [hq])).1, ready_mono (hpd q (by
        rcases List.mem_append.1 hq with hq | hq <;> simp [hq])).2 (nd2 q hq)⟩) (ready_mono hri (Ne.symm hpi)) (hy.put _ p3) (hSq p.1 (afterB_ready hri hpr) _ hS0)
    exact ⟨al2, t2, .step o ho hpr hS0 q1, q2, q3, q4, q5, q6, q7, q8, q9⟩

theorem AW.first {K : Ts → Heap → Prop} {S : Nat → Heap → Prop} {Sq : Heap → Prop} {i : Nat} {oi : Oper} {v : Value} (hi : ops[i]? = some oi) (hSq : ∀ j, afterB ops i j = false → ∀ h, S j h → Sq h) :
    ∀ (m : Nat) (al : Array Bool) (pd : List (Nat × LData)) (t : Ts) (h : Heap), FreeOf ops al i oi → (pd.map (·.1)).Nodup → (∀ p ∈ pd, p.1 ≠ i ∧ p.1 ∈ Region.ready .any ops al) →
      i ∈ Region.ready .any ops al → AY P n ops Sq oi v t → Sq h →
      AW P n ops K S m (al.setIfInBounds i true) pd (aput t oi.dst v) h → AW P n ops K S (m + 1) al pd t h := by
  intro m
  induction m with
  | zero =>
    rintro al pd t h hf hnd hpd hri hy hS ⟨al', t', h', r, hre, hk⟩
    obtain ⟨al2, t2, q1, rfl, rfl, q4, q5, q6, q7, q8, q9⟩ := r.first hi hSq rfl rfl hf hnd hpd hri hy hS
    refine ⟨al2, [], t2, h', q1, fun q => (by rw [lst] at q; rw [q] at q7; cases q7), fun j hj => .inl ?_⟩
    by_cases hji : j = i
    · subst hji
      unfold aStepI
      rw [hi]
      exact q8.step q9 ⟨.inl rfl, ⟨_, _, _, .refl _ _ _ _, hre, hk⟩⟩
    · have := ready_mono (i := i) hj hji
      rw [lst] at this
      rw [hre] at this
      cases this
  | succ m ih =>
    rintro al pd t h hf hnd hpd hri hy hS ⟨al', pd', t', h', r, hre, hall⟩
    obtain ⟨al2, t2, q1, rfl, rfl, q4, q5, q6, q7, q8, q9⟩ := r.first hi hSq rfl rfl hf hnd hpd hri hy hS
    have hrl : i ∈ Region.ready .any ops (lst al2 pd') := ready_lst q7 fun p hp e => (q6 p hp).1 e.symm
    refine ⟨al2, pd', t2, h', q1, fun q => (by rw [q] at hrl; cases hrl), fun j hj => ?_⟩
    by_cases hji : j = i
    · subst hji
      left
      unfold aStepI
      rw [hi]
      exact q8.step q9 ⟨.inl rfl, ⟨_, _, _, _, .refl _ _ _ _, hre, hall⟩⟩
    · have hj2 : j ∈ Region.ready .any ops (lst (al2.setIfInBounds i true) pd') := by rw [lst_set]; exact ready_mono hj hji
      obtain ⟨hjun, oj, hoj, hdep⟩ := mem_ready.1 hj
      have hnot : ∀ e ∈ oj.after, Region.binds .any e = true → e.on ≠ i := fun e he hb heq => by
        have h1 := hdep e he hb
        have h0 := (mem_ready.1 hrl).1
        rw [heq] at h1
        rcases Nat.lt_or_ge i (lst al2 pd').size with h' | h'
        · simp [h'] at h0 h1; rw [h0] at h1; cases h1
        · simp [Array.getElem?_eq_none h'] at h1
      have hjal : al2.getD j true = false := by
        have : ∀ (pd : List (Nat × LData)) (al : Array Bool), (lst al pd).getD j true = false → al.getD j true = false := by
          intro pd
          induction pd with
          | nil => intro al h; exact h
          | cons p pd ih =>
            intro al h
            have := ih _ h
            by_cases hpj : p.1 = j
            · rw [hpj, getD_set_self] at this; cases this
            · rwa [getD_set_ne true hpj] at this
        exact this _ _ hjun
      have hap := q4 j oj hoj hji hjal hnot
      rcases hall j hj2 with e | ⟨o, d, data, r1, r2, r3, r4, r5, r6, r7⟩
      · left
        unfold aStepI at e ⊢
        rw [hoj] at e ⊢
        have h2 := aStep_put hap q8 e
        refine aStep_mono (fun t' h' h3 => ⟨h3.2.1, ?_⟩) h2
        refine ih (al2.setIfInBounds j true) pd' t' h' q4.mono q5 (fun p hp => ⟨(q6 p hp).1, ready_mono (q6 p hp).2 fun e => ?_⟩) (ready_mono q7 (Ne.symm hji)) h3.1 (h3.2.1.elim (fun e => e ▸ q9) (hSq j (by
          unfold afterB; rw [hoj, Array.any_eq_false']
          intro e he hb
          simp only [Bool.and_eq_true, beq_iff_eq] at hb
          exact hnot e he hb.1 hb.2) _)) ?_
        · -- j is not pending: it is not yet carried out
          have : ∀ (pd : List (Nat × LData)) (al : Array Bool), p ∈ pd → (lst al pd).getD p.1 true = true := by
            intro pd
            induction pd with
            | nil => intro al h; cases h
            | cons q pd ih =>
              intro al h
              rcases List.mem_cons.1 h with rfl | h
              · rw [lst, lst_set, getD_set_self]
              · exact ih _ h
          have := this pd' al2 hp
          rw [e, hjun] at this; cases this
        · rw [Array.setIfInBounds_comm _ _ hji]
          exact h3.2.2
      · right
        rw [hoj] at r1; cases r1
        obtain ⟨p1, p2, p3⟩ := Oper.apart_spec hap
        have hja : j ∈ Region.ready .any ops al2 := by
          obtain ⟨z1, oj', z2, z3⟩ := mem_ready.1 r3
          rw [hoj] at z2; cases z2
          refine mem_ready.2 ⟨hjal, oj, hoj, fun e he hb => ?_⟩
          have := z3 e he hb
          rwa [getD_set_ne false (Ne.symm (hnot e he hb))] at this
        refine ⟨oj, d, data, hoj, r2, hja, ?_, ?_, ?_, ?_⟩
        · exact lateAble_unset hi hoj p1 r4
        · rw [← r5]; exact (lateA_congr fun x hx => evalO_aput (looks_operand p1 hx)).symm
        · have : (aput t2 oi.dst v) d = t2 d := by
            cases hdd : oi.dst with
            | none => rfl
            | some e => simp only [aput]; rw [if_neg]; intro q; subst q; exact p2 d hdd r2
          rw [← this]; exact r6
        · refine ih al2 ((j, data) :: pd') t2 h' q4 (by
            simp only [List.map_cons, List.nodup_cons]
            refine ⟨fun hm => ?_, q5⟩
            obtain ⟨p, hp, hpe⟩ := List.mem_map.1 hm
            have : ∀ (pd : List (Nat × LData)) (al : Array Bool), p ∈ pd → (lst al pd).getD p.1 true = true := by
              intro pd
              induction pd with
              | nil => intro al h; cases h
              | cons q pd ih =>
                intro al h
                rcases List.mem_cons.1 h with rfl | h
                · rw [lst, lst_set, getD_set_self]
                · exact ih _ h
            have := this pd' al2 hp
            rw [hpe, hjun] at this; cases this) (fun p hp => ?_) q7 q8 q9 r7
          rcases List.mem_cons.1 hp with rfl | hp
          · exact ⟨hji, hja⟩
          · exact q6 p hp

/-- A plan: the operations in an order; none: this one is taken first; some: no other may come up but these, which make something new. -/
def planOk (n : Nat) (ops : Array Oper) : List (Nat × Option (List Nat)) → Array Bool → Bool
  | [], al => (Region.ready .any ops al).isEmpty
  | (i, none) :: rest, al => Region.free .any ops al i && (Region.ready .any ops al).contains i && planOk n ops rest (al.setIfInBounds i true)
  | (i, some L) :: rest, al => (Region.ready .any ops al).contains i && (Region.ready .any ops al).all (fun k => k == i || L.contains k) && !L.contains i && L.all (fun l => lateAble n ops al l && (Region.ready .any ops al).contains l) &&
    (Region.ready .any ops (L.foldl (fun a l => a.setIfInBounds l true) al)).all (· == i) && (ops[i]?).isSome && planOk n ops rest (al.setIfInBounds i true)

/-- A region by a plan. 'S': what has been leant upon. -/
def awpP (P : Program) (n : Nat) (ops : Array Oper) (K : Ts → Heap → Prop) : List (Nat × Option (List Nat)) → (Nat → Heap → Prop) → Ts → Heap → Prop
  | [], _, t, h => K t h
  | (i, none) :: rest, S, t, h => ∃ o v Sq, ops[i]? = some o ∧ Sq h ∧ AY P n ops Sq o v t ∧ awpP P n ops K rest (fun j h' => S j h' ∧ (afterB ops i j = true ∨ Sq h')) (aput t o.dst v) h
  | (i, some L) :: rest, S, t, h => (∀ l ∈ L, ∃ o d data, ops[l]? = some o ∧ o.dst = some d ∧ t d = und ∧ lateA P t o.op = some data) ∧
    aStepI P n ops i (fun t' h' => S i h' ∧ awpP P n ops K rest S t' h') t h

/-- What is pending, in a state of a plan. -/
structure Pd (P : Program) (n : Nat) (ops : Array Oper) (al : Array Bool) (pd : List (Nat × LData)) (t : Ts) : Prop where
  nodup : (pd.map (·.1)).Nodup
  ok : ∀ p ∈ pd, p.1 ∈ Region.ready .any ops al ∧ lateAble n ops al p.1 = true ∧ ∃ o, ops[p.1]? = some o ∧ lateA P t o.op = some p.2

theorem countP_lt {α : Type} {p q : α → Bool} (hpq : ∀ x, q x = true → p x = true) : ∀ {l : List α} {i : α}, i ∈ l → p i = true → q i = false → l.countP q < l.countP p := by
  have le : ∀ l : List α, l.countP q ≤ l.countP p := fun l => List.countP_mono_left fun x _ => hpq x
  intro l
  induction l with
  | nil => intro i h; cases h
  | cons x l ih =>
    intro i hi hp hq
    have hl := le l
    rcases List.mem_cons.1 hi with rfl | hi
    · rw [List.countP_cons_of_pos hp, List.countP_cons_of_neg (by simp [hq])]; omega
    · have := ih hi hp hq
      by_cases hqx : q x = true
      · rw [List.countP_cons_of_pos hqx, List.countP_cons_of_pos (hpq x hqx)]; omega
      · rw [List.countP_cons_of_neg hqx]
        by_cases hpx : p x = true
        · rw [List.countP_cons_of_pos hpx]; omega
        · rw [List.countP_cons_of_neg hpx]; exact this

theorem aStepI_form {i : Nat} {o : Oper} (ho : ops[i]? = some o) {K : Ts → Heap → Prop} {t : Ts} {h : Heap} (e : aStepI P n ops i K t h) :
    aStepI P n ops i (fun t' h' => (∃ v, t' = aput t o.dst v) ∧ K t' h') t h := by
  unfold aStepI at *
  rw [ho] at e ⊢
  obtain ⟨h1, e⟩ := e
  refine ⟨h1, ?_⟩
  rcases e with ⟨hw, e⟩ | ⟨hw, ⟨hn, v, h', e1, e2⟩ | ⟨f, args, tys, g, first, captured, hop, hf, e⟩⟩
  · exact .inl ⟨hw, ⟨_, rfl⟩, e⟩
  · exact .inr ⟨hw, .inl ⟨hn, v, h', e1, ⟨_, rfl⟩, e2⟩⟩
  · exact .inr ⟨hw, .inr ⟨f, args, tys, g, first, captured, hop, hf, e.mono fun _ _ q => ⟨⟨_, rfl⟩, q⟩⟩⟩

theorem Pd.put {al : Array Bool} {pd : List (Nat × LData)} {t : Ts} (hp : Pd P n ops al pd t) {i : Nat} {o : Oper} (ho : ops[i]? = some o) (hi : al.getD i true = false) (hne : ∀ p ∈ pd, p.1 ≠ i) (v : Value) :
    Pd P n ops (al.setIfInBounds i true) pd (aput t o.dst v) := by
  refine ⟨hp.nodup, fun p h => ?_⟩
  obtain ⟨h1, h2, op, hop, h3⟩ := hp.ok p h
  refine ⟨ready_mono h1 (hne p h), lateAble_mono h2, op, hop, ?_⟩
  obtain ⟨op', d, q1, q2, q3, q4, q5⟩ := lateAble_spec h2
  rw [hop] at q1; cases q1
  rw [← h3]
  refine lateA_congr fun x hx => evalO_aput fun k hk e => ?_
  exact looks_operand (ops := ops) (o := op) (dst := o.dst) (fun k hk => (q5 i o ho (Ne.symm (hne p h))).2 hi k hk) hx k hk e

theorem Pd.sub {al : Array Bool} {pd1 pd2 : List (Nat × LData)} {p : Nat × LData} {t : Ts} (hp : Pd P n ops al (pd1 ++ p :: pd2) t) : Pd P n ops al (pd1 ++ pd2) t :=
  ⟨(nodup_mid hp.nodup).1, fun q hq => hp.ok q (by rcases List.mem_append.1 hq with h | h <;> simp [h])⟩

theorem AW.done {K : Ts → Heap → Prop} {S : Nat → Heap → Prop} {al : Array Bool} {t : Ts} {h : Heap} (hr : Region.ready .any ops al = []) (hk : K t h) : ∀ m, AW P n ops K S m al [] t h
  | 0 => ⟨al, t, h, .refl _ _ _ _, hr, hk⟩
  | _ + 1 => ⟨al, [], t, h, .refl _ _ _ _, fun _ => ⟨rfl, hk⟩, by rw [lst, hr]; simp⟩

theorem lst_true {pd : List (Nat × LData)} : ∀ {al : Array Bool} {k : Nat}, (lst al pd).getD k true = false → al.getD k true = false ∧ ∀ p ∈ pd, p.1 ≠ k := by
  induction pd with
  | nil => intro al k h; exact ⟨h, by simp⟩
  | cons p pd ih =>
    intro al k h
    obtain ⟨h1, h2⟩ := ih h
    by_cases hpk : p.1 = k
    · rw [hpk, getD_set_self] at h1; cases h1
    · rw [getD_set_ne true hpk] at h1
      exact ⟨h1, fun q hq => by
        rcases List.mem_cons.1 hq with rfl | hq
        · exact hpk
        · exact h2 q hq⟩

/-- What is carried out with some more. -/
theorem foldl_getD (L : List Nat) : ∀ (al : Array Bool) (k : Nat) (d : Bool), ((L.foldl (fun a l => a.setIfInBounds l true) al).getD k d = true ↔ al.getD k d = true ∨ (k ∈ L ∧ (k < al.size ∨ d = true))) := by
  induction L with
  | nil => intro al k d; simp
  | cons l L ih =>
    intro al k d
    rw [List.foldl_cons, ih]
    by_cases h : l = k
    · subst h
      by_cases hb : l < al.size
      · simp [hb]
      · simp [Array.getElem?_eq_none (Nat.le_of_not_lt hb), hb]
    · rw [getD_set_ne d h]
      simp [Ne.symm h]

theorem lst_eq_foldl (pd : List (Nat × LData)) : ∀ (al : Array Bool), lst al pd = (pd.map (·.1)).foldl (fun a l => a.setIfInBounds l true) al := by
  induction pd with
  | nil => intro al; rfl
  | cons p pd ih => intro al; exact ih _

def bnd : List (Nat × Option (List Nat)) → Nat
  | [] => 0
  | (_, none) :: r => bnd r + 1
  | (_, some L) :: r => bnd r + 1 + L.length

theorem awpP_ok {K : Ts → Heap → Prop} : ∀ (plan : List (Nat × Option (List Nat))) (al : Array Bool) (pd : List (Nat × LData)) (S : Nat → Heap → Prop) (t : Ts) (h : Heap) (m : Nat), planOk n ops plan al = true → Pd P n ops al pd t →
    awpP P n ops K plan S t h → bnd plan ≤ m → AW P n ops K S m al pd t h := by
  intro plan
  induction plan with
  | nil =>
    intro al pd S t h m hp hpd e _
    have hre : Region.ready .any ops al = [] := by simpa [planOk] using hp
    have : pd = [] := by
      cases pd with
      | nil => rfl
      | cons p pd => have := (hpd.ok p (by simp)).1; rw [hre] at this; cases this
    subst this
    exact AW.done hre e m
  | cons x rest ih =>
    intro al pd S t h m hp hpd e hm
    obtain ⟨i, b⟩ := x
    cases b with
    | none =>
      simp only [planOk, Bool.and_eq_true] at hp
      obtain ⟨⟨p1, p2⟩, p3⟩ := hp
      obtain ⟨o, v, Sq, ho, hSh, hy, e⟩ := e
      have hri : i ∈ Region.ready .any ops al := by simpa using p2
      have hne : ∀ p ∈ pd, p.1 ≠ i := fun p hp heq => by
        obtain ⟨_, h2, op, hop, h3⟩ := hpd.ok p hp
        obtain ⟨op', d, q1, q2, _⟩ := lateAble_spec h2
        rw [heq] at hop q1
        rw [ho] at hop q1; cases hop; cases q1
        obtain ⟨_, ⟨_, _, hv⟩ | ⟨hw, _⟩⟩ := hy
        · have := (hv h hSh).symm.trans (aop_late h3 h)
          simp only [Option.some.injEq, Prod.mk.injEq] at this
          have := congrArg List.length this.2
          simp at this
        · simp [awanted, q2] at hw
      cases m with
      | zero => simp [bnd] at hm
      | succ m =>
        exact (AW.first (S := fun j h' => S j h' ∧ (afterB ops i j = true ∨ Sq h')) ho (fun j hj h' q => q.2.elim (fun q => by rw [hj] at q; cases q) id) _ al pd t h (Region.free_spec ho p1) hpd.nodup (fun p hp => ⟨hne p hp, (hpd.ok p hp).1⟩) hri hy hSh
          (ih _ pd _ _ h m p3 (hpd.put ho (mem_ready.1 hri).1 hne v) e (by simp [bnd] at hm; omega))).strengthen fun _ _ q => q.1
    | some L =>
      simp only [planOk, Bool.and_eq_true] at hp
      obtain ⟨⟨⟨⟨⟨⟨p1, p2⟩, p3⟩, p4⟩, p5⟩, p6⟩, p7⟩ := hp
      have hri : i ∈ Region.ready .any ops al := by simpa using p1
      obtain ⟨o, ho⟩ := Option.isSome_iff_exists.1 p6
      obtain ⟨e1, e2⟩ := e
      have e2' := aStepI_form ho e2
      have step : ∀ (pd : List (Nat × LData)) (m : Nat), Pd P n ops al pd t → bnd rest + 1 ≤ m →
          (∀ k data m', k ∈ L → (∀ p ∈ pd, p.1 ≠ k) → m = m' + 1 → Pd P n ops al ((k, data) :: pd) t → AW P n ops K S m' al ((k, data) :: pd) t h) → AW P n ops K S m al pd t h := by
        intro pd m hpd hm more
        by_cases hip : ∃ p ∈ pd, p.1 = i
        · obtain ⟨p, hpm, hpe⟩ := hip
          obtain ⟨pd1, pd2, rfl⟩ := List.append_of_mem hpm
          obtain ⟨h1, h2, op, hop, h3⟩ := hpd.ok p hpm
          obtain ⟨op', d, q1, q2, q3, _⟩ := lateAble_spec h2
          rw [hpe] at hop q1
          rw [ho] at hop q1; cases hop; cases q1
          unfold aStepI at e2'
          rw [ho] at e2'
          dsimp only at e2'
          obtain ⟨_, e3⟩ := e2'
          have haop := aop_late h3 h
          have hres : (∃ v, aput t o.dst (lateV p.2 h.length) = aput t o.dst v) ∧ S i (h ++ [.row p.2.1 .exact]) ∧ awpP P n ops K rest S (aput t o.dst (lateV p.2 h.length)) (h ++ [.row p.2.1 .exact]) := by
            rcases e3 with ⟨hw, _⟩ | ⟨hw, ⟨hn, v, h', e4, e5⟩ | ⟨f, args, tys, g, first, captured, hcall, _⟩⟩
            · simp [awanted, q2] at hw
            · rw [haop] at e4
              simp only [Option.some.injEq, Prod.mk.injEq] at e4
              obtain ⟨rfl, rfl⟩ := e4
              exact e5
            · rw [hcall] at h3; simp [lateA] at h3
          obtain ⟨_, r1, r2⟩ := hres
          have nd := (nodup_mid hpd.nodup).2
          refine AW.rz (.step o (by rw [hpe]; exact ho) h1 (by rw [hpe]; exact r1) (.refl _ _ _ _)) ?_
          rw [hpe]
          exact ih _ _ S _ _ m p7 (hpd.sub.put ho (mem_ready.1 hri).1 (fun q hq => hpe ▸ nd q hq) _) r2 (by omega)
        · have hne : ∀ p ∈ pd, p.1 ≠ i := fun p hp heq => hip ⟨p, hp, heq⟩
          cases m with
          | zero => omega
          | succ m =>
            have hrl : i ∈ Region.ready .any ops (lst al pd) := ready_lst hri fun p hp heq => hne p hp heq.symm
            refine ⟨al, pd, t, h, .refl _ _ _ _, fun q => (by rw [q] at hrl; cases hrl), fun k hk => ?_⟩
            by_cases hki : k = i
            · subst hki
              left
              refine aStepI_mono (fun t2 h2 q => ?_) e2'
              obtain ⟨⟨v, rfl⟩, r1, r2⟩ := q
              exact ⟨.inr r1, ih _ pd S _ _ m p7 (hpd.put ho (mem_ready.1 hri).1 hne v) r2 (by omega)⟩
            · right
              obtain ⟨k1, ok, hok, k2⟩ := mem_ready.1 hk
              obtain ⟨k3, k4⟩ := lst_true k1
              have hpL : ∀ p ∈ pd, p.1 ∈ L := fun p hp => by
                have := List.all_eq_true.1 p2 p.1 (hpd.ok p hp).1
                simp only [Bool.or_eq_true, beq_iff_eq] at this
                exact this.elim (fun q => absurd q (hne p hp)) (fun q => by simpa using q)
              have hkL : k ∈ L := by
                refine Classical.byContradiction fun hnL => ?_
                have hkr : k ∈ Region.ready .any ops (L.foldl (fun a l => a.setIfInBounds l true) al) := by
                  refine mem_ready.2 ⟨?_, ok, hok, fun e he hb => ?_⟩
                  · cases hq : (L.foldl (fun a l => a.setIfInBounds l true) al).getD k true with
                    | false => rfl
                    | true =>
                      rcases (foldl_getD L al k true).1 hq with q | q
                      · rw [k3] at q; cases q
                      · exact absurd q.1 hnL
                  · have := k2 e he hb
                    rw [lst_eq_foldl] at this
                    rcases (foldl_getD _ al e.on false).1 this with q | ⟨q1, q2⟩
                    · exact (foldl_getD L al e.on false).2 (.inl q)
                    · obtain ⟨p, hp, hpe⟩ := List.mem_map.1 q1
                      exact (foldl_getD L al e.on false).2 (.inr ⟨hpe ▸ hpL p hp, q2⟩)
                have := List.all_eq_true.1 p5 k hkr
                exact hki (by simpa using this)
              obtain ⟨o2, d, data, r1, r2, r3, r4⟩ := e1 k hkL
              rw [hok] at r1; cases r1
              have hla0 := List.all_eq_true.1 p4 k hkL
              simp only [Bool.and_eq_true] at hla0
              have hla := hla0.1
              have hkr : k ∈ Region.ready .any ops al := by simpa using hla0.2
              refine ⟨ok, d, data, hok, r2, hkr, hla, r4, r3, more k data m hkL k4 rfl ⟨?_, fun p hp => ?_⟩⟩
              · simp only [List.map_cons, List.nodup_cons]
                exact ⟨fun hm => by obtain ⟨p, hp, hpe⟩ := List.mem_map.1 hm; exact k4 p hp hpe, hpd.nodup⟩
              · rcases List.mem_cons.1 hp with rfl | hp
                · exact ⟨hkr, hla, ok, hok, r4⟩
                · exact hpd.ok p hp
      have key : ∀ (N : Nat) (pd : List (Nat × LData)) (m : Nat), Pd P n ops al pd t → L.countP (fun l => !(pd.map (·.1)).contains l) ≤ N → bnd rest + 1 + N ≤ m → AW P n ops K S m al pd t h := by
        intro N
        induction N with
        | zero =>
          intro pd m hpd hN hm
          refine step pd m hpd (by omega) fun k data m' hk hne _ _ => ?_
          have : 0 < L.countP (fun l => !(pd.map (·.1)).contains l) := List.countP_pos_iff.2 ⟨k, hk, by
            simp only [Bool.not_eq_true', List.contains_eq_mem, decide_eq_false_iff_not]
            intro hm; obtain ⟨p, hp, hpe⟩ := List.mem_map.1 hm; exact hne p hp hpe⟩
          omega
        | succ N ihN =>
          intro pd m hpd hN hm
          refine step pd m hpd (by omega) fun k data m' hk hne hmm hpd' => ?_
          have : L.countP (fun l => !(((k, data) :: pd).map (·.1)).contains l) < L.countP (fun l => !(pd.map (·.1)).contains l) := by
            refine countP_lt (fun x hx => ?_) hk ?_ ?_
            · simp at hx ⊢; exact hx.2
            · simp only [Bool.not_eq_true', List.contains_eq_mem, decide_eq_false_iff_not]
              intro hm; obtain ⟨p, hp, hpe⟩ := List.mem_map.1 hm; exact hne p hp hpe
            · simp
          exact ihN _ m' hpd' (by omega) (by omega)
      exact key L.length pd m hpd List.countP_le_length (by simp [bnd] at hm; omega)

/-- A world in which what is pending lies where nobody speaks of it. -/
structure CS (P : Program) (n : Nat) (ops : Array Oper) (B : Fr) (w0 : World) (ρ : Ren) (pd : List (Nat × LData)) (t : Ts) (h : Heap) (a : Act) (w : World) (blk : Nat → Nat) (w1 : World) : Prop where
  sim : Sim ⟨B.lo, fun k => B.F k ∨ ∃ p ∈ pd, blk p.1 = k⟩ w1 ρ h w
  kept : Kept B w0 w1
  rel : TRel ρ n t a.tmps
  defers : a.defers = []
  nodup : (pd.map (·.1)).Nodup
  pend : ∀ p ∈ pd, ∃ o d, ops[p.1]? = some o ∧ o.dst = some d ∧ d < n ∧ (∀ j oj, ops[j]? = some oj → j ≠ p.1 → oj.dst ≠ some d) ∧ a.tmps.getD d undef = lateV p.2 (blk p.1) ∧ B.lo ≤ blk p.1 ∧ ¬ B.F (blk p.1) ∧
    ∃ cc el, w.heap[blk p.1]? = some (.cells cc el) ∧ p.2.1.length ≤ cc.size ∧ ∀ (k : Nat) (x : Value), p.2.1[k]? = some x → ∃ y, cc[k]? = some y ∧ Rel ρ x y
  apart : ∀ p ∈ pd, ∀ q ∈ pd, p.1 ≠ q.1 → blk p.1 ≠ blk q.1

theorem Kept.trans {B : Fr} {a b c : World} (h : Kept B a b) (k : Kept B b c) : Kept B a c :=
  ⟨k.os.trans h.os, k.tape.trans h.tape, k.output.trans h.output, Nat.le_trans h.size k.size, fun i hi => (k.block i hi).trans (h.block i hi)⟩

/-- Less is left alone. -/
theorem Sim.weaken {B : Fr} {F' : Nat → Prop} {w0 w1 w : World} {ρ : Ren} {h : Heap} (s : Sim ⟨B.lo, F'⟩ w1 ρ h w) (hk : Kept B w0 w1) (hF : ∀ k, B.F k → F' k) : Sim B w0 ρ h w :=
  ⟨hk.trans ⟨s.below.os, s.below.tape, s.below.output, s.below.size, fun k hk => s.below.block k (hk.imp id (hF k))⟩, s.le, fun k hk => s.fle k (hF k hk),
    fun i b hi => let ⟨d1, d2, d3⟩ := s.dom i b hi; ⟨d1, d2, fun q => d3 (hF _ q)⟩, fun i c m hi => let ⟨b, h1, h2⟩ := s.row i c m hi; ⟨b, h1, ⟨h2.len, h2.lies, h2.own, h2.fit, h2.fit2, h2.zero⟩⟩,
    fun i es hi => let ⟨b, h1, h2⟩ := s.map i es hi; ⟨b, h1, ⟨h2.own, h2.lies, h2.stamp⟩⟩, s.inj, s.cold, s.apart, fun k cc hk q => s.coldF k cc hk (hF k q)⟩

/-- From here on the world is told from itself. -/
theorem Sim.here {B : Fr} {w0 w : World} {ρ : Ren} {h : Heap} (s : Sim B w0 ρ h w) : Sim B w ρ h w :=
  ⟨Kept.refl _ _, s.le, s.fle, s.dom, s.row, s.map, s.inj, s.cold, s.apart, s.coldF⟩

theorem Sim.frame {B : Fr} {w0 w : World} {ρ : Ren} {h : Heap} (s : Sim B w0 ρ h w) (F' : Nat → Prop) (hF : ∀ k, F' k → B.F k ∨ (k < w.heap.size ∧ (∀ i b, ρ i = some b → b.block ≠ k) ∧ ρ.frz k = none)) : Sim ⟨B.lo, F'⟩ w ρ h w :=
  ⟨Kept.refl _ _, s.le, fun k hk => (hF k hk).elim (s.fle k) And.left,
    fun i b hi => let ⟨d1, d2, d3⟩ := s.dom i b hi; ⟨d1, d2, fun q => (hF _ q).elim d3 fun r => r.2.1 i b hi rfl⟩, fun i c m hi => let ⟨b, h1, h2⟩ := s.row i c m hi; ⟨b, h1, ⟨h2.len, h2.lies, h2.own, h2.fit, h2.fit2, h2.zero⟩⟩,
    fun i es hi => let ⟨b, h1, h2⟩ := s.map i es hi; ⟨b, h1, ⟨h2.own, h2.lies, h2.stamp⟩⟩, s.inj, s.cold, s.apart,
    fun k cc hk q => (hF k q).elim (s.coldF k cc hk) fun r => by rw [r.2.2] at hk; cases hk⟩

theorem RowOk.fr {B B' : Fr} {ρ : Ren} {w : World} {b : Bind} {c : List Value} {m : Md} (h : RowOk B ρ w b c m) (hl : B.lo = B'.lo) : RowOk B' ρ w b c m := ⟨h.len, h.lies, hl ▸ h.own, h.fit, h.fit2, h.zero⟩

/-- Something of its own in a block of which nobody speaks gets a name. -/
theorem Sim.named {B : Fr} {w0 w : World} {ρ : Ren} {h : Heap} (s : Sim B w0 ρ h w) {cs : List Value} {cc : Array Value} {el : TypeId} {k size : Nat} (hk : w.heap[k]? = some (.cells cc el)) (hlo : B.lo ≤ k) (hF : ¬ B.F k)
    (hcold : ρ.frz k = none) (hno : ∀ i b, ρ i = some b → b.block ≠ k) (hl : cs.length ≤ cc.size) (hr : ∀ (j : Nat) (x : Value), cs[j]? = some x → ∃ y, cc[j]? = some y ∧ Rel ρ x y) :
    Sim B w0 (ρ.add h.length ⟨k, 0, cs.length, size, 0⟩) (h ++ [.row cs .exact]) w := by
  refine s.name cs .exact ⟨k, 0, cs.length, size, 0⟩ (Array.getElem?_eq_some_iff.1 hk).1 hF hcold (fun j bj hj _ => hno j bj hj) ⟨rfl, ⟨cc, el, (0, 0), hk, by simpa using hl, fun j x hx => ?_, fun _ o _ => by simp⟩, fun _ => hlo, fun _ => rfl, (fun _ _ q => by cases q), fun _ => rfl⟩
  obtain ⟨y, hy, hr'⟩ := hr j x hx
  exact ⟨y, by simpa using hy, hr'.mono (Ren.add_le _ s.fresh)⟩

theorem lateV_rel (d : LData) (ρ : Ren) (i k size : Nat) : Rel (ρ.add i ⟨k, 0, d.1.length, size, 0⟩) (lateV d i) (lateV d k) := by
  unfold lateV
  split
  · exact Rel.ptr (ρ := ρ.add i ⟨k, 0, d.1.length, size, 0⟩) i 0 _ (Ren.add_same _ _ _)
  · exact fresh_slice ρ i k _ size 0 _ _ (.inl rfl)

theorem Rz.sound {B : Fr} {w0 : World} {S : Nat → Heap → Prop} {al al' : Array Bool} {pd pd' : List (Nat × LData)} {t t' : Ts} {h h' : Heap} (hr : Rz P ops S al pd t h al' pd' t' h') {a : Act} {w : World} :
    ∀ {ρ : Ren} {blk : Nat → Nat} {w1 : World}, CS P n ops B w0 ρ pd t h a w blk w1 → lst al pd = lst al' pd' ∧ ∃ ρ' w2, ρ.le ρ' ∧ CS P n ops B w0 ρ' pd' t' h' a w blk w2 := by
  induction hr with
  | refl => intro ρ blk w1 c; exact ⟨rfl, ρ, w1, .refl _, c⟩
  | @step al0 pd1 p pd2 t0 h0 al' pd' t' h' o ho hrd hS0 hn ih =>
    intro ρ blk w1 c
    obtain ⟨o', d, q1, q2, q3, q4, q5, q6, q7, cc, el, q8, q9, q10⟩ := c.pend p (by simp)
    rw [ho] at q1; cases q1
    obtain ⟨nd1, nd2⟩ := nodup_mid c.nodup
    have hmem : ∀ q ∈ pd1 ++ pd2, q ∈ pd1 ++ p :: pd2 := fun q hq => by rcases List.mem_append.1 hq with h | h <;> simp [h]
    have hsim : Sim ⟨B.lo, fun k => B.F k ∨ ∃ q ∈ pd1 ++ pd2, blk q.1 = k⟩ w ρ h0 w := c.sim.frame _ fun k hk => .inl (hk.imp id fun ⟨q, hq, e⟩ => ⟨q, hmem q hq, e⟩)
    have hno : ∀ i b, ρ i = some b → b.block ≠ blk p.1 := fun i b hb e => (c.sim.dom i b hb).2.2 (.inr ⟨p, by simp, e.symm⟩)
    have hname := hsim.named (cs := p.2.1) (size := p.2.2.1) q8 q6 (fun hq => by
      rcases hq with hq | ⟨q, hq, e⟩
      · exact q7 hq
      · exact c.apart q (hmem q hq) p (by simp) (nd2 q hq) e) (by
        cases e : ρ.frz (blk p.1) with
        | none => rfl
        | some cc => exact (c.sim.coldF _ _ e (.inr ⟨p, by simp, rfl⟩)).elim) hno q9 q10
    have hle := Ren.add_le (⟨blk p.1, 0, p.2.1.length, p.2.2.1, 0⟩ : Bind) hsim.fresh
    have hdk : Kept B w1 w := ⟨c.sim.below.os, c.sim.below.tape, c.sim.below.output, c.sim.below.size, fun k hk => c.sim.below.block k (hk.imp id fun q => .inl q)⟩
    have hrel : TRel (ρ.add h0.length ⟨blk p.1, 0, p.2.1.length, p.2.2.1, 0⟩) n (aput t0 o.dst (lateV p.2 h0.length)) a.tmps := by
      refine ⟨c.rel.1, fun i => ?_⟩
      rw [q2]
      simp only [aput]
      by_cases e : i = d
      · subst e; rw [if_pos rfl, q5]; exact lateV_rel _ _ _ _ _
      · rw [if_neg e]; exact (c.rel.2 i).mono hle
    obtain ⟨r1, ρ', w2, r2, r3⟩ := ih (ρ := ρ.add h0.length ⟨blk p.1, 0, p.2.1.length, p.2.2.1, 0⟩) (blk := blk) (w1 := w) ⟨hname, c.kept.trans hdk, hrel, c.defers, nd1, fun q hq => by
        obtain ⟨oq, dq, z1, z2, z3, z4, z5, z6, z7, cq, eq, z8, z9, z10⟩ := c.pend q (hmem q hq)
        exact ⟨oq, dq, z1, z2, z3, z4, z5, z6, z7, cq, eq, z8, z9, fun k x hx => let ⟨y, hy, hr'⟩ := z10 k x hx; ⟨y, hy, hr'.mono hle⟩⟩,
      fun q hq r hr => c.apart q (hmem q hq) r (hmem r hr)⟩
    refine ⟨?_, ρ', w2, hle.trans r2, r3⟩
    rw [← r1]
    -- the order in which they are told plays no part
    have : ∀ (l1 : List (Nat × LData)) (al : Array Bool), lst al (l1 ++ p :: pd2) = lst (al.setIfInBounds p.1 true) (l1 ++ pd2) := by
      intro l1
      induction l1 with
      | nil => intro al; rfl
      | cons x l1 ih2 =>
        intro al
        simp only [List.cons_append, lst]
        rw [ih2]
        by_cases e : x.1 = p.1
        · rw [e]
        · rw [Array.setIfInBounds_comm _ _ e]
    exact this pd1 al0

def unl (ops : Array Oper) (l : Array Bool) : Nat := (List.range ops.size).countP fun j => !l.getD j true

theorem unl_ready {l : Array Bool} {i : Nat} (h : i ∈ Region.ready .any ops l) : unl ops (l.setIfInBounds i true) < unl ops l := by
  obtain ⟨h1, o, ho, _⟩ := mem_ready.1 h
  refine countP_lt (fun x hx => ?_) (List.mem_range.2 (Array.getElem?_eq_some_iff.1 ho).1) (by rw [h1]; rfl) (by rw [getD_set_self]; rfl)
  by_cases e : i = x
  · subst e; rw [getD_set_self] at hx; cases hx
  · rwa [getD_set_ne true e] at hx

theorem aStepI_some {i : Nat} {o : Oper} (ho : ops[i]? = some o) {K : Ts → Heap → Prop} {t : Ts} {h : Heap} (e : aStepI P n ops i K t h) : aStep P n ops o K t h := by
  unfold aStepI at e; rw [ho] at e; exact e

theorem AW_sound {B : Fr} {w0 : World} (hops : ∀ o ∈ ops, dstOk n o = true) {K : Ts → Heap → Prop} {S : Nat → Heap → Prop} {Q : Exit → Act → World → Prop} :
    ∀ (m0 m : Nat) (al : Array Bool) (pd : List (Nat × LData)) {ρ : Ren} {t : Ts} {h : Heap} {a : Act} {w : World} {blk : Nat → Nat} {w1 : World}, CS P n ops B w0 ρ pd t h a w blk w1 → unl ops (lst al pd) ≤ m0 →
      (∀ ρ' t' h' a' w', ρ.le ρ' → a'.defers = [] → TRel ρ' n t' a'.tmps → Sim B w0 ρ' h' w' → K t' h' → Q .normal a' w') →
      AW P n ops K S m al pd t h → wpAny P .any ops Q m0 (lst al pd) a w := by
  have fin : ∀ {ρ ρ2 : Ren} {t2 : Ts} {h2 : Heap} {a : Act} {w : World} {blk : Nat → Nat} {w2 : World}, CS P n ops B w0 ρ2 [] t2 h2 a w blk w2 → ρ.le ρ2 →
      (∀ ρ' t' h' a' w', ρ.le ρ' → a'.defers = [] → TRel ρ' n t' a'.tmps → Sim B w0 ρ' h' w' → K t' h' → Q .normal a' w') → K t2 h2 → Q .normal a w := fun c hle hK k =>
    hK _ _ _ _ _ hle c.defers c.rel (c.sim.weaken c.kept fun _ q => .inl q) k
  intro m0
  induction m0 with
  | zero =>
    intro m al pd ρ t h a w blk w1 c hu hK e
    have hnr : Region.ready .any ops (lst al pd) = [] := by
      cases hr : Region.ready .any ops (lst al pd) with
      | nil => rfl
      | cons i l => have := unl_ready (i := i) (by rw [hr]; simp); omega
    cases m with
    | zero =>
      obtain ⟨al', t', h', r, q1, q2⟩ := e
      obtain ⟨r1, ρ2, w2, r2, r3⟩ := r.sound c
      exact ⟨hnr, fin r3 r2 hK q2⟩
    | succ m =>
      obtain ⟨al', pd', t', h', r, q1, q2⟩ := e
      obtain ⟨r1, ρ2, w2, r2, r3⟩ := r.sound c
      obtain ⟨rfl, hk⟩ := q1 (r1 ▸ hnr)
      exact ⟨hnr, fin r3 r2 hK hk⟩
  | succ m0 ih =>
    intro m al pd ρ t h a w blk w1 c hu hK e
    cases m with
    | zero =>
      obtain ⟨al', t', h', r, q1, q2⟩ := e
      obtain ⟨r1, ρ2, w2, r2, r3⟩ := r.sound c
      refine ⟨fun _ => fin r3 r2 hK q2, fun i hi => ?_⟩
      rw [r1, lst, q1] at hi; cases hi
    | succ m =>
      obtain ⟨al', pd', t', h', r, q1, q2⟩ := e
      obtain ⟨r1, ρ2, w2, r2, r3⟩ := r.sound c
      refine ⟨fun q => ?_, fun i hi => ?_⟩
      · obtain ⟨rfl, hk⟩ := q1 (r1 ▸ q)
        exact fin r3 r2 hK hk
      · have hul := unl_ready hi
        have hu' := hu
        rw [r1] at hi hul hu' ⊢
        obtain ⟨hiu, o, ho, _⟩ := mem_ready.1 hi
        obtain ⟨_, hip⟩ := lst_true hiu
        rcases q2 i hi with e | ⟨o', d, data, z1, z2, z3, z4, z5, z6, z7⟩
        · refine aStep_ok hops ho r3.sim r3.rel r3.defers (fun ρ3 t3 h3 a3 w3 y1 y2 y3 y4 y5 y6 => ?_) (aStepI_some ho e)
          obtain ⟨v, rfl⟩ := y5
          rw [← lst_set]
          refine ih m (al'.setIfInBounds i true) pd' (blk := blk) (w1 := w2) ⟨y4, r3.kept, y3, y2, r3.nodup, fun p hp => ?_, r3.apart⟩ (by rw [lst_set]; omega) (fun ρ' t' h' a' w' x1 => hK ρ' t' h' a' w' ((r2.trans y1).trans x1)) y6.2
          obtain ⟨op, dp, p1, p2, p3, p4, p5, p6, p7, cc, el, p8, p9, p10⟩ := r3.pend p hp
          have hF : (⟨B.lo, fun k => B.F k ∨ ∃ p ∈ pd', blk p.1 = k⟩ : Fr).F (blk p.1) := .inr ⟨p, hp, rfl⟩
          refine ⟨op, dp, p1, p2, p3, p4, ?_, p6, p7, cc, el, ?_, p9, fun k x hx => let ⟨y, hy, hr'⟩ := p10 k x hx; ⟨y, hy, hr'.mono y1⟩⟩
          · have hne := p4 i o ho (Ne.symm (hip p hp))
            cases hd : o.dst with
            | none => exact p5
            | some e =>
              have : e ≠ dp := fun q => hne (by rw [hd, q])
              rw [← p5]
              simp [Act.put, Array.getElem?_setIfInBounds_ne this]
          · rw [y4.below.block _ (.inr hF), ← r3.sim.below.block _ (.inr hF)]; exact p8
        · rw [ho] at z1; cases z1
          obtain ⟨o2, d2, l1, l2, l3, l4, l5⟩ := lateAble_spec z4
          rw [ho] at l1; cases l1
          rw [z2] at l3; cases l3
          obtain ⟨cc, el, v1, v2, v3⟩ := late_run (P := P) r3.rel.eval z5 w
          unfold wpOp
          rw [ho]
          have hwt : Region.wanted o (yielded ops a.tmps) = true := by
            unfold Region.wanted; rw [l2]
          dsimp only
          rw [hwt, if_pos rfl]
          left
          unfold Oper.wp
          rw [v1, Oper.upon_value]
          have hblk : ∀ p ∈ pd', blk p.1 < w.heap.size := fun p hp => r3.sim.fle _ (.inr ⟨p, hp, rfl⟩)
          have hlt : ∀ k, k < w.heap.size → (w.alloc (.cells cc el)).heap[k]? = w.heap[k]? := heap_alloc_lt w _
          -- the world with the new block, of which nobody speaks
          have hs1 : Sim ⟨B.lo, fun k => B.F k ∨ ∃ p ∈ (i, data) :: pd', (fun j => if j = i then w.heap.size else blk j) p.1 = k⟩ (w.alloc (.cells cc el)) ρ2 h' (w.alloc (.cells cc el)) := by
            have s := r3.sim
            refine ⟨Kept.refl _ _, by have := s.le; simp; dsimp only at this; omega, fun k hk => ?_, fun j b hj => ?_, fun j c' m' hj => ?_, fun j es hj => ?_, s.inj,
              fun k cc hk => let ⟨el, fr, q⟩ := s.cold k cc hk; ⟨el, fr, (hlt k (s.coldLt hk)).trans q⟩, s.apart, fun k cc hk q => ?_⟩
            · rcases hk with hk | ⟨p, hp, e⟩
              · have := s.fle k (.inl hk); simp; omega
              · rcases List.mem_cons.1 hp with rfl | hp
                · simp at e; simp; omega
                · simp only [if_neg (hip p hp)] at e
                  have := hblk p hp; simp; omega
            · obtain ⟨d1, d2', d3⟩ := s.dom j b hj
              refine ⟨d1, by simp; omega, fun q => ?_⟩
              rcases q with q | ⟨p, hp, e⟩
              · exact d3 (.inl q)
              · rcases List.mem_cons.1 hp with rfl | hp
                · simp at e; omega
                · simp only [if_neg (hip p hp)] at e
                  exact d3 (.inr ⟨p, hp, e⟩)
            · obtain ⟨b, g1, g2⟩ := s.row j c' m' hj
              exact ⟨b, g1, (g2.mono (.refl _) (hlt _ (s.dom j b g1).2.1)).fr rfl⟩
            · obtain ⟨b, g1, g2⟩ := s.map j es hj
              have := g2.mono (.refl ρ2) (hlt _ (s.dom j b g1).2.1)
              exact ⟨b, g1, ⟨this.own, this.lies, this.stamp⟩⟩
            · have hkl := s.coldLt hk
              rcases q with q | ⟨p, hp, e⟩
              · exact s.coldF k cc hk (.inl q)
              · rcases List.mem_cons.1 hp with rfl | hp
                · simp at e; omega
                · simp only [if_neg (hip p hp)] at e
                  exact s.coldF k cc hk (.inr ⟨p, hp, e⟩)
          have hk1 : Kept B w0 (w.alloc (.cells cc el)) := by
            have k1 := r3.kept
            have b1 := r3.sim.below
            refine k1.trans ⟨b1.os, b1.tape, b1.output, by have := b1.size; simp; omega, fun k hk => ?_⟩
            have : k < w.heap.size := hk.elim (fun q => Nat.lt_of_lt_of_le q r3.sim.le) (fun q => r3.sim.fle k (.inl q))
            rw [hlt k this]
            exact b1.block k (hk.imp id .inl)
          have htr : TRel ρ2 n t' (a.put o.dst (lateV data w.heap.size)).tmps := by
            have := r3.rel.put (o := o) (hops o (Array.mem_of_getElem? ho)) (Rel.any (ρ := ρ2) (lateV data w.heap.size))
            rw [z2] at this ⊢
            have ht : aput t' (some d) und = t' := by
              funext j
              simp only [aput]
              split
              · rename_i e; rw [e]; exact z6.symm
              · rfl
            have e2 : aput t' (some d) (.tuple #[.tuple #[]]) = t' := ht
            rw [e2] at this
            exact this
          have := ih m al' ((i, data) :: pd') (blk := fun j => if j = i then w.heap.size else blk j) (w1 := w.alloc (.cells cc el)) (a := a.put o.dst (lateV data w.heap.size)) ⟨hs1, hk1, htr, by rw [z2]; simp [Act.put, r3.defers], by
              simp only [List.map_cons, List.nodup_cons]
              exact ⟨fun hm => by obtain ⟨p, hp, hpe⟩ := List.mem_map.1 hm; exact hip p hp hpe, r3.nodup⟩, fun p hp => ?_, fun p hp q hq hne => ?_⟩ (by simp only [lst]; rw [lst_set]; omega) (fun ρ' t' h' a' w' x1 => hK ρ' t' h' a' w' (r2.trans x1)) z7
          · simp only [lst] at this
            rw [lst_set] at this
            exact this
          · rcases List.mem_cons.1 hp with rfl | hp
            · refine ⟨o, d, ho, z2, l4, fun j oj hj hne => (l5 j oj hj hne).1, ?_, ?_, ?_, cc, el, ?_, v2, v3⟩
              · have hdn : d < a.tmps.size := by rw [r3.rel.1]; exact l4
                rw [z2]; simp [Act.put, hdn]
              · simp; exact r3.sim.le
              · simp; intro q; have := r3.sim.fle _ (.inl q); omega
              · simp only [if_pos rfl]; exact heap_alloc_new _ _
            · obtain ⟨op, dp, p1, p2, p3, p4, p5, p6, p7, cq, eq, p8, p9, p10⟩ := r3.pend p hp
              simp only [if_neg (hip p hp)]
              refine ⟨op, dp, p1, p2, p3, p4, ?_, p6, p7, cq, eq, by rw [hlt _ (hblk p hp)]; exact p8, p9, p10⟩
              have hne := p4 i o ho (Ne.symm (hip p hp))
              rw [z2] at hne ⊢
              have : d ≠ dp := fun q => hne (by rw [q])
              rw [← p5]
              simp [Act.put, Array.getElem?_setIfInBounds_ne this]
          · rcases List.mem_cons.1 hp with rfl | hp <;> rcases List.mem_cons.1 hq with rfl | hq
            · exact absurd rfl hne
            · have := hblk q hq; simp [hip q hq]; omega
            · have := hblk p hp; simp [hip p hp]; omega
            · simp only [if_neg (hip p hp), if_neg (hip q hq)]; exact r3.apart p hp q hq hne

/-- Where late operations will write nothing can be told. -/
def undL (ops : Array Oper) : List Nat → Ts → Ts
  | [], t => t
  | l :: L, t => undL ops L (aput t ((ops[l]?).bind (·.dst)) und)
def undP (ops : Array Oper) : List (Nat × Option (List Nat)) → Ts → Ts
  | [], t => t
  | (_, none) :: r, t => undP ops r t
  | (_, some L) :: r, t => undP ops r (undL ops L t)

theorem TRel.und {ρ : Ren} {t : Ts} {a : Array Value} (h : TRel ρ n t a) (d : Option Tmp) : TRel ρ n (aput t d Go.Ax.und) a := by
  cases d with
  | none => exact h
  | some d =>
    refine ⟨h.1, fun i => ?_⟩
    simp only [aput]
    split
    · exact .any _
    · exact h.2 i
theorem TRel.undL {ρ : Ren} {a : Array Value} : ∀ {L : List Nat} {t : Ts}, TRel ρ n t a → TRel ρ n (undL ops L t) a
  | [], _, h => h
  | l :: L, t, h => TRel.undL (L := L) (t := aput t ((ops[l]?).bind (·.dst)) Go.Ax.und) (TRel.und h _)
theorem TRel.undP {ρ : Ren} {a : Array Value} : ∀ {pl : List (Nat × Option (List Nat))} {t : Ts}, TRel ρ n t a → TRel ρ n (undP ops pl t) a
  | [], _, h => h
  | (_, none) :: r, _, h => TRel.undP (pl := r) h
  | (_, some L) :: r, t, h => TRel.undP (pl := r) (t := Go.Ax.undL ops L t) (TRel.undL h)

theorem draw_ok {B : Fr} {w0 : World} {id : Nat} (hm : P.follows .mixedOrders = true) (hops : ops.toList.all (dstOk n) = true) (plan : List (Nat × Option (List Nat))) (hp : planOk n ops plan (Array.replicate ops.size false) = true)
    {K : Ts → Heap → Prop} {Q : Exit → Act → World → Prop} {ρ : Ren} {t : Ts} {h : Heap} {a : Act} {w : World} (hs : Sim B w0 ρ h w) (ht : TRel ρ n t a.tmps) (hd : a.defers = [])
    (hK : ∀ ρ' t' h' a' w', ρ.le ρ' → a'.defers = [] → TRel ρ' n t' a'.tmps → Sim B w0 ρ' h' w' → K t' h' → Q .normal a' w')
    (e : awpP P n ops K plan (fun _ _ => True) (undP ops plan t) h) : (Code.region id ops true).wp P Q a w := by
  refine wp_region_any hm ?_
  have hs' : Sim B w0 ρ h w.drew := hs.drew
  have c : CS P n ops B w0 ρ [] (undP ops plan t) h a w.drew (fun _ => 0) w.drew :=
    ⟨hs'.frame _ fun k hk => .inl (hk.elim (fun q => q) fun ⟨_, q, _⟩ => (by cases q)), hs'.below, ht.undP, hd, by simp, by simp, by simp⟩
  exact AW_sound (P := P) (Q := Q) (fun o ho => List.all_eq_true.1 hops o (by simpa using ho)) ops.size (bnd plan) (Array.replicate ops.size false) [] c
    (by unfold unl; have := List.countP_le_length (p := fun j => !(lst (Array.replicate ops.size false) []).getD j true) (l := List.range ops.size); simpa using this) hK
    (awpP_ok plan _ [] (fun _ _ => True) _ h _ hp ⟨by simp, by simp⟩ e (Nat.le_refl _))

end
end Go.Ax
