/- Ax, part 15: what a call comes to; operations in a row. -/
import Derived.Test.YtoaohmmdhmefpaaA14
namespace Go.Ax
open Go.RowKit

abbrev Ts := Nat → Value

/-- A function that is entered when it is called. -/
def entersOk (P : Program) (g : FuncId) : Prop :=
  ∃ fn, P.funcs[g]? = some fn ∧ (fn.name == "runtime.NumGoroutine") = false ∧ fn.body.isSome = true

/-- The end of a call: a value that stands for one of which Q holds. -/
def Ended (B : Fr) (w0 : World) (ρ : Ren) (Q : Value → Heap → Prop) (e : Ending) (w' : World) : Prop :=
  ∃ ρ' v v' h', ρ.le ρ' ∧ e = .returned v' ∧ Rel ρ' v v' ∧ Sim B w0 ρ' h' w' ∧ Q v h'

/-- A call on abstract values. -/
def acall (P : Program) (f : FuncId) (args : List Value) (h : Heap) (Q : Value → Heap → Prop) : Prop :=
  entersOk P f ∧ ∀ (B : Fr) (w0 : World) (ρ : Ren) (w : World) (args' : Array Value), Sim B w0 ρ h w → RelL ρ args args'.toList →
    Calls P f args' w (Ended B w0 ρ Q)

theorem acall.mono {P : Program} {f : FuncId} {args : List Value} {h : Heap} {Q Q' : Value → Heap → Prop} (hc : acall P f args h Q)
    (hq : ∀ v h', Q v h' → Q' v h') : acall P f args h Q' :=
  ⟨hc.1, fun B w0 ρ w args' s hr => (hc.2 B w0 ρ w args' s hr).mono fun _ _ ⟨ρ', v, v', h', h1, h2, h3, h4, h5⟩ => ⟨ρ', v, v', h', h1, h2, h3, h4, hq _ _ h5⟩⟩

def aput (t : Ts) (d : Option Tmp) (v : Value) : Ts :=
  match d with
  | none => t
  | some d => fun i => if i = d then v else t i

/-- What a guard makes of a value: a bool; nothing (it was not carried out); none: it can't be told. -/
def yv : Value → Option (Option Bool)
  | .bool b => some (some b)
  | .tuple vs => if vs.size = 0 then some none else none
  | _ => none

/-- Is an operation carried out? none: it can't be told. -/
def awanted (ops : Array Oper) (t : Ts) (o : Oper) : Option Bool :=
  match o.guard with
  | none => some true
  | some (j, want) => match (ops[j]?).bind (·.dst) with
    | some d => (yv (t d)).map fun y => y == some want
    | none => none

def dstOk (n : Nat) (o : Oper) : Bool := match o.dst with | some d => decide (d < n) | none => true

def notCall : Op → Bool
  | .call ⟨.value _, _, _⟩ => false
  | _ => true

/-- One operation, as the model takes it, on abstract values. -/
def aStep (P : Program) (n : Nat) (ops : Array Oper) (o : Oper) (K : Ts → Heap → Prop) (t : Ts) (h : Heap) : Prop :=
  dstOk n o = true ∧
  ((awanted ops t o = some false ∧ K (aput t o.dst undef) h) ∨
   (awanted ops t o = some true ∧
    ((notCall o.op = true ∧ ∃ v h', aop P t h o.op = some (v, h') ∧ K (aput t o.dst v) h') ∨
     (∃ f args tys g first captured, o.op = .call ⟨.value f, args, tys⟩ ∧ evalO t f = .func (.func g) first captured ∧
       acall P g (first.toList ++ args.toList.map (evalO t) ++ captured.toList) h fun v h' => K (aput t o.dst v) h'))))

/-- The temporaries stand for the frame's. -/
def TRel (ρ : Ren) (n : Nat) (t : Ts) (a : Array Value) : Prop := a.size = n ∧ ∀ i, Rel ρ (t i) (a.getD i undef)

theorem Rel.undef (ρ : Ren) : Rel ρ undef undef := .tuple _ _ rfl fun i p _ => absurd p (by simp [Go.undef])

theorem TRel.mono {ρ ρ' : Ren} {n : Nat} {t : Ts} {a : Array Value} (hr : ρ.le ρ') (h : TRel ρ n t a) : TRel ρ' n t a := ⟨h.1, fun i => (h.2 i).mono hr⟩

theorem TRel.eval {ρ : Ren} {n : Nat} {t : Ts} {a : Act} (h : TRel ρ n t a.tmps) (x : Operand) : Rel ρ (evalO t x) (a.eval x) := by
  cases x with
  | tmp s => exact h.2 s
  | const v => exact constV_rel v
  | global g => exact .any _
  | func f => exact .func _ _ _ _ _ rfl rfl rfl (fun i p _ => absurd p (by simp)) (fun i p _ => absurd p (by simp))

theorem TRel.put {ρ : Ren} {n : Nat} {t : Ts} {a : Act} (h : TRel ρ n t a.tmps) {o : Oper} (hd : dstOk n o = true) {v v' : Value} (hv : Rel ρ v v') :
    TRel ρ n (aput t o.dst v) (a.put o.dst v').tmps := by
  unfold dstOk at hd
  cases e : o.dst with
  | none => exact h
  | some d =>
    rw [e] at hd
    have hd' : d < n := by simpa using hd
    refine ⟨by simp [Act.put, h.1], fun i => ?_⟩
    simp only [aput, Act.put]
    by_cases q : i = d
    · subst q
      rw [if_pos rfl]
      simp [h.1, hd']
      exact hv
    · rw [if_neg q]
      have := h.2 i
      simpa [Array.getElem?_setIfInBounds_ne (Ne.symm q)] using this

theorem awanted_ok {ρ : Ren} {n : Nat} {t : Ts} {a : Array Value} (h : TRel ρ n t a) {ops : Array Oper} (hops : ∀ o ∈ ops, dstOk n o = true) {o : Oper} {b : Bool} (e : awanted ops t o = some b) :
    Region.wanted o (yielded ops a) = b := by
  unfold awanted at e
  unfold Region.wanted
  split at e
  · rename_i hg; rw [hg]; cases e; rfl
  · rename_i j want hg
    rw [hg]
    dsimp only
    unfold yielded
    split at e
    · rename_i d hd
      rw [hd]
      have hdn : d < n := by
        obtain ⟨oj, hoj, hdj⟩ := Option.bind_eq_some_iff.1 hd
        have := hops oj (Array.mem_of_getElem? hoj)
        unfold dstOk at this
        rw [hdj] at this
        simpa using this
      have hr := h.2 d
      have hget : a[d]? = some (a.getD d undef) := by
        have : d < a.size := by rw [h.1]; exact hdn
        simp [this]
      simp only [Option.bind_some, hget]
      generalize a.getD d undef = y at hr
      simp only [Option.map_eq_some_iff] at e
      obtain ⟨c, hc, rfl⟩ := e
      generalize t d = x at hr hc
      unfold yv at hc
      split at hc
      · simp only [Option.some.injEq] at hc; subst hc
        cases hr; rfl
      · split at hc
        · rename_i hsz
          simp only [Option.some.injEq] at hc; subst hc
          cases hr with
          | any v => simp at hsz
          | tuple cs cs' h1 h2 => rfl
        · cases hc
      · cases hc
    · cases e

/-- The end of a piece of code, lifted. -/
def Lift (B : Fr) (w0 : World) (ρ : Ren) (n : Nat) (Q : Ts → Heap → Prop) (a : Act) (w : World) : Prop :=
  ∃ ρ' t h, ρ.le ρ' ∧ a.defers = [] ∧ TRel ρ' n t a.tmps ∧ Sim B w0 ρ' h w ∧ Q t h

theorem aStep_ok {P : Program} {B : Fr} {w0 : World} {ρ : Ren} {n : Nat} {ops : Array Oper} (hops : ∀ o ∈ ops, dstOk n o = true) {i : Nat} {o : Oper} (ho : ops[i]? = some o) {K : Ts → Heap → Prop} {K' : Act → World → Prop} {Q : Exit → Act → World → Prop}
    {t : Ts} {h : Heap} {a : Act} {w : World} (hs : Sim B w0 ρ h w) (ht : TRel ρ n t a.tmps) (hd : a.defers = [])
    (hK : ∀ ρ' t' h' a' w', ρ.le ρ' → a'.defers = [] → TRel ρ' n t' a'.tmps → Sim B w0 ρ' h' w' → (∃ v, a' = a.put o.dst v) → K t' h' → K' a' w')
    (e : aStep P n ops o K t h) : wpOp P ops Q i K' a w := by
  obtain ⟨hdst, e⟩ := e
  unfold wpOp
  rw [ho]
  dsimp only
  have putd : ∀ v, (a.put o.dst v).defers = [] := fun v => by cases hq : o.dst <;> simp [Act.put, hd]
  rcases e with ⟨hw, e⟩ | ⟨hw, e⟩
  · have hwa := awanted_ok ht hops hw
    rw [hwa]
    exact hK ρ _ h _ w (.refl _) (putd _) (ht.put hdst (Rel.undef ρ)) hs ⟨_, rfl⟩ e
  · have hwa := awanted_ok ht hops hw
    rw [hwa, if_pos rfl]
    left
    unfold Oper.wp
    rcases e with ⟨_, v, h', e1, e2⟩ | ⟨f, args, tys, g, first, captured, hop, hf, ⟨fn, hfn, hnm, hbody⟩, hcall⟩
    · obtain ⟨ρ', v', w', q1, q2, q3, q4⟩ := aop_ok (P := P) hs ht.eval e1
      rcases q4 with q4 | ⟨q4, q5⟩
      · rw [q4, Oper.upon_value]
        exact hK ρ' _ h' _ w' q1 (putd _) ((ht.mono q1).put hdst q2) q3 ⟨_, rfl⟩ e2
      · rw [q4, Oper.upon_skip]
        subst q5
        exact hK ρ' _ h' _ w' q1 (putd _) ((ht.mono q1).put hdst q2) q3 ⟨_, rfl⟩ e2
    · have hrf := ht.eval f
      rw [hf] at hrf
      generalize hE : a.eval f = ef at hrf
      cases hrf with
      | func fn' xs xs' cs cs' hreal h1 h2 h3 h4 =>
        have hargs : RelL ρ (first.toList ++ args.toList.map (evalO t) ++ captured.toList) (xs' ++ args.map a.eval ++ cs').toList := by
          rw [Array.toList_append, Array.toList_append]
          refine RelL.append (RelL.append (Rel.agg_list h1 h3) ⟨by simp, fun i x y hx hy => ?_⟩) (Rel.agg_list h2 h4)
          simp only [Array.toList_map, List.getElem?_map, Option.map_eq_some_iff] at hx hy
          obtain ⟨u, hu, rfl⟩ := hx
          obtain ⟨u', hu', rfl⟩ := hy
          rw [hu] at hu'; cases hu'
          exact ht.eval u
        have hc := hcall B w0 ρ w _ hs hargs
        have hbn : ¬ fn.body = none := by cases hb : fn.body <;> simp_all
        have hnm' : ¬ fn.name = "runtime.NumGoroutine" := by simpa using hnm
        have hex : (execOp a.eval o).run P w = .ok (.enter g (xs' ++ args.map a.eval ++ cs')) w := by
          simp [execOp, hop, resolve, Deferred.ofValue, hE, invoke, callFunc, hfn, hnm', hbn]
        rw [hex, Oper.upon_enter]
        refine hc.mono fun e' w'' ⟨ρ', v, v', h', q1, q2, q3, q4, q5⟩ => ?_
        subst q2
        exact hK ρ' _ h' _ w'' q1 (putd _) ((ht.mono q1).put hdst q3) q4 ⟨_, rfl⟩ q5

/-- Operations in a row. -/
def awpL (P : Program) (n : Nat) (ops : Array Oper) (K : Ts → Heap → Prop) : List Oper → Ts → Heap → Prop
  | [], t, h => K t h
  | o :: rest, t, h => aStep P n ops o (awpL P n ops K rest) t h

theorem awpL_ok {P : Program} {B : Fr} {w0 : World} {n : Nat} {ops : Array Oper} (hops : ∀ o ∈ ops, dstOk n o = true) {K : Ts → Heap → Prop} {Q : Exit → Act → World → Prop} (l : List Oper) :
    ∀ (k : Nat) (_ : ∀ j, l[j]? = if j < l.length then ops[k + j]? else none) {ρ : Ren} {t : Ts} {h : Heap} {a : Act} {w : World}, Sim B w0 ρ h w → TRel ρ n t a.tmps → a.defers = [] →
      (∀ ρ' t' h' a' w', ρ.le ρ' → a'.defers = [] → TRel ρ' n t' a'.tmps → Sim B w0 ρ' h' w' → K t' h' → Q .normal a' w') →
      awpL P n ops K l t h → wpOps P ops Q (List.range' k l.length) a w := by
  induction l with
  | nil => intro k _ ρ t h a w hs ht hd hK e; simpa [wpOps] using hK ρ t h a w (.refl _) hd ht hs e
  | cons o l ih =>
    intro k hl ρ t h a w hs ht hd hK e
    have ho : ops[k]? = some o := by have := hl 0; simpa using this.symm
    rw [List.length_cons, List.range'_succ, wpOps_cons]
    refine aStep_ok hops ho hs ht hd (fun ρ' t' h' a' w' q1 q2 q3 q4 _ q5 => ?_) e
    refine ih (k + 1) (fun j => ?_) q4 q3 q2 (fun ρ2 t2 h2 a2 w2 r1 r2 r3 r4 r5 => hK ρ2 t2 h2 a2 w2 (q1.trans r1) r2 r3 r4 r5) q5
    have := hl (j + 1)
    simp only [List.getElem?_cons_succ, List.length_cons, Nat.add_lt_add_iff_right] at this
    rw [this, Nat.add_assoc, Nat.add_comm 1 j]

theorem region_ok {P : Program} {B : Fr} {w0 : World} {n : Nat} {id : Nat} {ops : Array Oper} (hops : ops.toList.all (dstOk n) = true) {K : Ts → Heap → Prop} {Q : Exit → Act → World → Prop}
    {ρ : Ren} {t : Ts} {h : Heap} {a : Act} {w : World} (hs : Sim B w0 ρ h w) (ht : TRel ρ n t a.tmps) (hd : a.defers = [])
    (hK : ∀ ρ' t' h' a' w', ρ.le ρ' → a'.defers = [] → TRel ρ' n t' a'.tmps → Sim B w0 ρ' h' w' → K t' h' → Q .normal a' w')
    (e : awpL P n ops K ops.toList t h) : (Code.region id ops false).wp P Q a w := by
  refine wp_region ?_
  have := awpL_ok (P := P) (fun o ho => List.all_eq_true.1 hops o (by simpa using ho)) ops.toList 0 (fun j => by
    by_cases q : j < ops.size
    · simp [q]
    · simp [q]) hs ht hd hK e
  simpa [List.range_eq_range'] using this

end Go.Ax
