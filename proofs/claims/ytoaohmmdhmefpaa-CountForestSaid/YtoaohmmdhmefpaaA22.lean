/- Ax, part 22: what is owed of code, by the small words; sound. -/
import Derived.Test.YtoaohmmdhmefpaaA21
namespace Go.Ax
open Go.RowKit

/-- A call of a function that is a value. -/
def callW (P : Program) (f : Value) (args : List Value) (h : Heap) (K : Value → Heap → Prop) : Prop :=
  ∃ g first captured, f = .func (.func g) first captured ∧ acall P g (first.toList ++ args ++ captured.toList) h K

/-- One operation that is carried out. -/
def stepS (P : Program) (o : Oper) (l : TL) (h : Heap) (K : Value → Heap → Prop) : Prop :=
  match o.op with
  | .call c => match c.callee with
    | .value f => callW P (evalO (tsOf l) f) (c.args.toList.map (evalO (tsOf l))) h K
    | _ => opW P l h o.op K
  | op => opW P l h op K

abbrev Kn := List (Nat × Option Bool)

/-- Is an operation carried out? What its guard is is remembered. -/
def guardS (ops : Array Oper) (o : Oper) (kn : Kn) (l : TL) (exec skip : Kn → TL → Prop) : Prop :=
  match o.guard with
  | none => exec kn l
  | some (j, want) => match kn.lookup j with
    | some (some p) => bif p == want then exec kn l else skip kn l
    | some none => skip kn l
    | none => match (ops[j]?).bind (·.dst) with
      | none => False
      | some d => bW (l.getD d undef) (bif true == want then exec ((j, some true) :: kn) (l.set d (.bool true)) else skip ((j, some true) :: kn) (l.set d (.bool true)))
          (bif false == want then exec ((j, some false) :: kn) (l.set d (.bool false)) else skip ((j, some false) :: kn) (l.set d (.bool false)))

/-- What is remembered, behind a turned slot. -/
def knPut (ops : Array Oper) (kn : Kn) (o : Oper) : Kn := kn.filter fun x => !((ops[x.1]?).bind (·.dst) == o.dst)

/-- .. and an operation that was not carried out. -/
def knSkip (ops : Array Oper) (kn : Kn) (i : Nat) (o : Oper) : Kn :=
  match o.dst with
  | some _ => (i, none) :: knPut ops kn o
  | none => knPut ops kn o

/-- A choice that is known. -/
def pickK (ops : Array Oper) (o : Oper) (i : Nat) (kn : Kn) (l : TL) : Option (Kn × Value) :=
  match o.op with
  | .pick (.tmp s) a b => match kn.find? fun x => (ops[x.1]?).bind (·.dst) == some s with
    | some (_, some p) => match bif p then a else b, o.dst with
      | .const (.bool q), some _ => some ((i, some q) :: knPut ops kn o, .bool q)
      | x, _ => some (knPut ops kn o, evalO (tsOf l) x)
    | _ => none
  | .move (.tmp s) => match kn.find? fun x => (ops[x.1]?).bind (·.dst) == some s with
    | some (_, some p) => match o.dst with
      | some _ => some ((i, some p) :: knPut ops kn o, .bool p)
      | none => none
    | _ => none
  | _ => none

/-- Operations in a row. -/
def swpL (P : Program) (ops : Array Oper) : List Oper → Nat → Kn → TL → Heap → (TL → Heap → Prop) → Prop
  | [], _, _, l, h, K => K l h
  | o :: rest, i, kn, l, h, K => guardS ops o kn l
      (fun kn l => match pickK ops o i kn l with
        | some (kn', v) => swpL P ops rest (i + 1) kn' (putL l o.dst v) h K
        | none => stepS P o l h fun v h' => swpL P ops rest (i + 1) (knPut ops kn o) (putL l o.dst v) h' K)
      (fun kn l => swpL P ops rest (i + 1) (knSkip ops kn i o) (putL l o.dst undef) h K)

/-- The addresses at which a quiet operation looks; none: it may turn the heap. -/
def qdep (l : TL) (o : Op) : Option (List Value) :=
  match o with
  | .move _ | .assign _ | .pick _ _ _ | .nilCheck _ | .binOp _ _ _ _ _ | .unOp _ _ _ | .makeFunc _ _ _ | .fieldAddr _ _ _ | .field _ _ _ | .indexAddr _ _ _
  | .index _ _ _ | .extract _ _ | .makeInterface _ _ | .build _ _ => some []
  | .load _ a => some [evalO (tsOf l) a]
  | .lookup _ m _ _ => some [evalO (tsOf l) m]
  | .slice _ x _ _ _ => some [evalO (tsOf l) x]
  | .call c => match c.callee with
    | .builtin .len => some (c.args.toList.map (evalO (tsOf l)))
    | .builtin .max | .builtin .min => some []
    | _ => none
  | _ => none

/-- Nothing that lies at these addresses has turned. -/
def keptW (vs : List Value) (h h' : Heap) : Prop := ∀ v ∈ vs, ∀ r, ptrId v = some r → h'[r]? = h[r]?

def lateW (P : Program) (ops : Array Oper) (l : TL) (i : Nat) : Prop :=
  match ops[i]? with
  | some o => match o.dst with
    | some d => match isUnd (l.getD d undef) with
      | true => match o.op with
        | .alloc e => match tinfo P e with
          | some (_, z, _, _) => match okVal (constV z) with
            | true => True
            | false => False
          | none => False
        | .buildSlice ty len ps => match buildSliceR P ty len (ps.toList.map fun p => (p.1, evalO (tsOf l) p.2)) with
          | some (z, qs) => (fillL z qs).isSome = true
          | none => False
        | _ => False
      | false => False
    | none => False
  | none => False
def lateWs (P : Program) (ops : Array Oper) (l : TL) : List Nat → Prop
  | [] => True
  | [i] => lateW P ops l i
  | i :: L => lateW P ops l i ∧ lateWs P ops l L

abbrev Lp := List (Nat × List Value)
def keptL (ops : Array Oper) (rest : List (Nat × Option (List Nat))) (i : Nat) (lp : Lp) : Lp :=
  lp.filter fun x => !(afterB ops x.1 i && rest.all fun y => afterB ops x.1 y.1)

/-- Behind a heavy operation: what was leant upon has not turned. -/
def keepW (vs : List Value) (h h' : Heap) (K : Prop) : Prop :=
  match vs with
  | [] => K
  | v :: vs => keptW (v :: vs) h h' ∧ K

/-- Operations by a plan. -/
def swpP (P : Program) (ops : Array Oper) : List (Nat × Option (List Nat)) → Kn → Lp → TL → Heap → (TL → Heap → Prop) → Prop
  | [], _, _, l, h, K => K l h
  | (i, none) :: rest, kn, lp, l, h, K => match ops[i]? with
    | none => False
    | some o => guardS ops o kn l
      (fun kn l => match pickK ops o i kn l with
        | some (kn', v) => swpP P ops rest kn' lp (putL l o.dst v) h K
        | none => match qdep l o.op with
        | none => False
        | some [] => opW P l h o.op fun v _ => swpP P ops rest (knPut ops kn o) lp (putL l o.dst v) h K
        | some xs => opW P l h o.op fun v _ => swpP P ops rest (knPut ops kn o) ((i, xs) :: lp) (putL l o.dst v) h K)
      (fun kn l => swpP P ops rest (knSkip ops kn i o) lp (putL l o.dst undef) h K)
  | (i, some L) :: rest, kn, lp, l, h, K => match ops[i]? with
    | none => False
    | some o => match L with
      | [] => guardS ops o kn l
        (fun kn l => stepS P o l h fun v h' => keepW ((keptL ops rest i lp).flatMap (·.2)) h h' (swpP P ops rest (knPut ops kn o) (keptL ops rest i lp) (putL l o.dst v) h' K))
        (fun kn l => swpP P ops rest (knSkip ops kn i o) lp (putL l o.dst undef) h K)
      | L => lateWs P ops l L ∧ guardS ops o kn l
        (fun kn l => stepS P o l h fun v h' => keepW ((keptL ops rest i lp).flatMap (·.2)) h h' (swpP P ops rest (knPut ops kn o) (keptL ops rest i lp) (putL l o.dst v) h' K))
        (fun kn l => swpP P ops rest (knSkip ops kn i o) lp (putL l o.dst undef) h K)

/-- Which slots live on at loops and joins, by the first region behind them. -/
structure Hints where
  loops : List (Nat × List Nat)
  joins : List (Nat × List Nat)

def firstR : Code → Option Nat
  | .region i _ _ => some i
  | .seq a b => match firstR a with
    | some i => some i
    | none => firstR b
  | .cond _ a b => match firstR a with
    | some i => some i
    | none => firstR b
  | .block _ c | .loop c | .scope c => firstR c
  | _ => none

def keepL (live : List Nat) (l : TL) : List Value := live.map fun i => l.getD i undef
def spreadL : Nat → Nat → List Nat → List Value → TL
  | 0, _, _, _ => []
  | n + 1, i, j :: live, v :: vs => bif i == j then v :: spreadL n (i + 1) live vs else und :: spreadL n (i + 1) (j :: live) (v :: vs)
  | n + 1, i, live, vs => und :: spreadL n (i + 1) live vs
/-- For all rows of so many values. -/
def allV : Nat → (List Value → Prop) → Prop
  | 0, F => F []
  | m + 1, F => ∀ x, allV m fun xs => F (x :: xs)

def thenS (F : TL → Heap → Prop) (Q : Ex → TL → Heap → Prop) : Ex → TL → Heap → Prop
  | .normal, l, h => F l h
  | e, l, h => Q e l h
def blockS (id : Nat) (Q : Ex → TL → Heap → Prop) : Ex → TL → Heap → Prop
  | .exit i, l, h => bif i == id then Q .normal l h else Q (.exit i) l h
  | e, l, h => Q e l h

def swp (P : Program) (n : Nat) (h0 : Heap) (H : Hints) : Code → (Ex → TL → Heap → Prop) → TL → Heap → Prop
  | .skip, Q, l, h => Q .normal l h
  | .region _ ops false, Q, l, h => swpL P ops ops.toList 0 [] l h (Q .normal)
  | .region _ ops true, Q, l, h => swpP P ops (planOf n ops) [] [] (undPL ops (planOf n ops) l) h (Q .normal)
  | .seq a b, Q, l, h => match (firstR b).bind fun i => List.lookup i H.joins with
    | none => swp P n h0 H a (thenS (swp P n h0 H b Q) Q) l h
    | some live => ∃ M : List Value → Heap → Prop, swp P n h0 H a (thenS (fun l h => gcL h0 M (keepL live l) h) Q) l h ∧
        allV live.length fun vs => ∀ h, M vs h → swp P n h0 H b Q (spreadL n 0 live vs) h
  | .cond c x y, Q, l, h => bW (evalO (tsOf l) c) (swp P n h0 H x Q l h) (swp P n h0 H y Q l h)
  | .block id c, Q, l, h => swp P n h0 H c (blockS id Q) l h
  | .loop c, Q, l, h => match (firstR c).bind fun i => List.lookup i H.loops with
    | none => False
    | some live => ∃ (I : Nat → List Value → Heap → Prop) (k : Nat), gcL h0 (I k) (keepL live l) h ∧
        ∀ k, allV live.length fun vs => ∀ h, I k vs h → swp P n h0 H c (thenS (fun l' h' => ∃ m, m < k ∧ gcL h0 (I m) (keepL live l') h') Q) (spreadL n 0 live vs) h
  | .exit id, Q, l, h => Q (.exit id) l h
  | .label _, Q, l, h => Q .normal l h
  | .scope c, Q, l, h => swp P n h0 H c Q l h
  | .ret, Q, l, h => Q .ret l h
  | _, _, _, _ => False

/-- What of code is to be looked at but once. -/
def okCode (n : Nat) : Code → Bool
  | .region _ ops draw => ops.toList.all (dstOk n) && (!draw || planOk n ops (planOf n ops) (Array.replicate ops.size false))
  | .seq a b => okCode n a && okCode n b
  | .cond _ a b => okCode n a && okCode n b
  | .block _ c | .loop c | .scope c => okCode n c
  | _ => true

section
variable {P : Program} {n : Nat}

theorem stepS_ok {ops : Array Oper} {o : Oper} {l : TL} {h : Heap} {K : Value → Heap → Prop} (hd : dstOk n o = true) (hl : l.length = n) (hw : awanted ops (tsOf l) o = some true) (e : stepS P o l h K) :
    aStep P n ops o (fun t' h' => ∃ v, t' = tsOf (putL l o.dst v) ∧ K v h') (tsOf l) h := by
  have hdl : ∀ k, o.dst = some k → k < l.length := fun k hk => by
    unfold dstOk at hd; rw [hk] at hd; rw [hl]; simpa using hd
  have hop : notCall o.op = true → opW P l h o.op K → aStep P n ops o (fun t' h' => ∃ v, t' = tsOf (putL l o.dst v) ∧ K v h') (tsOf l) h := fun hn e => by
    obtain ⟨v, h', e1, e2⟩ := opW_ok e
    exact ⟨hd, .inr ⟨hw, .inl ⟨hn, v, h', e1, v, (tsOf_put v hdl).symm, e2⟩⟩⟩
  unfold stepS at e
  split at e
  · rename_i c hc
    split at e
    · rename_i f hf
      obtain ⟨g, first, captured, e1, e2⟩ := e
      obtain ⟨callee, args, tys⟩ := c
      dsimp only at hf; subst hf
      exact ⟨hd, .inr ⟨hw, .inr ⟨f, args, tys, g, first, captured, hc, e1, e2.mono fun v h' k => ⟨v, (tsOf_put v hdl).symm, k⟩⟩⟩⟩
    · rename_i hne
      refine hop ?_ e
      rw [hc]
      obtain ⟨callee, args, tys⟩ := c
      cases callee <;> first | rfl | exact absurd rfl (hne _)
  · rename_i hne
    refine hop ?_ e
    cases hq : o.op <;> first | rfl | exact absurd hq (hne _)

/-- What is remembered is so. -/
def KnOk (ops : Array Oper) (kn : Kn) (l : TL) : Prop :=
  ∀ x ∈ kn, ∃ d, (ops[x.1]?).bind (·.dst) = some d ∧ match x.2 with
    | some p => l.getD d undef = .bool p
    | none => l.getD d undef = undef

theorem lookup_mem {kn : Kn} {j : Nat} {p : Option Bool} (h : kn.lookup j = some p) : (j, p) ∈ kn := by
  induction kn with
  | nil => cases h
  | cons x kn ih =>
    obtain ⟨a, b⟩ := x
    simp only [List.lookup_cons] at h
    split at h
    · rename_i e; cases h; simp at e; subst e; simp
    · exact List.mem_cons_of_mem _ (ih h)

theorem set_same {l : TL} {d : Nat} {v : Value} (h : l.getD d undef = v) (hv : v ≠ undef) : l.set d v = l := by
  by_cases hd : d < l.length
  · rw [List.getD_eq_getElem?_getD, List.getElem?_eq_getElem hd, Option.getD_some] at h
    subst h; exact List.set_getElem_self hd
  · rw [List.getD_eq_getElem?_getD, List.getElem?_eq_none (by omega)] at h
    exact absurd h.symm hv

theorem guardS_ok {ops : Array Oper} {o : Oper} {kn : Kn} {l : TL} {exec skip : Kn → TL → Prop} (hk : KnOk ops kn l) (e : guardS ops o kn l exec skip) :
    ∃ kn', KnOk ops kn' l ∧ ((awanted ops (tsOf l) o = some true ∧ exec kn' l) ∨ (awanted ops (tsOf l) o = some false ∧ skip kn' l)) := by
  unfold guardS at e
  split at e
  · rename_i hg; exact ⟨kn, hk, .inl ⟨by simp [awanted, hg], e⟩⟩
  · rename_i j want hg
    split at e
    · rename_i p hp
      obtain ⟨d, h1, h2⟩ := hk _ (lookup_mem hp)
      dsimp only at h1 h2
      have ha : awanted ops (tsOf l) o = some (p == want) := by
        have : tsOf l d = .bool p := h2
        simp [awanted, hg, h1, this, yv]
      refine ⟨kn, hk, ?_⟩
      cases hq : p == want with
      | true => rw [hq] at e ha; exact .inl ⟨ha, e⟩
      | false => rw [hq] at e ha; exact .inr ⟨ha, e⟩
    · rename_i hp
      obtain ⟨d, h1, h2⟩ := hk _ (lookup_mem hp)
      dsimp only at h1 h2
      refine ⟨kn, hk, .inr ⟨?_, e⟩⟩
      have : tsOf l d = undef := h2
      simp [awanted, hg, h1, this, yv, undef]
    · split at e
      · exact e.elim
      · rename_i d hd
        obtain ⟨p, h1, h2, h3⟩ := e
        have ha : awanted ops (tsOf l) o = some (p == want) := by
          have : tsOf l d = .bool p := h1
          simp [awanted, hg, hd, this, yv]
        have hs := set_same h1 (by simp [undef])
        have hkn : KnOk ops ((j, some p) :: kn) l := fun x hx => by
          rcases List.mem_cons.1 hx with rfl | hx
          · exact ⟨d, hd, h1⟩
          · exact hk x hx
        refine ⟨(j, some p) :: kn, hkn, ?_⟩
        cases p with
        | true =>
          have e := h2 rfl
          rw [hs] at e
          cases hq : true == want with
          | true => rw [hq] at e ha; exact .inl ⟨ha, e⟩
          | false => rw [hq] at e ha; exact .inr ⟨ha, e⟩
        | false =>
          have e := h3 rfl
          rw [hs] at e
          cases hq : false == want with
          | true => rw [hq] at e ha; exact .inl ⟨ha, e⟩
          | false => rw [hq] at e ha; exact .inr ⟨ha, e⟩

theorem KnOk.put {ops : Array Oper} {kn : Kn} {l : TL} (hk : KnOk ops kn l) (o : Oper) (v : Value) : KnOk ops (knPut ops kn o) (putL l o.dst v) := by
  intro x hx
  obtain ⟨h1, h2⟩ := List.mem_filter.1 hx
  obtain ⟨d, h3, h4⟩ := hk x h1
  refine ⟨d, h3, ?_⟩
  have hne : (putL l o.dst v).getD d undef = l.getD d undef := by
    cases hd : o.dst with
    | none => rfl
    | some k =>
      have : k ≠ d := fun e => by rw [h3, hd, e] at h2; simp at h2
      simp [putL, List.getElem?_set_ne this]
  rw [hne]; exact h4

theorem KnOk.skip {ops : Array Oper} {kn : Kn} {l : TL} (hk : KnOk ops kn l) {i : Nat} {o : Oper} (ho : ops[i]? = some o) (hd : dstOk l.length o = true) : KnOk ops (knSkip ops kn i o) (putL l o.dst undef) := by
  intro x hx
  unfold knSkip at hx
  split at hx
  · rename_i d hdst
    rcases List.mem_cons.1 hx with rfl | hx
    · refine ⟨d, by rw [ho]; exact hdst, ?_⟩
      unfold dstOk at hd
      rw [hdst] at hd
      have : d < l.length := by simpa using hd
      rw [hdst]; simp [putL, this]
    · exact hk.put o undef x hx
  · exact hk.put o undef x hx

theorem pickK_ok {ops : Array Oper} {o : Oper} {i : Nat} {kn kn' : Kn} {l : TL} {v : Value} (hk : KnOk ops kn l) (ho : ops[i]? = some o) (hd : dstOk l.length o = true) (e : pickK ops o i kn l = some (kn', v)) :
    notCall o.op = true ∧ (∀ h, aop P (tsOf l) h o.op = some (v, h)) ∧ KnOk ops kn' (putL l o.dst v) := by
  unfold pickK at e
  split at e
  · rename_i s a b hop
    split at e
    · rename_i j p hf
      have hm := List.mem_of_find?_eq_some hf
      have hj : (ops[j]?).bind (·.dst) = some s := by simpa using List.find?_some hf
      obtain ⟨d, h1, h2⟩ := hk _ hm
      dsimp only at h1 h2
      rw [hj] at h1; cases h1
      have hs : tsOf l s = .bool p := h2
      have hop2 : ∀ h, aop P (tsOf l) h o.op = some (evalO (tsOf l) (bif p then a else b), h) := fun h => by
        rw [hop]
        refine aop_0 rfl ?_
        simp only [aop0, evalO]
        rw [hs]
        cases p <;> rfl
      split at e
      · rename_i q d hx hdst
        simp only [Option.some.injEq, Prod.mk.injEq] at e
        obtain ⟨rfl, rfl⟩ := e
        refine ⟨by rw [hop]; rfl, fun h => by rw [hop2, hx]; rfl, fun x hx => ?_⟩
        rcases List.mem_cons.1 hx with rfl | hx
        · refine ⟨d, by rw [ho]; exact hdst, ?_⟩
          unfold dstOk at hd
          rw [hdst] at hd
          have : d < l.length := by simpa using hd
          rw [hdst]; simp [putL, this]
        · exact hk.put o _ x hx
      · simp only [Option.some.injEq, Prod.mk.injEq] at e
        obtain ⟨rfl, rfl⟩ := e
        exact ⟨by rw [hop]; rfl, hop2, hk.put o _⟩
    · cases e
  · rename_i s hop
    split at e
    · rename_i j p hf
      have hm := List.mem_of_find?_eq_some hf
      have hj : (ops[j]?).bind (·.dst) = some s := by simpa using List.find?_some hf
      obtain ⟨d, h1, h2⟩ := hk _ hm
      dsimp only at h1 h2
      rw [hj] at h1; cases h1
      have hs : tsOf l s = .bool p := h2
      split at e
      · rename_i d hdst
        simp only [Option.some.injEq, Prod.mk.injEq] at e
        obtain ⟨rfl, rfl⟩ := e
        refine ⟨by rw [hop]; rfl, fun h => by rw [hop]; refine aop_0 rfl ?_; simp only [aop0, evalO]; rw [hs], fun x hx => ?_⟩
        rcases List.mem_cons.1 hx with rfl | hx
        · refine ⟨d, by rw [ho]; exact hdst, ?_⟩
          unfold dstOk at hd
          rw [hdst] at hd
          have : d < l.length := by simpa using hd
          rw [hdst]; simp [putL, this]
        · exact hk.put o _ x hx
      · cases e
    · cases e
  · cases e

/-- Where a piece of code ends. -/
def Lf (n : Nat) (K : TL → Heap → Prop) (t : Ts) (h : Heap) : Prop := ∃ l, l.length = n ∧ t = tsOf l ∧ K l h

theorem swpL_ok {ops : Array Oper} {K : TL → Heap → Prop} : ∀ (os : List Oper) (i : Nat) {kn : Kn} {l : TL} {h : Heap}, (∀ j, os[j]? = if j < os.length then ops[i + j]? else none) → os.all (dstOk n) = true → l.length = n → KnOk ops kn l →
    swpL P ops os i kn l h K → awpL P n ops (Lf n K) os (tsOf l) h := by
  intro os
  induction os with
  | nil => intro i kn l h _ _ hl _ e; exact ⟨l, hl, rfl, e⟩
  | cons o os ih =>
    intro i kn l h hos hd hl hk e
    simp only [List.all_cons, Bool.and_eq_true] at hd
    have ho : ops[i]? = some o := by have := hos 0; simpa using this.symm
    have hos' : ∀ j, os[j]? = if j < os.length then ops[i + 1 + j]? else none := fun j => by
      have := hos (j + 1)
      simp only [List.getElem?_cons_succ, List.length_cons, Nat.add_lt_add_iff_right] at this
      rw [this, Nat.add_assoc, Nat.add_comm 1 j]
    obtain ⟨kn', hk', ⟨hw, e⟩ | ⟨hw, e⟩⟩ := guardS_ok hk e
    · split at e
      · rename_i kn2 v hp
        obtain ⟨p1, p2, p3⟩ := pickK_ok (P := P) hk' ho (hl ▸ hd.1) hp
        have hdl : ∀ k, o.dst = some k → k < l.length := fun k hk => by
          have := hd.1; unfold dstOk at this; rw [hk] at this; rw [hl]; simpa using this
        refine ⟨hd.1, .inr ⟨hw, .inl ⟨p1, v, h, p2 h, ?_⟩⟩⟩
        rw [← tsOf_put _ hdl]
        exact ih (i + 1) hos' hd.2 (by simp [hl]) p3 e
      · refine aStep_mono (fun t' h' ⟨v, q, e⟩ => ?_) (stepS_ok hd.1 hl hw e)
        subst q
        exact ih (i + 1) hos' hd.2 (by simp [hl]) (hk'.put o v) e
    · have hdl : ∀ k, o.dst = some k → k < l.length := fun k hk => by
        have := hd.1; unfold dstOk at this; rw [hk] at this; rw [hl]; simpa using this
      refine ⟨hd.1, .inl ⟨hw, ?_⟩⟩
      rw [← tsOf_put _ hdl]
      exact ih (i + 1) hos' hd.2 (by simp [hl]) (hk'.skip ho (hl ▸ hd.1)) e

theorem qdep_quiet {l : TL} {o : Op} {xs : List Value} (h : qdep l o = some xs) : quietDep (tsOf l) o = some (xs.flatMap fun x => optL (ptrId x)) ∧ notCall o = true := by
  unfold qdep at h
  split at h <;> first
    | (cases h; done)
    | (cases h; simp [quietDep, notCall]; done)
    | skip
  rename_i c
  obtain ⟨callee, args, tys⟩ := c
  dsimp only at h
  split at h
  · cases h
    simp [quietDep, notCall, List.flatMap_map]
  · cases h; simp [quietDep, notCall]
  · cases h; simp [quietDep, notCall]
  · cases h

theorem mem_dep {xs : List Value} {k : Nat} : k ∈ (xs.flatMap fun x => optL (ptrId x)) ↔ ∃ v ∈ xs, ptrId v = some k := by
  rw [List.mem_flatMap]
  constructor
  · rintro ⟨v, hv, hk⟩
    refine ⟨v, hv, ?_⟩
    cases hp : ptrId v with
    | none => rw [hp] at hk; cases hk
    | some i => rw [hp] at hk; simp [optL] at hk; rw [hk]
  · rintro ⟨v, hv, hk⟩
    exact ⟨v, hv, by rw [hk]; simp [optL]⟩

theorem lateW_ok {ops : Array Oper} {l : TL} : ∀ {L : List Nat}, lateWs P ops l L → ∀ i ∈ L, ∃ o d data, ops[i]? = some o ∧ o.dst = some d ∧ tsOf l d = und ∧ lateA P (tsOf l) o.op = some data := by
  have one : ∀ {i}, lateW P ops l i → ∃ o d data, ops[i]? = some o ∧ o.dst = some d ∧ tsOf l d = und ∧ lateA P (tsOf l) o.op = some data := fun {i} h => by
    unfold lateW at h
    split at h
    · rename_i o ho
      split at h
      · rename_i d hd
        split at h
        case h_2 => exact h.elim
        rename_i hu
        have hl : (lateA P (tsOf l) o.op).isSome = true := by
          split at h
          · rename_i e he
            rw [he]
            unfold lateA
            dsimp only
            split at h
            · rename_i hty
              split at h
              · rename_i hok; simp only [hty, if_pos hok, Option.isSome_some]
              · exact h.elim
            · exact h.elim
          · rename_i ty len ps he
            rw [he]
            split at h
            · rename_i z qs hb
              unfold buildSliceR at hb
              unfold lateA
              dsimp only
              split at hb
              · rename_i hty
                split at hb
                · rename_i hte
                  split at hb
                  · rename_i hc
                    split at hb
                    · rename_i qs' hq
                      cases hb
                      simp only [hty, hte, if_pos hc]
                      rw [placeL_eq hq]
                      simpa using h
                    · cases hb
                  · cases hb
                · cases hb
              · cases hb
            · exact h.elim
          · exact h.elim
        obtain ⟨data, hdata⟩ := Option.isSome_iff_exists.1 hl
        exact ⟨o, d, data, ho, hd, isUnd_eq hu, hdata⟩
      · exact h.elim
    · exact h.elim
  intro L
  induction L with
  | nil => intro _ i hi; cases hi
  | cons x L ih =>
    intro h i hi
    cases L with
    | nil => rcases List.mem_cons.1 hi with rfl | hi; exact one h; cases hi
    | cons y L =>
      rcases List.mem_cons.1 hi with rfl | hi
      · exact one h.1
      · exact ih h.2 i hi

theorem keepW_ok {vs : List Value} {h h' : Heap} {K : Prop} (e : keepW vs h h' K) : keptW vs h h' ∧ K := by
  unfold keepW at e
  split at e
  · exact ⟨fun v hv => (by cases hv), e⟩
  · exact e

/-- What an operation has to leave alone. -/
def lpS (ops : Array Oper) (lp : Lp) (j : Nat) (h h2 : Heap) : Prop := ∀ x ∈ lp, afterB ops x.1 j = false → keptW x.2 h h2

theorem swpP_ok {ops : Array Oper} {K : TL → Heap → Prop} (hops : ops.toList.all (dstOk n) = true) : ∀ (plan : List (Nat × Option (List Nat))) {kn : Kn} {lp : Lp} {l : TL} {h : Heap} {S : Nat → Heap → Prop}, l.length = n → KnOk ops kn l →
    swpP P ops plan kn lp l h K → (∀ y ∈ plan, ∀ h2, lpS ops lp y.1 h h2 → S y.1 h2) → awpP P n ops (Lf n K) plan S (tsOf l) h := by
  intro plan
  induction plan with
  | nil => intro kn lp l h S hl _ e _; exact ⟨l, hl, rfl, e⟩
  | cons x plan ih =>
    intro kn lp l h S hl hk e hS
    obtain ⟨i, b⟩ := x
    cases b with
    | none =>
      simp only [swpP] at e
      split at e
      · exact e.elim
      · rename_i o ho
        have hd : dstOk n o = true := List.all_eq_true.1 hops o (by simpa using Array.mem_of_getElem? ho)
        have hdl : ∀ k, o.dst = some k → k < l.length := fun k hk => by
          have := hd; unfold dstOk at this; rw [hk] at this; rw [hl]; simpa using this
        obtain ⟨kn', hk', ⟨hw, e⟩ | ⟨hw, e⟩⟩ := guardS_ok hk e
        · split at e
          · rename_i kn2 v hp
            obtain ⟨p1, p2, p3⟩ := pickK_ok (P := P) hk' ho (hl ▸ hd) hp
            refine ⟨o, v, fun _ => True, ho, trivial, ⟨hd, .inl ⟨hw, p1, fun h2 _ => p2 h2⟩⟩, ?_⟩
            rw [← tsOf_put _ hdl]
            exact ih (by simp [hl]) p3 e fun y hy h2 hh => ⟨hS y (by simp [hy]) h2 hh, .inr trivial⟩
          split at e
          · exact e.elim
          · rename_i hq
            obtain ⟨hq1, hq2⟩ := qdep_quiet hq
            obtain ⟨v, h1, e1, e2⟩ := opW_ok e
            obtain ⟨p1, p2⟩ := quietDep_ok hq1 e1
            refine ⟨o, v, fun _ => True, ho, trivial, ⟨hd, .inl ⟨hw, hq2, fun h2 _ => p2 h2 (by simp)⟩⟩, ?_⟩
            rw [← tsOf_put _ hdl]
            exact ih (by simp [hl]) (hk'.put o v) e2 fun y hy h2 hh => ⟨hS y (by simp [hy]) h2 hh, .inr trivial⟩
          · rename_i xs _ hq
            obtain ⟨hq1, hq2⟩ := qdep_quiet hq
            obtain ⟨v, h1, e1, e2⟩ := opW_ok e
            obtain ⟨p1, p2⟩ := quietDep_ok hq1 e1
            refine ⟨o, v, fun h2 => keptW xs h h2, ho, fun _ _ _ _ => rfl, ⟨hd, .inl ⟨hw, hq2, fun h2 hh => p2 h2 fun k hk => ?_⟩⟩, ?_⟩
            · obtain ⟨v, hv, hp⟩ := mem_dep.1 hk
              exact hh v hv k hp
            rw [← tsOf_put _ hdl]
            refine ih (by simp [hl]) (hk'.put o v) e2 fun y hy h2 hh => ⟨hS y (by simp [hy]) h2 fun x hx => hh x (by simp [hx]), ?_⟩
            cases hb : afterB ops i y.1 with
            | true => exact .inl rfl
            | false => exact .inr (hh (i, xs) (by simp) hb)
        · refine ⟨o, undef, fun _ => True, ho, trivial, ⟨hd, .inr ⟨hw, rfl⟩⟩, ?_⟩
          rw [← tsOf_put _ hdl]
          exact ih (by simp [hl]) (hk'.skip ho (hl ▸ hd)) e fun y hy h2 hh => ⟨hS y (by simp [hy]) h2 hh, .inr trivial⟩
    | some L =>
      simp only [swpP] at e
      split at e
      · exact e.elim
      · rename_i o ho
        have hd : dstOk n o = true := List.all_eq_true.1 hops o (by simpa using Array.mem_of_getElem? ho)
        have hdl : ∀ k, o.dst = some k → k < l.length := fun k hk => by
          have := hd; unfold dstOk at this; rw [hk] at this; rw [hl]; simpa using this
        have e' : lateWs P ops l L ∧ guardS ops o kn l
            (fun kn l => stepS P o l h fun v h' => keepW ((keptL ops plan i lp).flatMap (·.2)) h h' (swpP P ops plan (knPut ops kn o) (keptL ops plan i lp) (putL l o.dst v) h' K))
            (fun kn l => swpP P ops plan (knSkip ops kn i o) lp (putL l o.dst undef) h K) := by
          split at e
          · exact ⟨trivial, e⟩
          · exact e
        obtain ⟨eL, e⟩ := e'
        refine ⟨lateW_ok eL, ?_⟩
        unfold aStepI
        rw [ho]
        obtain ⟨kn', hk', ⟨hw, e⟩ | ⟨hw, e⟩⟩ := guardS_ok hk e
        · refine aStep_mono (fun t' h' ⟨v, q, e⟩ => ?_) (stepS_ok hd hl hw e)
          subst q
          obtain ⟨q1, q2⟩ := keepW_ok e
          have kept : ∀ x ∈ lp, ∀ y : Nat, (y = i ∨ ∃ m, (y, m) ∈ plan) → afterB ops x.1 y = false → x ∈ keptL ops plan i lp := fun x hx y hy hb => by
            refine List.mem_filter.2 ⟨hx, ?_⟩
            rcases hy with rfl | ⟨m, hm⟩
            · rw [hb]; rfl
            · have : (plan.all fun y => afterB ops x.1 y.1) = false := by
                rw [List.all_eq_false]
                exact ⟨(y, m), hm, by rw [hb]; simp⟩
              rw [this]; simp
          refine ⟨hS (i, some L) (by simp) h' fun x hx hb => fun v hv r hr => q1 v (List.mem_flatMap.2 ⟨x, kept x hx i (.inl rfl) hb, hv⟩) r hr, ?_⟩
          refine ih (by simp [hl]) (hk'.put o v) q2 fun y hy h2 hh => hS y (by simp [hy]) h2 fun x hx hb v hv r hr => ?_
          have hxk := kept x hx y.1 (.inr ⟨y.2, hy⟩) hb
          exact (hh x hxk hb v hv r hr).trans (q1 v (List.mem_flatMap.2 ⟨x, hxk, hv⟩) r hr)
        · refine ⟨hd, .inl ⟨hw, ?_⟩⟩
          rw [← tsOf_put _ hdl]
          refine ⟨hS (i, some L) (by simp) h fun x hx hb v hv r hr => rfl, ?_⟩
          exact ih (by simp [hl]) (hk'.skip ho (hl ▸ hd)) e fun y hy h2 hh => hS y (by simp [hy]) h2 hh

end
end Go.Ax
