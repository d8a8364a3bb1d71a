/- Ax, part 23: what is owed of code by the small words is sound; a function's body. -/
import Derived.Test.YtoaohmmdhmefpaaA22
namespace Go.Ax
open Go.RowKit

section
variable {P : Program} {n : Nat}

theorem spread_wk (l : TL) : ∀ (m i : Nat) (live : List Nat) (k : Nat), (spreadL m i live (live.map fun j => l.getD j undef)).getD k undef = (if k < m then (spreadL m i live (live.map fun j => l.getD j undef)).getD k undef else undef) ∧
    (k < m → (spreadL m i live (live.map fun j => l.getD j undef)).getD k undef = l.getD (i + k) undef ∨ (spreadL m i live (live.map fun j => l.getD j undef)).getD k undef = und) := by
  intro m
  induction m with
  | zero => intro i live k; simp [spreadL]
  | succ m ih =>
    intro i live k
    cases live with
    | nil =>
      simp only [spreadL, List.map_nil]
      cases k with
      | zero => exact ⟨by simp, fun _ => .inr (by simp)⟩
      | succ k =>
        have := ih (i + 1) [] k
        simp only [List.map_nil] at this
        refine ⟨?_, fun hk => ?_⟩
        · simp only [List.getD_cons_succ, Nat.add_lt_add_iff_right]; exact this.1
        · simp only [List.getD_cons_succ]
          rw [show i + (k + 1) = i + 1 + k by omega]
          exact this.2 (by omega)
    | cons j live =>
      simp only [spreadL, List.map_cons]
      cases hb : i == j with
      | true =>
        simp only [cond_true]
        have e : i = j := by simpa using hb
        cases k with
        | zero => exact ⟨by simp, fun _ => .inl (by simp [e])⟩
        | succ k =>
          have := ih (i + 1) live k
          refine ⟨?_, fun hk => ?_⟩
          · simp only [List.getD_cons_succ, Nat.add_lt_add_iff_right]; exact this.1
          · simp only [List.getD_cons_succ]
            rw [show i + (k + 1) = i + 1 + k by omega]
            exact this.2 (by omega)
      | false =>
        simp only [cond_false]
        cases k with
        | zero => exact ⟨by simp, fun _ => .inr (by simp)⟩
        | succ k =>
          have := ih (i + 1) (j :: live) k
          simp only [List.map_cons] at this
          refine ⟨?_, fun hk => ?_⟩
          · simp only [List.getD_cons_succ, Nat.add_lt_add_iff_right]; exact this.1
          · simp only [List.getD_cons_succ]
            rw [show i + (k + 1) = i + 1 + k by omega]
            exact this.2 (by omega)

theorem spread_gv {fr : Nat → Prop} {r : Nat → Option Nat} {g : Heap} (l : TL) : ∀ (m i : Nat) (live : List Nat) (vs : List Value), GvL fr r g vs (live.map fun j => l.getD j undef) → ∀ k, k < m →
    Gv fr r g ((spreadL m i live vs).getD k undef) (l.getD (i + k) undef) := by
  intro m
  induction m with
  | zero => intro i live vs _ k hk; omega
  | succ m ih =>
    intro i live vs hg k hk
    cases live with
    | nil =>
      cases vs with
      | cons _ _ => exact hg.elim
      | nil =>
        simp only [spreadL]
        cases k with
        | zero => exact .und _
        | succ k =>
          have := ih (i + 1) [] [] trivial k (by omega)
          rw [show i + (k + 1) = i + 1 + k by omega]
          simpa using this
    | cons j live =>
      cases vs with
      | nil => exact hg.elim
      | cons v vs =>
        simp only [spreadL]
        cases hb : i == j with
        | true =>
          simp only [cond_true]
          have e : i = j := by simpa using hb
          cases k with
          | zero => subst e; exact hg.1
          | succ k =>
            have := ih (i + 1) live vs hg.2 k (by omega)
            rw [show i + (k + 1) = i + 1 + k by omega]
            simpa using this
        | false =>
          simp only [cond_false]
          cases k with
          | zero => exact .und _
          | succ k =>
            have := ih (i + 1) (j :: live) (v :: vs) hg k (by omega)
            rw [show i + (k + 1) = i + 1 + k by omega]
            simpa using this

theorem length_spreadL : ∀ (m i : Nat) (live : List Nat) (vs : List Value), (spreadL m i live vs).length = m
  | 0, _, _, _ => rfl
  | m + 1, i, [], vs => by simp [spreadL, length_spreadL m]
  | m + 1, i, j :: live, [] => by simp [spreadL, length_spreadL m]
  | m + 1, i, j :: live, v :: vs => by
    simp only [spreadL]
    cases i == j <;> simp [length_spreadL m]

theorem spread_Wk {l : TL} (live : List Nat) (hl : l.length = n) : Wk (tsOf l) (tsOf (spreadL n 0 live (keepL live l))) := by
  intro k
  unfold tsOf keepL
  by_cases hk : k < n
  · have := (spread_wk l n 0 live k).2 hk
    rw [Nat.zero_add] at this
    exact this
  · left
    rw [List.getD_eq_getElem?_getD, List.getD_eq_getElem?_getD, List.getElem?_eq_none (by rw [length_spreadL]; omega), List.getElem?_eq_none (by omega)]

theorem gcL_gcT {h0 : Heap} {F : List Value → Heap → Prop} {l : TL} {live : List Nat} {h : Heap} (hl : l.length = n) (e : gcL h0 F (keepL live l) h) :
    gcT h0 (fun t h => ∃ vs, vs.length = live.length ∧ t = tsOf (spreadL n 0 live vs) ∧ F vs h) (tsOf l) h := by
  rcases e with e | ⟨fr, r, vs2, h2, g1, g2, g3⟩
  · exact .inl ⟨_, spread_Wk live hl, keepL live l, by simp [keepL], rfl, e⟩
  · refine .inr ⟨fr, r, _, h2, g1, fun i => ?_, vs2, by have := g2.length; simpa [keepL] using this, rfl, g3⟩
    unfold tsOf
    by_cases hi : i < n
    · have := spread_gv l n 0 live vs2 g2 i hi
      rwa [Nat.zero_add] at this
    · rw [List.getD_eq_getElem?_getD, List.getD_eq_getElem?_getD, List.getElem?_eq_none (by rw [length_spreadL]; omega), List.getElem?_eq_none (by omega)]
      exact .cl (.tuple _ (by simp) (by simp))

theorem allV_app : ∀ {m : Nat} {F : List Value → Prop}, allV m F → ∀ vs : List Value, vs.length = m → F vs
  | 0, _, h, vs, hv => by cases vs with
    | nil => exact h
    | cons _ _ => cases hv
  | m + 1, _, h, vs, hv => by cases vs with
    | nil => cases hv
    | cons x vs => exact allV_app (h x) vs (by simpa using hv)

/-- Where code ends. -/
def Le (n : Nat) (Q : Ex → TL → Heap → Prop) (e : Exit) (t : Ts) (h : Heap) : Prop := ∃ x l, e = Ex.exit_ x ∧ l.length = n ∧ t = tsOf l ∧ Q x l h

theorem awp_mono {h0 : Heap} {c : Code} : ∀ {Q Q' : Exit → Ts → Heap → Prop}, (∀ e t h, Q e t h → Q' e t h) → ∀ {t : Ts} {h : Heap}, awp P n h0 c Q t h → awp P n h0 c Q' t h := by
  induction c with
  | skip => intro Q Q' hq t h e; exact hq _ _ _ e
  | region id ops draw =>
    intro Q Q' hq t h e
    have hL : ∀ {os : List Oper} {t h}, awpL P n ops (Q .normal) os t h → awpL P n ops (Q' .normal) os t h := by
      intro os
      induction os with
      | nil => intro t h e; exact hq _ _ _ e
      | cons o os ih => intro t h e; exact aStep_mono (fun _ _ => ih) e
    have hP : ∀ {pl : List (Nat × Option (List Nat))} {S t h}, awpP P n ops (Q .normal) pl S t h → awpP P n ops (Q' .normal) pl S t h := by
      intro pl
      induction pl with
      | nil => intro S t h e; exact hq _ _ _ e
      | cons x pl ih =>
        intro S t h e
        obtain ⟨i, b⟩ := x
        cases b with
        | none => obtain ⟨o, v, Sq, h1, h2, h3, h4⟩ := e; exact ⟨o, v, Sq, h1, h2, h3, ih h4⟩
        | some L => exact ⟨e.1, aStepI_mono (fun _ _ q => ⟨q.1, ih q.2⟩) e.2⟩
    cases draw with
    | false => exact ⟨e.1, hL e.2⟩
    | true => obtain ⟨h1, pl, h2, h3⟩ := e; exact ⟨h1, pl, h2, hP h3⟩
  | seq a b iha ihb =>
    intro Q Q' hq t h e
    refine iha (fun e t h k => ?_) e
    cases e with
    | normal => exact gcT.mono (fun _ _ => ihb hq) k
    | _ => exact hq _ _ _ k
  | cond c x y ihx ihy => intro Q Q' hq t h e; exact e.imp (fun q => ⟨q.1, ihx hq q.2⟩) (fun q => ⟨q.1, ihy hq q.2⟩)
  | block id c ih =>
    intro Q Q' hq t h e
    refine ih (fun e t h k => ?_) e
    cases e with
    | exit i =>
      simp only [blockA] at k ⊢
      split at k
      · rename_i hi; rw [if_pos hi]; exact hq _ _ _ k
      · rename_i hi; rw [if_neg hi]; exact hq _ _ _ k
    | _ => exact hq _ _ _ k
  | loop c ih =>
    intro Q Q' hq t h e
    obtain ⟨I, k, h0, hr⟩ := e
    refine ⟨I, k, h0, fun k t h hI => ih (fun e t h q => ?_) (hr k t h hI)⟩
    cases e with
    | normal => exact q
    | _ => exact hq _ _ _ q
  | scope c ih => intro Q Q' hq t h e; exact ih (fun e t h q => ⟨q.1, hq _ _ _ q.2⟩) e
  | exit id => intro Q Q' hq t h e; exact hq _ _ _ e
  | label i => intro Q Q' hq t h e; exact hq _ _ _ e
  | ret => intro Q Q' hq t h e; exact hq _ _ _ e
  | _ => intro Q Q' hq t h e; exact e.elim

theorem swp_ok {h0 : Heap} {H : Hints} : ∀ (c : Code) {Q : Ex → TL → Heap → Prop} {l : TL} {h : Heap}, okCode n c = true → l.length = n → swp P n h0 H c Q l h → awp P n h0 c (Le n Q) (tsOf l) h := by
  intro c
  induction c with
  | skip => intro Q l h _ hl e; exact ⟨.normal, l, rfl, hl, rfl, e⟩
  | region id ops draw =>
    intro Q l h ho hl e
    simp only [okCode, Bool.and_eq_true] at ho
    have fin : ∀ t h, Lf n (Q .normal) t h → Le n Q .normal t h := fun t h ⟨l, h1, h2, h3⟩ => ⟨.normal, l, rfl, h1, h2, h3⟩
    cases draw with
    | false =>
      refine awp_mono (c := .region id ops false) (Q := fun e t h => e = .normal ∧ Lf n (Q .normal) t h) (fun e t h q => q.1 ▸ fin t h q.2) ⟨ho.1, ?_⟩
      have := swpL_ok (P := P) (n := n) ops.toList 0 (kn := []) (fun j => by
        by_cases q : j < ops.size
        · simp [q]
        · simp [q]) ho.1 hl (fun x hx => by cases hx) e
      have mono : ∀ {os : List Oper} {t h}, awpL P n ops (Lf n (Q .normal)) os t h → awpL P n ops (fun t h => Exit.normal = .normal ∧ Lf n (Q .normal) t h) os t h := by
        intro os
        induction os with
        | nil => intro t h e; exact ⟨rfl, e⟩
        | cons o os ih => intro t h e; exact aStep_mono (fun _ _ => ih) e
      exact mono this
    | true =>
      have hplan : planOk n ops (planOf n ops) (Array.replicate ops.size false) = true := by simpa using ho.2
      refine ⟨ho.1, planOf n ops, hplan, ?_⟩
      have := swpP_ok (P := P) (n := n) ho.1 (planOf n ops) (S := fun _ _ => True) (kn := []) (lp := []) (by rw [undPL_length]; exact hl) (fun x hx => by cases hx) e (fun _ _ _ _ => trivial)
      rw [tsOf_undPL n ho.1 _ _ hl] at this
      have mono : ∀ {pl : List (Nat × Option (List Nat))} {S t h}, awpP P n ops (Lf n (Q .normal)) pl S t h → awpP P n ops (Le n Q .normal) pl S t h := by
        intro pl
        induction pl with
        | nil => intro S t h e; exact fin _ _ e
        | cons x pl ih =>
          intro S t h e
          obtain ⟨i, b⟩ := x
          cases b with
          | none => obtain ⟨o, v, Sq, h1, h2, h3, h4⟩ := e; exact ⟨o, v, Sq, h1, h2, h3, ih h4⟩
          | some L => exact ⟨e.1, aStepI_mono (fun _ _ q => ⟨q.1, ih q.2⟩) e.2⟩
      exact mono this
  | seq a b iha ihb =>
    intro Q l h ho hl e
    simp only [okCode, Bool.and_eq_true] at ho
    simp only [swp] at e
    split at e
    · show awp P n h0 a _ _ _
      refine awp_mono (c := a) (fun ex t h q => ?_) (iha ho.1 hl e)
      obtain ⟨x, l', rfl, hl', rfl, q⟩ := q
      cases x with
      | normal => exact gcT.of (ihb ho.2 hl' q)
      | exit i => exact ⟨.exit i, l', rfl, hl', rfl, q⟩
      | ret => exact ⟨.ret, l', rfl, hl', rfl, q⟩
    · rename_i live _
      obtain ⟨M, e1, e2⟩ := e
      show awp P n h0 a _ _ _
      refine awp_mono (c := a) (fun ex t h q => ?_) (iha ho.1 hl e1)
      obtain ⟨x, l', rfl, hl', rfl, q⟩ := q
      cases x with
      | normal => exact gcT.mono (fun t h ⟨vs, q1, q2, q3⟩ => by subst q2; exact ihb ho.2 (length_spreadL _ _ _ _) (allV_app e2 vs q1 h q3)) (gcL_gcT hl' q)
      | exit i => exact ⟨.exit i, l', rfl, hl', rfl, q⟩
      | ret => exact ⟨.ret, l', rfl, hl', rfl, q⟩
  | cond c x y ihx ihy =>
    intro Q l h ho hl e
    simp only [okCode, Bool.and_eq_true] at ho
    obtain ⟨p, h1, h2, h3⟩ := e
    cases p with
    | true => exact .inl ⟨h1, ihx ho.1 hl (h2 rfl)⟩
    | false => exact .inr ⟨h1, ihy ho.2 hl (h3 rfl)⟩
  | block id c ih =>
    intro Q l h ho hl e
    show awp P n h0 c _ _ _
    refine awp_mono (c := c) (fun ex t h q => ?_) (ih (by simpa [okCode] using ho) hl e)
    obtain ⟨x, l', rfl, hl', rfl, q⟩ := q
    cases x with
    | normal => exact ⟨.normal, l', rfl, hl', rfl, q⟩
    | ret => exact ⟨.ret, l', rfl, hl', rfl, q⟩
    | exit i =>
      show blockA id (Le n Q) (.exit i) (tsOf l') h
      simp only [blockA]
      simp only [blockS] at q
      by_cases hi : i = id
      · rw [if_pos hi]; rw [show (i == id) = true by simpa using hi] at q; exact ⟨.normal, l', rfl, hl', rfl, q⟩
      · rw [if_neg hi]; rw [show (i == id) = false by simpa using hi] at q; exact ⟨.exit i, l', rfl, hl', rfl, q⟩
  | loop c ih =>
    intro Q l h ho hl e
    simp only [swp] at e
    split at e
    · exact e.elim
    · rename_i live _
      obtain ⟨I, k, hI0, hr⟩ := e
      refine ⟨fun k t h => ∃ vs, vs.length = live.length ∧ t = tsOf (spreadL n 0 live vs) ∧ I k vs h, k, gcL_gcT hl hI0, ?_⟩
      rintro k t h ⟨vs, hv, rfl, hI⟩
      refine awp_mono (c := c) (fun ex t h q => ?_) (ih (by simpa [okCode] using ho) (length_spreadL _ _ _ _) (allV_app (hr k) vs hv h hI))
      obtain ⟨x, l', rfl, hl', rfl, q⟩ := q
      cases x with
      | normal =>
        obtain ⟨m, hm, hI'⟩ := q
        exact ⟨m, hm, gcL_gcT hl' hI'⟩
      | exit i => exact ⟨.exit i, l', rfl, hl', rfl, q⟩
      | ret => exact ⟨.ret, l', rfl, hl', rfl, q⟩
  | exit id => intro Q l h _ hl e; exact ⟨.exit id, l, rfl, hl, rfl, e⟩
  | label i => intro Q l h _ hl e; exact ⟨.normal, l, rfl, hl, rfl, e⟩
  | scope c ih =>
    intro Q l h ho hl e
    show awp P n h0 c _ _ _
    refine awp_mono (c := c) (fun ex t h q => ⟨fun i hi => ?_, q⟩) (ih (by simpa [okCode] using ho) hl e)
    obtain ⟨x, l', rfl, _⟩ := q
    cases x <;> cases hi
  | ret => intro Q l h _ hl e; exact ⟨.ret, l, rfl, hl, rfl, e⟩
  | goto i => intro Q l h _ hl e; exact e.elim
  | refuse y => intro Q l h _ hl e; exact e.elim
  | rangeFunc f ps a b _ _ => intro Q l h _ hl e; exact e.elim

/-- What lies in a result's cell. -/
def ldP (agg : Bool) (sz : Nat) (h : Heap) (a : Value) : Option Value :=
  match a with
  | .pointer (some ⟨i, off, none⟩) => match getRow h i with
    | some (c, _) => if agg then (if off + sz ≤ c.length then some (.agg ((c.drop off).take sz).toArray) else none) else c[off]?
    | none => none
  | _ => none

/-- The results at the end. -/
def resW (P : Program) (h : Heap) (l : TL) : List ResultVar → (List Value → Prop) → Prop
  | [], K => K []
  | .tmp s :: rest, K => resW P h l rest fun vs => K (l.getD s undef :: vs)
  | .cell a ty :: rest, K => match tinfo P ty with
    | some (d, _, sz, _) => oW (ldP (isAggD d) sz h (l.getD a undef)) fun v => resW P h l rest fun vs => K (v :: vs)
    | none => False

theorem resW_ok {h : Heap} {l : TL} : ∀ (rs : List ResultVar) {K : List Value → Prop}, resW P h l rs K → ∃ vs, ares P h (tsOf l) rs = some vs ∧ K vs := by
  intro rs
  induction rs with
  | nil => intro K e; exact ⟨[], rfl, e⟩
  | cons r rs ih =>
    intro K e
    cases r with
    | tmp s =>
      simp only [resW] at e
      obtain ⟨vs, h1, h2⟩ := ih e
      exact ⟨_, by simp only [ares, h1, Option.map_some]; rfl, h2⟩
    | cell a ty =>
      simp only [resW] at e
      split at e
      case h_2 => exact e.elim
      rename_i d z sz b ht
      obtain ⟨v, h0, e⟩ := e
      obtain ⟨vs, h1, h2⟩ := ih e
      have h0' : aload P h ty (tsOf l a) = some v := by
        unfold tsOf
        generalize l.getD a undef = x at h0
        unfold ldP at h0
        split at h0
        · split at h0
          · rename_i c m hr; simp only [aload, hr, ht]; exact h0
          · cases h0
        · cases h0
      exact ⟨_, by simp only [ares, h0', h1], h2⟩

def endS (P : Program) (rs : List ResultVar) (Q : Value → Heap → Prop) : Ex → TL → Heap → Prop
  | .exit _, _, _ => False
  | _, l, h => resW P h l rs fun vs => Q (retV vs) h

def initL (n : Nat) (args : List Value) : TL := args ++ List.replicate (n - args.length) undef

/-- What is owed of a function. -/
def fW (P : Program) (H : Hints) (fn : Func) (args : List Value) (h : Heap) (Q : Value → Heap → Prop) : Prop :=
  match fn.body with
  | some c => swp P fn.ntmps h H c (endS P fn.results.toList (gcV h Q)) (initL fn.ntmps args) h
  | none => False

def okFn (fn : Func) (args : Nat) : Bool :=
  match fn.body with
  | some c => okCode fn.ntmps c && !(fn.name == "runtime.NumGoroutine") && decide (args ≤ fn.ntmps)
  | none => false

theorem acall_of_fW (hm : P.follows .mixedOrders = true) {f : FuncId} {fn : Func} {args : List Value} {h : Heap} {Q : Value → Heap → Prop} (H : Hints) (hf : P.funcs[f]? = some fn) (ho : okFn fn args.length = true)
    (e : fW P H fn args h Q) : acall P f args h Q := by
  unfold okFn at ho
  unfold fW at e
  split at e
  · rename_i c hb
    rw [hb] at ho
    simp only [Bool.and_eq_true, decide_eq_true_eq, Bool.not_eq_true'] at ho
    have hlen : (initL fn.ntmps args).length = fn.ntmps := by unfold initL; simp; omega
    have hts : tsOf (initL fn.ntmps args) = initT args := by
      funext i
      unfold tsOf initT initL
      simp only [List.getD_eq_getElem?_getD]
      by_cases q : i < args.length
      · rw [List.getElem?_append_left q]
      · rw [List.getElem?_append_right (by omega), List.getElem?_eq_none (by omega : args.length ≤ i)]
        by_cases q2 : i - args.length < fn.ntmps - args.length
        · simp [q2]
        · simp [q2]
    have := swp_ok (P := P) c ho.1.1 hlen e
    rw [hts] at this
    refine acall_gc (acall_of_body hm hf hb ho.1.2 ho.2 (awp_mono (fun ex t h q => ?_) this))
    obtain ⟨x, l, rfl, hl, rfl, q⟩ := q
    cases x with
    | exit i => exact q.elim
    | normal => obtain ⟨vs, h1, h2⟩ := resW_ok _ q; exact ⟨.inl rfl, vs, h1, h2⟩
    | ret => obtain ⟨vs, h1, h2⟩ := resW_ok _ q; exact ⟨.inr rfl, vs, h1, h2⟩
  · exact e.elim

end
end Go.Ax
