/- The sets' laws: plain laws, marks, nullable, productive, reached, comparing. -/
import Derived.Test.YthhknneomcleoaaC3
import Derived.Test.YthhknneomcleoaaT2
import Derived.Test.YthhknneomcleoaaT1
import Derived.Test.YthhknneomcleoaaW3
import Derived.Shelf.SlMaps.Copy
namespace Go.Ax
open Go.RowKit

/-- A clause: its head, its premises. -/
abbrev Cl1 (α : Type) := α × List α

/-- What follows from clauses. -/
inductive Dl {α : Type} (C : Cl1 α → Prop) : α → Prop
  | mk {h : α} {ps : List α} (hc : C (h, ps)) (hp : ∀ p ∈ ps, Dl C p) : Dl C h

theorem Dl.mono {α : Type} {C D : Cl1 α → Prop} (h : ∀ c, C c → D c) {x : α} (d : Dl C x) : Dl D x := by
  induction d with
  | mk hc _ ih => exact .mk (h _ hc) ih

/-- What is closed holds all that follows. -/
theorem Dl.least {α : Type} {C : Cl1 α → Prop} {S : α → Prop} (h : ∀ x ps, C (x, ps) → (∀ p ∈ ps, S p) → S x) {x : α} (d : Dl C x) : S x := by
  induction d with
  | mk hc _ ih => exact h _ _ hc ih

/-- The numbers that are marked. -/
def onL (l : List Bool) (i : Nat) : Prop := l.getD i false = true
instance (l : List Bool) (i : Nat) : Decidable (onL l i) := by unfold onL; infer_instance
def cntL (l : List Bool) : Nat := l.countP id
theorem cntL_le (l : List Bool) : cntL l ≤ l.length := List.countP_le_length
def markL (l : List Bool) (i : Nat) : List Bool := l.set i true
@[simp] theorem markL_len {l : List Bool} {i : Nat} : (markL l i).length = l.length := by simp [markL]
theorem on_lt {l : List Bool} {i : Nat} (h : onL l i) : i < l.length := by
  unfold onL at h
  by_cases hi : i < l.length
  · exact hi
  · rw [List.getD_eq_getElem?_getD, List.getElem?_eq_none (by omega)] at h; cases h
theorem on_iff {l : List Bool} {i : Nat} (h : i < l.length) : onL l i ↔ l[i] = true := by unfold onL; simp [h]
theorem mark_on {l : List Bool} {i j : Nat} (hi : i < l.length) : onL (markL l i) j ↔ j = i ∨ onL l j := by
  unfold onL markL
  rw [List.getD_eq_getElem?_getD, List.getD_eq_getElem?_getD, List.getElem?_set]
  by_cases h : i = j
  · subst h; simp [hi]
  · rw [if_neg h]
    constructor
    · intro q; exact .inr q
    · rintro (q | q)
      · exact absurd q.symm h
      · exact q
theorem mark_same {l : List Bool} {i : Nat} (h : onL l i) : markL l i = l := by
  unfold markL
  have hi := on_lt h
  rw [on_iff hi] at h
  apply List.ext_getElem (by simp)
  intro j h1 h2
  rw [List.getElem_set]
  split
  · rename_i e; subst e; exact h.symm
  · rfl
theorem cnt_mark {l : List Bool} : ∀ {i : Nat}, i < l.length → ¬ onL l i → cntL (markL l i) = cntL l + 1 := by
  induction l with
  | nil => intro i h; simp at h
  | cons a l ih =>
    intro i hi hn
    cases i with
    | zero =>
      have : a = false := by unfold onL at hn; simpa using hn
      subst this
      simp [cntL, markL]
    | succ i =>
      have := ih (i := i) (by simpa using hi) (by unfold onL at hn ⊢; simpa using hn)
      unfold cntL markL at this ⊢
      rw [List.set_cons_succ, List.countP_cons, List.countP_cons, this]; omega
theorem on_ext {a b : List Bool} (hl : a.length = b.length) (h : ∀ i, i < a.length → (onL a i ↔ onL b i)) : a = b := by
  apply List.ext_getElem hl
  intro i h1 h2
  have := h i h1
  rw [on_iff h1, on_iff h2] at this
  cases ha : a[i] <;> cases hb : b[i] <;> simp [ha, hb] at this <;> rfl

open Classical in
/-- All numbers below n of which something holds, as a row. -/
noncomputable def setL (n : Nat) (S : Nat → Prop) : List Bool := (List.range n).map fun i => decide (S i)
open Classical in
@[simp] theorem setL_len {n : Nat} {S : Nat → Prop} : (setL n S).length = n := by simp [setL]
open Classical in
theorem setL_on {n : Nat} {S : Nat → Prop} {i : Nat} : onL (setL n S) i ↔ i < n ∧ S i := by
  by_cases h : i < n
  · unfold onL setL; simp [h]
  · unfold onL setL; simp [h]
theorem eq_setL {n : Nat} {S : Nat → Prop} {l : List Bool} (hl : l.length = n) (h : ∀ i, i < n → (onL l i ↔ S i)) : l = setL n S := by
  refine on_ext (by simp [hl]) fun i hi => ?_
  rw [setL_on, h i (by omega)]
  exact ⟨fun q => ⟨by omega, q⟩, fun q => q.2⟩

/-- One round of steps, in their order. 'f': what a step makes of what is marked. -/
structure Grows (f : List Bool → List Bool) : Prop where
  len : ∀ l, (f l).length = l.length
  up : ∀ l i, onL l i → onL (f l) i
theorem Grows.same {f : List Bool → List Bool} (h : Grows f) {l : List Bool} (hc : cntL (f l) ≤ cntL l) : f l = l := by
  symm
  refine on_ext (h.len l).symm fun i hi => ⟨h.up l i, fun q => ?_⟩
  apply Classical.byContradiction
  intro hn
  -- what is marked more is counted more
  have key : ∀ (a b : List Bool), a.length = b.length → (∀ i, onL a i → onL b i) → ∀ i, onL b i → ¬ onL a i → cntL a < cntL b := by
    intro a
    induction a with
    | nil => intro b hl _ i hb _; have := on_lt hb; rw [List.length_nil] at hl; omega
    | cons x a ih =>
      intro b hl hs i hb hna
      cases b with
      | nil => simp at hl
      | cons y b =>
        have hs' : ∀ i, onL a i → onL b i := fun i q => by have := hs (i + 1); unfold onL at this q ⊢; simpa using this (by simpa using q)
        have hle : cntL a ≤ cntL b := by
          by_cases e : ∃ j, onL b j ∧ ¬ onL a j
          · obtain ⟨j, j1, j2⟩ := e
            exact Nat.le_of_lt (ih b (by simpa using hl) hs' j j1 j2)
          · have : a = b := on_ext (by simpa using hl) fun j _ => ⟨hs' j, fun q => Classical.byContradiction fun n => e ⟨j, q, n⟩⟩
            rw [this]; exact Nat.le_refl _
        cases i with
        | zero =>
          have hy : y = true := by unfold onL at hb; simpa using hb
          have hx : x = false := by unfold onL at hna; simpa using hna
          subst hx hy
          unfold cntL at *
          simp only [List.countP_cons]; simp; omega
        | succ i =>
          have h1 := ih b (by simpa using hl) hs' i (by unfold onL at hb ⊢; simpa using hb) (by unfold onL at hna ⊢; simpa using hna)
          have h0 : x = true → y = true := fun q => by have := hs 0; unfold onL at this; simpa using this (by simpa using q)
          unfold cntL at *
          simp only [List.countP_cons]
          cases x <;> cases y <;> simp at h0 ⊢ <;> omega
  have := key l (f l) (h.len l).symm (h.up l) i q hn
  omega
def itr {α : Type} (f : α → α) : Nat → α → α
  | 0, x => x
  | k + 1, x => itr f k (f x)
theorem itr_succ {α : Type} {f : α → α} : ∀ {k : Nat} {x : α}, itr f (k + 1) x = f (itr f k x)
  | 0, _ => rfl
  | k + 1, x => by rw [itr, itr_succ, itr]
theorem itr_len {f : List Bool → List Bool} (h : Grows f) : ∀ {k : Nat} {l : List Bool}, (itr f k l).length = l.length
  | 0, _ => rfl
  | k + 1, l => by rw [itr, itr_len h, h.len]
/-- After more rounds than there are numbers nothing is new. -/
theorem itr_stop {f : List Bool → List Bool} (h : Grows f) {k : Nat} {l : List Bool} (hk : l.length < k) : f (itr f k l) = itr f k l := by
  have key : ∀ k, f (itr f k l) = itr f k l ∨ k ≤ cntL (itr f k l) := by
    intro k
    induction k with
    | zero => exact .inr (Nat.zero_le _)
    | succ k ih =>
      by_cases e : f (itr f k l) = itr f k l
      · left; rw [itr_succ, e, e]
      · right
        have : ¬ cntL (f (itr f k l)) ≤ cntL (itr f k l) := fun q => e (h.same q)
        have := ih.resolve_left e
        rw [itr_succ]; omega
  refine (key k).resolve_right fun q => ?_
  have := cntL_le (itr f k l)
  rw [itr_len h] at this
  omega

end Go.Ax

namespace Go.Ax
open Go Go.Proofs Go.RowKit

structure Gr where
  names : List ByteArray
  terms : Int
  tokens : List Int
  rules : List (List Int)
  start : Int
abbrev Gr.n (g : Gr) : Nat := g.names.length
abbrev Gr.enc (g : Gr) : Value := .agg #[lit (g.names.map .string), .int .i64 g.terms, ints g.tokens, lit (g.rules.map ints), .int .i64 g.start]

/-- Is a number a made symbol? -/
def Gr.made (g : Gr) (x : Int) : Prop := g.terms ≤ x ∧ inR g.n x
instance (g : Gr) (x : Int) : Decidable (g.made x) := by unfold Gr.made; infer_instance
/-- May a rule be? -/
def Gr.fits (g : Gr) (r : List Int) : Prop := 0 < r.length ∧ r.length ≤ 9 ∧ g.made (r.getD 0 0) ∧ ∀ x ∈ r.drop 1, inR g.n x
instance (g : Gr) (r : List Int) : Decidable (g.fits r) := by unfold Gr.fits; infer_instance
/-- May a grammar be? -/
structure Gr.ok (g : Gr) : Prop where
  t0 : 0 ≤ g.terms
  tn : g.terms ≤ g.n
  tk : (g.tokens.length : Int) = g.terms
  nn : g.n ≤ 128
  r1 : 1 ≤ g.rules.length
  rr : g.rules.length ≤ 256
  st : g.made g.start
  fit : ∀ r ∈ g.rules, g.fits r
  all : ∀ s : Nat, g.terms ≤ s → s < g.n → ∃ r ∈ g.rules, r.getD 0 0 = s

/-- A rule's left side, and its right side, as numbers from 0 on. -/
def lhs (r : List Int) : Nat := (r.getD 0 0).toNat
def rhs (r : List Int) : List Nat := (r.drop 1).map Int.toNat

/-- Which symbols may be nothing; which make tokens; which come up. -/
def nullC (g : Gr) (c : Cl1 Nat) : Prop := ∃ r ∈ g.rules, c = (lhs r, rhs r)
def prodC (g : Gr) (c : Cl1 Nat) : Prop := (∃ t : Nat, (t : Int) < g.terms ∧ c = (t, [])) ∨ nullC g c
def reachC (g : Gr) (c : Cl1 Nat) : Prop := c = (g.start.toNat, []) ∨ ∃ r ∈ g.rules, ∃ x ∈ rhs r, c = (x, [lhs r])
def Gr.null (g : Gr) : Nat → Prop := Dl (nullC g)
def Gr.prod (g : Gr) : Nat → Prop := Dl (prodC g)
def Gr.reach (g : Gr) : Nat → Prop := Dl (reachC g)
noncomputable def Gr.nullL (g : Gr) : List Bool := setL g.n g.null
noncomputable def Gr.prodL (g : Gr) : List Bool := setL g.n g.prod
noncomputable def Gr.reachL (g : Gr) : List Bool := setL g.n g.reach

/-- With which tokens symbols begin. -/
def firstC (g : Gr) (t : Nat) (c : Cl1 Nat) : Prop := c = (t, []) ∨ ∃ r ∈ g.rules, ∃ a x b, rhs r = a ++ x :: b ∧ (∀ y ∈ a, g.null y) ∧ c = (lhs r, [x])
def Gr.first (g : Gr) (s t : Nat) : Prop := (t : Int) < g.terms ∧ Dl (firstC g t) s
/-- .. and rows. -/
def Gr.rowF (g : Gr) : List Int → Nat → Prop
  | [], _ => False
  | x :: l, t => inR g.n x ∧ (g.first x.toNat t ∨ g.null x.toNat ∧ g.rowF l t)
def Gr.rowE (g : Gr) (l : List Int) : Prop := ∀ x ∈ l, inR g.n x ∧ g.null x.toNat
/-- By which tokens symbols are followed. -/
def followC (g : Gr) (t : Nat) (c : Cl1 Nat) : Prop :=
  (t = g.n ∧ c = (g.start.toNat, [])) ∨ ∃ r ∈ g.rules, ∃ a x b, r.drop 1 = a ++ x :: b ∧ (g.rowF b t ∧ c = (x.toNat, []) ∨ g.rowE b ∧ c = (x.toNat, [lhs r]))
def Gr.follow (g : Gr) (s t : Nat) : Prop := t ≤ g.n ∧ Dl (followC g t) s

open Classical in
/-- The numbers below n of which something holds, rising. -/
noncomputable def riseL (n : Nat) (S : Nat → Prop) : List Int := ((List.range n).filter fun i => decide (S i)).map fun (i : Nat) => (i : Int)
open Classical in
theorem mem_riseL {n : Nat} {S : Nat → Prop} {x : Int} : x ∈ riseL n S ↔ inR n x ∧ S x.toNat := by
  unfold riseL inR
  rw [List.mem_map]
  constructor
  · rintro ⟨i, hi, rfl⟩
    simp at hi
    exact ⟨⟨by omega, by omega⟩, by simpa using hi.2⟩
  · rintro ⟨⟨h1, h2⟩, h3⟩
    exact ⟨x.toNat, by simp; exact ⟨by omega, h3⟩, by omega⟩
open Classical in
theorem riseL_sorted {n : Nat} {S : Nat → Prop} : (riseL n S).Pairwise (· < ·) := by
  unfold riseL
  rw [List.pairwise_map]
  exact ((List.pairwise_lt_range).filter _).imp (by intro a b h; omega)
theorem riseL_len {n : Nat} {S : Nat → Prop} : (riseL n S).length ≤ n := by
  unfold riseL
  rw [List.length_map]
  exact Nat.le_trans (List.length_filter_le _ _) (by simp)
theorem eq_riseL {n : Nat} {S : Nat → Prop} {l : List Int} (hs : l.Pairwise (· < ·)) (h : ∀ x, x ∈ l ↔ inR n x ∧ S x.toNat) : l = riseL n S :=
  rising_eq hs riseL_sorted fun x => by rw [h, mem_riseL]

noncomputable def Gr.firstL (g : Gr) : List (List Int) := (List.range g.n).map fun s => riseL (g.n + 1) (g.first s)
noncomputable def Gr.followL (g : Gr) : List (List Int) := (List.range g.n).map fun s => riseL (g.n + 1) (g.follow s)
noncomputable def Gr.rowL (g : Gr) (l : List Int) : List Int := riseL (g.n + 1) (g.rowF l)

theorem rhs_mem {r : List Int} {n : Nat} (h : ∀ x ∈ r.drop 1, inR n x) {y : Nat} : y ∈ rhs r ↔ (y : Int) ∈ r.drop 1 := by
  unfold rhs
  rw [List.mem_map]
  constructor
  · rintro ⟨x, hx, rfl⟩
    have := h x hx
    unfold inR at this
    rwa [Int.toNat_of_nonneg this.1]
  · intro hy; exact ⟨_, hy, by simp⟩
theorem lhs_lt {g : Gr} (h : g.ok) {r : List Int} (hr : r ∈ g.rules) : lhs r < g.n := by
  have := (h.fit r hr).2.2.1
  unfold Gr.made inR at this
  unfold lhs; omega
theorem rhs_lt {g : Gr} (h : g.ok) {r : List Int} (hr : r ∈ g.rules) {x : Nat} (hx : x ∈ rhs r) : x < g.n := by
  have := (h.fit r hr).2.2.2 x ((rhs_mem (h.fit r hr).2.2.2).1 hx)
  unfold inR at this; omega

end Go.Ax

namespace Go.Ax
open Go Go.Proofs Go.RowKit

theorem itr_up {f : List Bool → List Bool} (h : Grows f) : ∀ {k : Nat} {l : List Bool} {i : Nat}, onL l i → onL (itr f k l) i
  | 0, _, _, q => q
  | k + 1, l, i, q => itr_up (k := k) h (h.up l i q)
theorem itr_keep {α : Type} {f : α → α} {P : α → Prop} (h : ∀ x, P x → P (f x)) : ∀ {k : Nat} {x : α}, P x → P (itr f k x)
  | 0, _, q => q
  | k + 1, x, q => itr_keep (k := k) h (h x q)

/-- What is closed, and sound, is all that follows. -/
theorem dl_eq {C : Cl1 Nat → Prop} {n : Nat} {l : List Bool} (hl : l.length = n) (sound : ∀ i, onL l i → Dl C i) (closed : ∀ h ps, C (h, ps) → (∀ p ∈ ps, onL l p) → onL l h) : l = setL n (Dl C) :=
  eq_setL hl fun i _ => ⟨sound i, fun q => q.least (S := onL l) closed⟩

theorem itr_dl {f : List Bool → List Bool} {C : Cl1 Nat → Prop} {n : Nat} {start : List Bool} (hf : Grows f) (h0 : start.length = n) (s0 : ∀ i, onL start i → Dl C i)
    (sound : ∀ l, l.length = n → (∀ i, onL l i → Dl C i) → ∀ i, onL (f l) i → Dl C i)
    (closed : ∀ l, l.length = n → (∀ i, onL start i → onL l i) → f l = l → ∀ h ps, C (h, ps) → (∀ p ∈ ps, onL l p) → onL l h) {k : Nat} (hk : n < k) : itr f k start = setL n (Dl C) := by
  have hl : (itr f k start).length = n := by rw [itr_len hf, h0]
  refine dl_eq hl ?_ (closed _ hl (fun i q => itr_up hf q) (itr_stop hf (by omega)))
  have : (itr f k start).length = n ∧ ∀ i, onL (itr f k start) i → Dl C i := itr_keep (P := fun l => l.length = n ∧ ∀ i, onL l i → Dl C i) (fun x ⟨q1, q2⟩ => ⟨by rw [hf.len, q1], sound x q1 q2⟩) ⟨h0, s0⟩
  exact this.2

/-- Steps, one behind the other. -/
theorem fold_len {β : Type} {f : List Bool → β → List Bool} (h : ∀ b, Grows fun l => f l b) : ∀ {bs : List β} {l : List Bool}, (bs.foldl f l).length = l.length
  | [], _ => rfl
  | b :: bs, l => by rw [List.foldl_cons, fold_len h, (h b).len]
theorem fold_up {β : Type} {f : List Bool → β → List Bool} (h : ∀ b, Grows fun l => f l b) : ∀ {bs : List β} {l : List Bool} {i : Nat}, onL l i → onL (bs.foldl f l) i
  | [], _, _, q => q
  | b :: bs, l, i, q => by rw [List.foldl_cons]; exact fold_up h ((h b).up l i q)
theorem fold_grows {β : Type} {f : List Bool → β → List Bool} (h : ∀ b, Grows fun l => f l b) (bs : List β) : Grows fun l => bs.foldl f l := ⟨fun _ => fold_len h, fun _ _ q => fold_up h q⟩
theorem fold_fix {β : Type} {f : List Bool → β → List Bool} (h : ∀ b, Grows fun l => f l b) : ∀ {bs : List β} {l : List Bool}, bs.foldl f l = l → ∀ b ∈ bs, f l b = l
  | b :: bs, l, e, c, hc => by
    rw [List.foldl_cons] at e
    have e1 : f l b = l := on_ext ((h b).len l) fun i _ => ⟨fun q => by rw [← e]; exact fold_up h q, (h b).up l i⟩
    rcases List.mem_cons.1 hc with rfl | hc
    · exact e1
    · rw [e1] at e; exact fold_fix h e c hc
theorem fold_keep {β α : Type} {f : α → β → α} {P : α → Prop} : ∀ {bs : List β} {x : α}, (∀ x, P x → ∀ b ∈ bs, P (f x b)) → P x → P (bs.foldl f x)
  | [], _, _, q => q
  | b :: bs, x, h, q => fold_keep (bs := bs) (fun x p c hc => h x p c (List.mem_cons_of_mem _ hc)) (h x q b List.mem_cons_self)

/-- A rule's step: what is made, if all of its right side is marked. -/
def nstep (l : List Bool) (r : List Int) : List Bool := if (rhs r).all (fun x => decide (onL l x)) = true then markL l (lhs r) else l
theorem nstep_grows (r : List Int) : Grows fun l => nstep l r := ⟨fun l => by unfold nstep; split <;> simp, fun l i q => by
  unfold nstep
  split
  · have hi := on_lt q
    by_cases h : lhs r < l.length
    · exact (mark_on h).2 (.inr q)
    · unfold markL; rw [List.set_eq_of_length_le (by omega)]; exact q
  · exact q⟩
def nround (g : Gr) (l : List Bool) : List Bool := g.rules.foldl nstep l

theorem nround_dl {g : Gr} (h : g.ok) {C : Cl1 Nat → Prop} {start : List Bool} (hC : ∀ c, nullC g c → C c) (hC2 : ∀ c, C c → nullC g c ∨ c.2 = [] ∧ onL start c.1) (h0 : start.length = g.n) (s0 : ∀ i, onL start i → Dl C i) {k : Nat} (hk : g.n < k) :
    itr (nround g) k start = setL g.n (Dl C) := by
  refine itr_dl (f := nround g) (fold_grows nstep_grows _) h0 s0 (fun l hl q => ?_) (fun l hl q e x ps hc hp => ?_) hk
  · have : (g.rules.foldl nstep l).length = g.n ∧ ∀ i, onL (g.rules.foldl nstep l) i → Dl C i := by
      refine fold_keep (P := fun l => l.length = g.n ∧ ∀ i, onL l i → Dl C i) (fun l ⟨hl, q⟩ r hr => ⟨by rw [(nstep_grows r).len, hl], fun i hi => ?_⟩) ⟨hl, q⟩
      unfold nstep at hi
      split at hi
      · rename_i hall
        rw [mark_on (by rw [hl]; exact lhs_lt h hr)] at hi
        rcases hi with rfl | hi
        · refine .mk (hC _ ⟨r, hr, rfl⟩) fun p hp => q p ?_
          have := List.all_eq_true.1 hall p hp
          simpa using this
        · exact q i hi
      · exact q i hi
    exact this.2
  · rcases hC2 _ hc with ⟨r, hr, e2⟩ | ⟨e2, e3⟩
    · cases e2
      have := fold_fix nstep_grows e r hr
      unfold nstep at this
      rw [if_pos (List.all_eq_true.2 fun y hy => by simpa using hp y hy)] at this
      rw [← this]
      exact (mark_on (by rw [hl]; exact lhs_lt h hr)).2 (.inl rfl)
    · exact q _ e3
theorem on_fls {n i : Nat} : ¬ onL (List.replicate n false) i := by
  unfold onL
  rw [List.getD_eq_getElem?_getD, List.getElem?_replicate]
  split <;> simp
theorem itr_null {g : Gr} (h : g.ok) {k : Nat} (hk : g.n < k) : itr (nround g) k (List.replicate g.n false) = g.nullL :=
  nround_dl h (C := nullC g) (fun _ q => q) (fun _ q => .inl q) (by simp) (fun i q => absurd q on_fls) hk

end Go.Ax

namespace Go.Proofs
open Go.RowKit Go.Maps Go.Sort Go.Shelf
def Try.keysB_ren : Go.Shelf.Ren := ⟨fun | 7 => 78 | 10 => 116 | n => n, fun | 23 => 110 | 26 => 3 | 3 => 4 | 28 => 97 | 0 => 0 | 27 => 96 | 33 => 94 | 4 => 4 | n => n, fun | n => n⟩
theorem Try.keysB : Go.Proofs.SlLaysZI.n7 Try.prog Try.keysB_ren := {
  mixed := by kernel_rfl
  f7 := ⟨Try.f78.name, by decide, Try.func78.trans (congrArg some (by kernel_rfl))⟩
  f10 := ⟨Try.f116.name, by decide, Try.func116.trans (congrArg some (by kernel_rfl))⟩
  t0 := Try.underlying0
  a0 := Try.isAgg0
  z0 := Try.sizeOf0
  v0 := Try.zeroValue0
  t4 := Try.underlying4
  a4 := Try.isAgg4
  z4 := Try.sizeOf4
  v4 := Try.zeroValue4
  t23 := Try.underlying110
  a23 := Try.isAgg110
  z23 := Try.sizeOf110
  v23 := Try.zeroValue110
  t26 := Try.underlying3
  a26 := Try.isAgg3
  z26 := Try.sizeOf3
  v26 := Try.zeroValue3
  t27 := Try.underlying96
  a27 := Try.isAgg96
  z27 := Try.sizeOf96
  v27 := Try.zeroValue96
  t28 := Try.underlying97
  a28 := Try.isAgg97
  z28 := Try.sizeOf97
  v28 := Try.zeroValue97
  t33 := Try.underlying94
  a33 := Try.isAgg94
  z33 := Try.sizeOf94
  v33 := Try.zeroValue94 }

/-- slices.Sorted at an iterator over a map's keys. -/
theorem Try.sorted_atB {H : Type} (Bm b nn : Nat) (D0 : DataW H) (R : Value → Option (DataW H × List MemPlace)) (w : World) (hBm : Bm < w.heap.size) (hm : w.cell? ⟨Bm, 0, none⟩ = some (.map (some b))) (hown : w.ownsMap Try.prog 3 R b nn D0) (hmax : Maps.size D0 ≤ maxLen) (hbytes : Maps.size D0 * 8 ≤ 140737488355328) :
    Calls Try.prog 64 #[.func (.func 116) #[] #[.pointer (some ⟨Bm, 0, none⟩)]] w fun e w' => ∃ (v : Value) (ss : List Int), e = .returned v ∧ ss.Perm (intKeys D0) ∧
      w'.ownsRow w.heap.size 3 1 v ss.length ((ss.mergeSort (fun x y => decide (x ≤ y))).map encZ) ∧ (v = .slice none 0 0 ↔ ss = []) ∧ Below w.heap.size w w' := by
  refine (callsIn_wide (n := 5)).1 ?_
  have hseq : SeqGives Fence.wide 2 Try.prog 116 #[.pointer (some ⟨Bm, 0, none⟩)] encZ (fun ss => ss.Perm (intKeys D0)) (Maps.size D0) w :=
    AnyZI.keys_gives (ρ := Try.keysB_ren) { Try.keysB with } Fence.wide _ trivial rfl (by omega) Bm b nn D0 _ hBm hm hown
  have cS := AnyZI.sorted_in Try.sortedA Fence.wide 5 trivial trivial trivial trivial rfl (by omega) (Try.sortsA _) (enters_of Try.func107 (by kernel_rfl) rfl) 116 #[.pointer (some ⟨Bm, 0, none⟩)] trivial (enters_of Try.func116 (by kernel_rfl) rfl) _ _ hmax hbytes w hseq
  change CallsIn _ _ Try.prog 64 _ _ _ at cS
  exact cS.mono fun e w' h => h

def Try.copyA_ren : Go.Shelf.Ren := ⟨fun | 5 => 117 | n => n, fun | 23 => 110 | 24 => 110 | 26 => 3 | 27 => 4 | 0 => 0 | 4 => 4 | n => n, fun | n => n⟩
theorem Try.copyA : Go.Proofs.SlLaysX.n5 Try.prog Try.copyA_ren := {
  mixed := by kernel_rfl
  f5 := ⟨Try.f117.name, by decide, Try.func117.trans (congrArg some (by kernel_rfl))⟩
  t0 := Try.underlying0
  a0 := Try.isAgg0
  z0 := Try.sizeOf0
  v0 := Try.zeroValue0
  t4 := Try.underlying4
  a4 := Try.isAgg4
  z4 := Try.sizeOf4
  v4 := Try.zeroValue4
  t23 := Try.underlying110
  a23 := Try.isAgg110
  z23 := Try.sizeOf110
  v23 := Try.zeroValue110
  t24 := Try.underlying110
  a24 := Try.isAgg110
  z24 := Try.sizeOf110
  v24 := Try.zeroValue110
  a26 := Try.isAgg3
  z26 := Try.sizeOf3
  a27 := Try.isAgg4
  z27 := Try.sizeOf4 }

/-- A set's elements: true alone. -/
def rTrue : Value → Option (DataW Unit × List MemPlace)
  | .bool true => some (.nil, [])
  | _ => none
theorem rTrue_inv {v : Value} {z : DataW Unit × List MemPlace} (h : rTrue v = some z) : v = .bool true ∧ z = (.nil, []) := by
  unfold rTrue at h
  split at h
  · cases h; exact ⟨rfl, rfl⟩
  · cases h

/-- A set's entry laid again. -/
theorem mapUpdate_same {P : Program} {t k e : TypeId} (K : Keyed P k) (ht : P.underlying t = some (.map k e)) {w : World} {b n : Nat} {D : DataW Unit} (h : w.ownsMap P k rTrue b n D) {key : Value} {kl : Lit} (hkey : keyOf P k key = some kl) (hhas : Maps.has D kl = true) :
    (Instr.mapUpdate t (.map (some b)) key (.bool true)).run P w = .ok () w := by
  obtain ⟨es, clock, hb, F, hs, rfl⟩ := h
  have hset : (setObj b (.map es clock)).run P w = .ok () w := by
    have hlt : b < w.heap.size := (Array.getElem?_eq_some_iff.1 hb).1
    have hsame : w.heap.setIfInBounds b (.map es clock) = w.heap := by
      apply Array.ext_getElem?
      intro i
      by_cases e : b = i
      · subst e; rw [Array.getElem?_setIfInBounds_self_of_lt hlt, hb]
      · rw [Array.getElem?_setIfInBounds_ne e]
    simp [setObj, Sem.run, hb, hsame]
  obtain ⟨p, hp, hpk⟩ := List.any_eq_true.1 hhas
  obtain ⟨x, hx, rfl⟩ := List.mem_map.1 (mem_sorted.1 hp)
  obtain ⟨y, hy⟩ := F.reads x hx
  rw [WideElems.rg_of hy] at hpk
  have hkl := WideAt.sameKey_eq hpk
  have hkx : x.key = key := K.inj (WideElems.rd_key hy) (by rw [hkl]; exact hkey)
  rcases K.find w hkey es.toList F.keys with ⟨_, h2⟩ | ⟨j, e0, h1, h2, h3⟩
  · exact absurd hkx (h2 x hx)
  · have hj : es[j]? = some e0 := by simpa using h2
    have hmem : e0 ∈ es.toList := List.mem_of_getElem? h2
    obtain ⟨y0, hy0⟩ := F.reads e0 hmem
    obtain ⟨z, hz, _⟩ := WideElems.rd_val hy0
    have hv : e0.val = .bool true := (rTrue_inv hz).1
    have hmod : es.modify j (fun e' => { e' with key := key, val := .bool true }) = es := by
      apply Array.ext_getElem?
      intro i
      rw [Array.getElem?_modify]
      split
      · rename_i q; subst q
        rw [hj]
        show some _ = some e0
        cases e0; simp at h3 hv; subst h3 hv; rfl
      · rfl
    simp [Instr.mapUpdate, run_underlying ht, MapKept.run_getObj_map hb, K.check w false hkey, h1, hj, h3, K.stays w hkey, Result.andThen, hmod, hset]

theorem wpList_mapUpdate_run {P : Program} (w : World) {ops : Array Oper} {rest : List Oper} {o : Oper} {a : Act} {Q : Exit → Act → World → Prop}
    (hg : o.guard = none) (m x v : Operand) (t : TypeId) (hop : o.op = Op.mapUpdate t m x v) (hrun : (Instr.mapUpdate t (a.eval m) (a.eval x) (a.eval v)).run P w = .ok () w)
    (hK : wpList P ops Q rest (a.put o.dst undef) w) : wpList P ops Q (o :: rest) a w := by
  refine wpList_plain hg fun K' hK' => ?_
  unfold Oper.wp
  simp [execOp, hop, hrun, Result.andThen]
  exact hK' _ _ hK

variable {P : Program} {ρ : Go.Shelf.Ren}
set_option maxHeartbeats 4000000 in
set_option maxRecDepth 100000 in
/-- maps.Copy of a set into itself: nothing turns. -/
theorem copy_self (L : SlLaysX.n5 P ρ) (K : Keyed P (ρ.t 26)) (b n : Nat) (D : DataW Unit) (w : World) (hd : w.ownsMap P (ρ.t 26) rTrue b n D) :
    Calls P (ρ.f 5) #[.map (some b), .map (some b)] w fun e w' => e = .returned (.tuple #[]) ∧ w.grownBy w' none := by
  have mixed := L.mixed; have t0 := L.t0; have a0 := L.a0; have z0 := L.z0; have v0 := L.v0; have t4 := L.t4; have a4 := L.a4; have z4 := L.z4; have v4 := L.v4; have t23 := L.t23; have a23 := L.a23; have z23 := L.z23; have v23 := L.v23; have t24 := L.t24; have a24 := L.a24; have z24 := L.z24; have v24 := L.v24; have a26 := L.a26; have z26 := L.z26; have a27 := L.a27; have z27 := L.z27
  have hbd := hd.lt
  obtain ⟨_, _, FG⟩ := L.f5
  go_enter FG, SlBodyX.n5_ntmps ρ
  go_wp2_with (first
    | (at_range; refine wpList_range_own _ rfl _ (ρ.t 24) rfl (ρ.t 26) (ρ.t 27) K L.t24 rTrue b n _ rfl hd ?_; intro w0 hrg0 hg0 hs0)
    | go_in)
  go_frame
  go_loopw [8] (fun _ wr => ∃ (left : Lit → Bool) (cnt : Nat), wr.ranges P (ρ.t 26) rTrue b w.heap.size n D left cnt ∧ (∀ kl, left kl = true → Maps.has D kl = true) ∧ w.grownBy wr none)
    (fun _ wr => wr.rangeLeft b w.heap.size)
  case atStart =>
    exact ⟨_, _, hrg0, fun _ h => h, hg0⟩
  case round =>
    obtain ⟨left, cnt, hrg, hleft, hgw⟩ := hrel
    go_wp2_with (first
      | (at_next; refine wpList_next_ranges _ rfl _ rfl (ρ.t 26) K rTrue id (fun _ : Unit => Value.bool true) (fun key _ _ => ⟨key, rfl⟩) (fun v _ hv => ⟨(), (rTrue_inv hv).1⟩) b w.heap.size n _ _ _ rfl hrg ?_ ?_)
      | go_in)
    · intro hc0 hl0
      go_wp2
      go_end0
      exact ⟨rfl, hgw⟩
    · intro x c kl y w1 cnt1 hkey hlx hv hat hrg1 hlt hg1 hs1 hen
      have hup := mapUpdate_same (t := ρ.t 23) K L.t23 hrg1.owns hkey (hleft _ hlx)
      go_wp2_with (first
        | (at_mapUpdate; refine wpList_mapUpdate_run _ rfl _ _ _ (ρ.t 23) rfl hup ?_; go_frame)
        | go_in)
      go_roundw
      case rel =>
        exact ⟨_, cnt1, hrg1, fun kl h => hleft kl (by simp at h; exact h.1), hgw.andThen hg1 (fun j hj => .inl (by cases hj; exact Nat.le_refl _))⟩
      case measure => rw [hrg1.left_eq, hrg.left_eq]; exact hlt

end Go.Proofs

namespace Go.Ax
open Go Go.Proofs Go.RowKit Go.Maps
/-- slices.Sorted at an iterator over the keys of a set of ints. -/
theorem sorted_specB {H : Heap} {i j : Nat} {ks : List Int} {E : List (Int × Value)} (hi : H[i]? = some (.row [.map (some j)] .exact)) (hm : getMap H j = some (encE E)) (hk : E.map (·.1) = ks) (hn : ks.Nodup) (hin : ∀ k ∈ ks, inI k) (hl : ks.length ≤ 1000000000000)
    {Q : Value → Heap → Prop} (hq : ∀ l : List Int, l.Pairwise (· < ·) → (∀ x, x ∈ l ↔ x ∈ ks) → Q (ints l) H) :
    acall Try.prog 64 [.func (.func 116) #[] #[.pointer (some ⟨i, 0, none⟩)]] H Q := by
  refine ⟨⟨_, Try.func64, rfl, rfl⟩, fun B w0 ρ w args' s hr => ?_⟩
  obtain ⟨hlen, hrel⟩ := hr
  have ha : ∃ v', args' = #[v'] := by
    obtain ⟨l⟩ := args'
    match l, hlen with
    | [v'], _ => exact ⟨v', rfl⟩
  obtain ⟨v', rfl⟩ := ha
  have h0 := hrel 0 _ v' rfl rfl
  cases h0 with
  | func fn xs xs' cs cs' hf h1 h2 h3 h4 =>
  have hxs : xs' = #[] := Array.size_eq_zero_iff.1 h1.symm
  subst hxs
  have hcs : ∃ y, cs' = #[y] := by
    obtain ⟨l⟩ := cs'
    match l, h2 with
    | [y], _ => exact ⟨y, rfl⟩
  obtain ⟨y, rfl⟩ := hcs
  have h5 := h4 0 (by simp) (by simp)
  simp only [List.getElem_toArray, List.getElem_cons_zero] at h5
  cases h5 with
  | ptr i off b hb =>
  obtain ⟨b2, hb2, hrow⟩ := s.row i _ _ hi
  rw [hb] at hb2; cases hb2
  have hz := hrow.zero rfl
  obtain ⟨cc, el, fr, l1, l2, l3, l4⟩ := hrow.lies
  obtain ⟨y2, hy2, hr2⟩ := l3 0 (.map (some j)) rfl
  cases hr2 with
  | map j bj hbj =>
  obtain ⟨bj2, hbj2, hmap⟩ := s.map j _ (getMap_eq hm)
  rw [hbj] at hbj2; cases hbj2
  obtain ⟨ents, clock, m1, m2, m3⟩ := hmap.lies
  have hks : ents.toList.map (·.key) = ks.map (Value.int .i64) := by
    apply List.ext_getElem?
    intro q
    rw [List.getElem?_map, List.getElem?_map, ← hk, List.getElem?_map]
    cases he : E[q]? with
    | none =>
      have : E.length ≤ q := List.getElem?_eq_none_iff.1 he
      have h6 : ents.toList[q]? = none := List.getElem?_eq_none (by simp at m2 ⊢; omega)
      rw [h6]; rfl
    | some p =>
      obtain ⟨e, he2, he3, _⟩ := m3 q (.int .i64 p.1, p.2) (by rw [List.getElem?_map, he]; rfl)
      have h6 : ents.toList[q]? = some e := by simpa using he2
      rw [h6]; simp [he3]
  obtain ⟨D0, hown, hperm, hsize⟩ := owns_map (P := Try.prog) (t := 3) Try.underlying3 m1 (hmap.stamp _ _ m1) hks hin hl
  have hcell : w.cell? ⟨b.block, 0, none⟩ = some (.map (some bj.block)) := by
    rw [cell_of l1]; rw [hz] at hy2; exact hy2
  have hlt : b.block < w.heap.size := (s.dom _ _ hb).2.1
  have hc := Try.sorted_atB b.block bj.block ents.size D0 _ w hlt hcell hown (by rw [hsize]; unfold maxLen; omega) (by rw [hsize]; omega)
  have e0 : b.base + 0 = 0 := by omega
  rw [e0]
  refine hc.mono ?_
  rintro e w' ⟨v, ss, rfl, hp, hrw, hnil, hbel⟩
  have hkept : Kept ⟨w.heap.size, fun _ => False⟩ w w' := ⟨hbel.os, hbel.tape, hbel.output, hbel.size, fun k hk => hbel.block k (hk.elim id fun q => q.elim)⟩
  have s' := s.moved hkept
  have hpk : ss.Perm ks := hp.trans hperm
  have hns : ss.Nodup := hpk.nodup_iff.2 hn
  have hsp := List.mergeSort_perm ss fun x y => decide (x ≤ y)
  have hpw : (ss.mergeSort fun x y => decide (x ≤ y)).Pairwise (· < ·) := by
    have h1 : (ss.mergeSort fun x y => decide (x ≤ y)).Pairwise (fun a b => decide (a ≤ b) = true) := List.pairwise_mergeSort (fun a b c h1 h2 => by simp only [decide_eq_true_eq] at *; omega) (fun a b => by simp only [Bool.or_eq_true, decide_eq_true_eq]; omega) ss
    have h2 : (ss.mergeSort fun x y => decide (x ≤ y)).Nodup := hsp.nodup_iff.2 hns
    exact (h1.and h2).imp fun {a b} h => by
      have h3 : a ≤ b := by simpa using h.1
      have := h.2
      omega
  have hQ := hq _ hpw fun x => by rw [hsp.mem_iff, hpk.mem_iff]
  obtain ⟨r1, r2⟩ := hrw
  rcases r2 with ⟨rfl, hz0⟩ | ⟨g, cap, cur, rfl, g1, g2, g3, g4, g5, g6⟩
  · have : ss = [] := List.eq_nil_of_length_eq_zero hz0
    subst this
    refine ⟨ρ, _, _, H, .refl _, rfl, ?_, s', hQ⟩
    rw [show (([] : List Int).mergeSort fun x y => decide (x ≤ y)) = [] by simp]
    exact Rel.lit0 none 0 (fun _ => rfl)
  · have hgn : ρ.frz g = none := by
      cases q : ρ.frz g with
      | none => rfl
      | some c0 => have := s.coldLt q; omega
    refine ⟨ρ.cool g cur, _, _, H, Ren.cool_le hgn, rfl, ?_, s'.cool g2 hgn (fun i b hb q => by have := (s.dom i b hb).2.1; omega) (fun q => by have := s.fle _ q; omega), hQ⟩
    have hsl : (ss.mergeSort fun x y => decide (x ≤ y)).length = ss.length := hsp.length_eq
    have := Rel.litS (ρ := ρ.cool g cur) ((ss.mergeSort fun x y => decide (x ≤ y)).map fun n => Value.int .i64 n).toArray g 0 1 cap cur (by unfold Ren.cool; simp) (by simp [hsl]; omega) (by omega) (fun i p => by simp) (by simp [hsl]; omega) (fun i q p p2 p3 => by
      have hi : i < (ss.mergeSort fun x y => decide (x ≤ y)).length := by simpa using p
      have hq0 : q = 0 := by
        have : (cellsOf ((ss.mergeSort fun x y => decide (x ≤ y)).map fun n => Value.int .i64 n).toArray[i]).length = 1 := by simp
        omega
      subst hq0
      have h7 : cur.toList[i]? = some (.int .i64 (ss.mergeSort fun x y => decide (x ≤ y))[i]) := by
        have h8 : (cur.toList.take (ss.length * 1))[i]? = some (encZ (ss.mergeSort fun x y => decide (x ≤ y))[i]) := by rw [g6]; simp [hi]
        rw [List.getElem?_take] at h8
        split at h8
        · exact h8
        · cases h8
      have h9 : cur[0 + (i * 1 + 0)] = .int .i64 (ss.mergeSort fun x y => decide (x ≤ y))[i] := by
        have h10 : cur[i]? = some (.int .i64 (ss.mergeSort fun x y => decide (x ≤ y))[i]) := by simpa using h7
        have h11 := Array.getElem?_eq_getElem p3
        have e4 : 0 + (i * 1 + 0) = i := by omega
        have h12 : cur[0 + (i * 1 + 0)]? = some (.int .i64 (ss.mergeSort fun x y => decide (x ≤ y))[i]) := by rw [e4]; exact h10
        exact Option.some.inj (h11.symm.trans h12)
      rw [h9]
      simp
      exact .int _ _)
    simp only [List.size_toArray, List.length_map, hsl] at this
    exact this

/-- slices.Sorted of maps.Keys. -/
theorem sortedKeysB_spec {H : Heap} {j : Nat} {E : List (Int × Value)} {s : List Int} {K : Value → Heap → Prop} (hm : getMap H j = some (encE E)) (hk : E.map (·.1) = s) (hn : s.Nodup) (hi : ∀ k ∈ s, inI k) (hl : s.length ≤ 1000000000000)
    (k : ∀ l : List Int, l.Pairwise (· < ·) → (∀ x, x ∈ l ↔ x ∈ s) → ∀ t, K (ints l) (H ++ t)) :
    acall Try.prog F_maps_Keys_sets_set_int_bool [.map (some j)] H fun v h => acall Try.prog F_slices_Sorted_int [v] h K := by
  refine W_maps_Keys_sets_set_int_bool_ok ?_
  unfold W_maps_Keys_sets_set_int_bool
  rw [box_map, hW_some]
  refine gcV_same ?_
  exact sorted_specB (i := H.length) (by simp) (getMap_app hm) hk hn hi hl fun l h1 h2 => k l h1 h2 _


end Go.Ax

namespace Go.Ax
open Go Go.Proofs Go.RowKit

abbrev Gr.cells (g : Gr) : List Value := [lit (g.names.map .string), .int .i64 g.terms, ints g.tokens, lit (g.rules.map ints), .int .i64 g.start]
abbrev grow (g : Gr) : AObj := .row g.cells .exact
/-- A grammar lies at a place. -/
def GAt (H : Heap) (p : Nat) (g : Gr) : Prop := ∃ m, getRow H p = some (g.cells, m)
theorem GAt.box {h : Heap} {g : Gr} : GAt (h ++ [grow g]) h.length g := ⟨.exact, by rw [row_app0]; rfl⟩
theorem GAt.app {H t : Heap} {p : Nat} {g : Gr} (a : GAt H p g) : GAt (H ++ t) p g := let ⟨m, e⟩ := a; ⟨m, getRow_app e⟩
theorem GAt.at0 {h t : Heap} {g : Gr} : GAt (h ++ grow g :: t) h.length g := ⟨.exact, by rw [row_app0]; rfl⟩
section
variable {H : Heap} {p : Nat} {g : Gr} (a : GAt H p g) {K : Value → Prop}
include a
theorem GAt.names (k : K (lit (g.names.map .string))) : oW (faW 0 1 (.pointer (some ⟨p, 0, none⟩))) fun v => oW (ldW false 1 H v) K := by
  obtain ⟨m, e⟩ := a; rw [fa_ptr, oW_some, ldW_one, e]; exact oW_some.2 k
theorem GAt.terms (k : K (.int .i64 g.terms)) : oW (faW 1 1 (.pointer (some ⟨p, 0, none⟩))) fun v => oW (ldW false 1 H v) K := by
  obtain ⟨m, e⟩ := a; rw [fa_ptr, oW_some, ldW_one, e]; exact oW_some.2 k
theorem GAt.tokens (k : K (ints g.tokens)) : oW (faW 2 1 (.pointer (some ⟨p, 0, none⟩))) fun v => oW (ldW false 1 H v) K := by
  obtain ⟨m, e⟩ := a; rw [fa_ptr, oW_some, ldW_one, e]; exact oW_some.2 k
theorem GAt.rules (k : K (lit (g.rules.map ints))) : oW (faW 3 1 (.pointer (some ⟨p, 0, none⟩))) fun v => oW (ldW false 1 H v) K := by
  obtain ⟨m, e⟩ := a; rw [fa_ptr, oW_some, ldW_one, e]; exact oW_some.2 k
theorem GAt.start (k : K (.int .i64 g.start)) : oW (faW 4 1 (.pointer (some ⟨p, 0, none⟩))) fun v => oW (ldW false 1 H v) K := by
  obtain ⟨m, e⟩ := a; rw [fa_ptr, oW_some, ldW_one, e]; exact oW_some.2 k
omit a in
theorem GAt.ld (a : GAt H p g) : ldW true 5 H (.pointer (some ⟨p, 0, none⟩)) = some g.enc := by
  obtain ⟨m, e⟩ := a; rw [ldW_agg, e]; rfl
end
theorem box_gr {h : Heap} {g : Gr} : boxA h g.enc = some (.pointer (some ⟨h.length, 0, none⟩), h ++ [grow g]) := by rw [box_agg]
/-- A rule. -/
theorem ix_rules {l : List (List Int)} {n : Nat} {h : Heap} {K : Value → Prop} (hn : n < l.length) (k : K (ints l[n])) : oW (iaS 1 (lit (l.map ints)) (.int .i64 (n : Int))) fun v => oW (ldW false 1 h v) K :=
  ix_lit hn rfl (by rw [cellsOf_func, ld_plit1, oW_some]; exact k)
theorem lenR {l : List (List Int)} : lenS (lit (l.map ints)) = some (.int .i64 (l.length : Int)) := by rw [lenS_lit, List.length_map]
theorem lenI {l : List Int} : lenS (ints l) = some (.int .i64 (l.length : Int)) := by rw [lenS_lit, List.length_map]
theorem lenN {l : List ByteArray} : lenS (lit (l.map .string)) = some (.int .i64 (l.length : Int)) := by rw [lenS_lit, List.length_map]
theorem lenB {l : List Bool} : lenS (bools l) = some (.int .i64 (l.length : Int)) := by rw [lenS_lit, List.length_map]
theorem ixK {l : List Int} {n : Nat} {h : Heap} {K : Value → Value → Prop} (hn : n < l.length) (k : K (plit [.int .i64 l[n]]) (.int .i64 l[n])) : oW (iaS 1 (ints l) (.int .i64 (n : Int))) fun v => oW (ldW false 1 h v) fun w => K v w := by
  refine ⟨plit [.int .i64 l[n]], iaS_lit (e := .int .i64 l[n]) (by omega) (by simp [hn]) rfl, _, ld_plit1, k⟩
theorem ix0 {l : List Int} {h : Heap} {K : Value → Value → Prop} (hn : 0 < l.length) (k : K (plit [.int .i64 (l.getD 0 0)]) (.int .i64 (l.getD 0 0))) : oW (iaS 1 (ints l) (.int .i64 0)) fun v => oW (ldW false 1 h v) fun w => K v w :=
  ixK (n := 0) hn (by rw [List.getD_eq_getElem?_getD, List.getElem?_eq_getElem hn] at k; exact k)
theorem sl_ints {l : List Int} {n : Nat} {h : Heap} (hn : n ≤ l.length) : slS 1 h (ints l) (some (.int .i64 (n : Int))) none none = some (ints (l.drop n)) := by
  simp only [slS, isLit, litSlice, asNat]
  have hall : (l.map fun n => Value.int .i64 n).all (fun e => (cellsOf e).length == 1) = true := by simp
  simp only [List.toList_toArray, hall, if_true]
  rw [if_pos (by omega)]
  simp only [Int.toNat_natCast, List.length_map]
  rw [if_pos ⟨hn, Nat.le_refl _⟩, ← List.map_drop, List.take_of_length_le (by simp)]
theorem sl1 {l : List Int} {h : Heap} (hn : 0 < l.length) : slS 1 h (ints l) (some (.int .i64 1)) none none = some (ints (l.drop 1)) := sl_ints (n := 1) hn
theorem kept_same {vs : List Value} {h : Heap} : keptW vs h h := fun _ _ _ _ => rfl
theorem gcV_box {h t : Heap} {v : Value} {Q : Value → Heap → Prop} (hc : Cl v) (hq : Q v h) : gcV h Q v (h ++ t) := gcV_end (.cl hc) hq

/-- slices.IndexFunc, ContainsFunc of frozen ints. -/
theorem indexFuncL_spec {l : List Int} {f : Value} {p : Int → Bool} (hl : l.length ≤ 9223372036854775807) {h : Heap} (hf : ∀ k ∈ l, ∀ K : Value → Heap → Prop, K (.bool (p k)) h → callW Try.prog f [.int .i64 k] h K) {Q : Value → Heap → Prop}
    (hq : ∀ i : Int, (0 ≤ i ↔ l.any p = true) → Q (.int .i64 i) h) : acall Try.prog F_slices_IndexFunc_int_int [ints l, f] h Q := by
  apply W_slices_IndexFunc_int_int_ok
  unfold W_slices_IndexFunc_int_int
  rw [lenI, oW_some]
  refine ⟨fun k vs H => ∃ i : Nat, vs = [ints l, f, .int .i64 (l.length : Int), .int .i64 (i : Int)] ∧ H = h ∧ k = l.length - i ∧ i ≤ l.length ∧ (l.take i).any p = false, l.length, gcL_same ⟨0, by simp⟩, ?_⟩
  rintro k x6 x7 x8 x9 H ⟨i, hv, rfl, hk, hi, hno⟩
  simp only [List.cons.injEq, and_true] at hv
  obtain ⟨rfl, rfl, rfl, rfl⟩ := hv
  rw [n_lss, oW_some, bW_dec]
  constructor
  · intro hlt
    have hlt' : i < l.length := by omega
    refine ix_ints hlt' (hf _ (List.getElem_mem hlt') _ ?_)
    rw [bW_bool]
    constructor
    · intro hp
      exact gcV_same (hq _ ⟨fun _ => List.any_eq_true.2 ⟨_, List.getElem_mem hlt', hp⟩, fun _ => by omega⟩)
    · intro hp
      rw [n_add (by omega), oW_some]
      refine ⟨l.length - (i + 1), by omega, gcL_same ⟨i + 1, by simp, rfl, rfl, by omega, ?_⟩⟩
      rw [List.take_add_one, List.getElem?_eq_getElem hlt', List.any_append, hno]
      simp [hp]
  · intro hge
    rw [List.take_of_length_le (by omega)] at hno
    exact gcV_same (hq _ ⟨fun q => by omega, fun q => by rw [hno] at q; cases q⟩)
theorem containsFuncL_spec {l : List Int} {f : Value} {p : Int → Bool} (hl : l.length ≤ 9223372036854775807) {h : Heap} (hf : ∀ k ∈ l, ∀ K : Value → Heap → Prop, K (.bool (p k)) h → callW Try.prog f [.int .i64 k] h K) {Q : Value → Heap → Prop}
    (hq : Q (.bool (l.any p)) h) : acall Try.prog F_slices_ContainsFunc_int_int [ints l, f] h Q := by
  apply W_slices_ContainsFunc_int_int_ok
  unfold W_slices_ContainsFunc_int_int
  refine callW_plain.2 (indexFuncL_spec hl hf fun i hi => ?_)
  rw [n_geq, oW_some]
  have : decide (0 ≤ i) = l.any p := by rw [Bool.eq_iff_iff, decide_eq_true_eq, hi]
  rw [this]
  exact gcV_same hq

theorem symbol_spec {g : Gr} {x : Int} {h : Heap} {Q : Value → Heap → Prop} (hq : Q (.bool (decide (inR g.n x))) h) : acall Try.prog F_symbols_Grammar_symbol [g.enc, .int .i64 x] h Q := by
  apply W_symbols_Grammar_symbol_ok
  unfold W_symbols_Grammar_symbol
  rw [box_gr, hW_some, n_geq, oW_some, bW_dec]
  refine ⟨fun h0 => GAt.names .box ?_, fun h0 => gcV_box (.bool _) ?_⟩
  · rw [lenN, oW_some, n_lss, oW_some]
    have : decide (x < (g.names.length : Int)) = decide (inR g.n x) := by rw [decide_eq_decide]; unfold inR Gr.n; omega
    rw [this]
    exact gcV_box (.bool _) hq
  · rwa [decide_eq_false (by unfold inR; omega)] at hq
theorem gmade_spec {g : Gr} {x : Int} {h : Heap} {Q : Value → Heap → Prop} (hq : Q (.bool (decide (g.made x))) h) : acall Try.prog F_symbols_Grammar_made [g.enc, .int .i64 x] h Q := by
  apply W_symbols_Grammar_made_ok
  unfold W_symbols_Grammar_made
  rw [box_gr, hW_some]
  refine GAt.terms .box ?_
  rw [n_geq, oW_some, bW_dec]
  constructor
  · intro h0
    rw [GAt.ld .box, oW_some]
    refine callW_plain.2 (symbol_spec ?_)
    have : decide (inR g.n x) = decide (g.made x) := by rw [decide_eq_decide]; unfold Gr.made; exact ⟨fun q => ⟨h0, q⟩, fun q => q.2⟩
    rw [this]
    exact gcV_box (.bool _) hq
  · intro h0
    rw [decide_eq_false (by unfold Gr.made; exact fun q => h0 q.1)] at hq
    exact gcV_box (.bool _) hq
theorem fits_spec {g : Gr} {r : List Int} (hl : r.length ≤ 9223372036854775807) {h : Heap} {Q : Value → Heap → Prop} (hq : Q (.bool (decide (g.fits r))) h) : acall Try.prog F_symbols_Grammar_fits [g.enc, ints r] h Q := by
  have no : ¬ g.fits r → ∀ t, gcV h Q (.bool false) (h ++ t) := fun hn t => by
    rw [decide_eq_false hn] at hq
    exact gcV_box (.bool _) hq
  apply W_symbols_Grammar_fits_ok
  unfold W_symbols_Grammar_fits
  rw [box_gr, hW_some, lenI, oW_some, n_gtr, oW_some, bW_dec]
  refine ⟨fun h0 => ?_, fun h0 => no (fun q => h0 (by have := q.1; omega)) _⟩
  rw [oW_some, n_leq, oW_some, bW_dec]
  refine ⟨fun h1 => ?_, fun h1 => no (fun q => h1 (by have := q.2.1; omega)) _⟩
  rw [GAt.ld .box, oW_some]
  have h0' : 0 < r.length := by omega
  refine ix0 h0' ?_
  refine callW_plain.2 (gmade_spec ⟨kept_same, ?_⟩)
  rw [bW_dec]
  refine ⟨fun h2 => ?_, fun h2 => no (fun q => h2 q.2.2.1) _⟩
  rw [sl1 h0', oW_some]
  refine callW_plain.2 (containsFuncL_spec (p := fun x => !decide (inR g.n x)) (by simp; omega) (fun k _ K hK => ?_) ⟨kept_same, ?_⟩)
  · rw [callW_known]
    apply W_symbols_Grammar_fits_D1_ok
    unfold W_symbols_Grammar_fits_D1
    rw [GAt.ld .box, oW_some]
    refine callW_plain.2 (symbol_spec ?_)
    rw [u_not, oW_some]
    exact gcV_same hK
  · rw [u_not, oW_some]
    have : (!(r.drop 1).any fun x => !decide (inR g.n x)) = decide (g.fits r) := by
      rw [Bool.eq_iff_iff, decide_eq_true_eq, Bool.not_eq_true', List.any_eq_false]
      unfold Gr.fits
      constructor
      · intro q
        exact ⟨h0', by omega, h2, fun x hx => by have := q x hx; simpa using this⟩
      · intro q x hx
        have := q.2.2.2 x hx
        simpa using this
    rw [this]
    exact gcV_box (.bool _) hq

end Go.Ax

namespace Go.Ax
open Go Go.Proofs Go.RowKit

theorem nodup_sub_len {α : Type} [DecidableEq α] : ∀ {s R : List α}, s.Nodup → (∀ x ∈ s, x ∈ R) → s.length ≤ R.length
  | [], _, _, _ => Nat.zero_le _
  | x :: s, R, h, hs => by
    obtain ⟨h1, h2⟩ := List.nodup_cons.1 h
    have hx := hs x (by simp)
    have := nodup_sub_len (R := R.erase x) h2 fun y hy => (List.mem_erase_of_ne (fun e => h1 (by rw [← e]; exact hy))).2 (hs y (by simp [hy]))
    rw [List.length_erase_of_mem hx] at this
    have := List.length_pos_of_mem hx
    simp; omega
theorem count_all {s : List Int} {t : Int} {n : Nat} (h0 : 0 ≤ t) (hn : t ≤ n) (hs : s.Nodup) (hb : ∀ x ∈ s, t ≤ x ∧ x < n) : ((s.length : Int) = n - t ↔ ∀ k : Nat, t ≤ k → k < n → (k : Int) ∈ s) := by
  obtain ⟨a, rfl⟩ := Int.eq_ofNat_of_zero_le h0
  have hl : ((List.range (n - a)).map fun (i : Nat) => ((i + a : Nat) : Int)).length = n - a := by simp
  have hm : ∀ x : Int, x ∈ ((List.range (n - a)).map fun (i : Nat) => ((i + a : Nat) : Int)) ↔ (a : Int) ≤ x ∧ x < n := fun x => by
    rw [List.mem_map]
    constructor
    · rintro ⟨i, hi, rfl⟩
      have := List.mem_range.1 hi
      omega
    · rintro ⟨h1, h2⟩
      exact ⟨x.toNat - a, List.mem_range.2 (by omega), by omega⟩
  have hnd : ((List.range (n - a)).map fun (i : Nat) => ((i + a : Nat) : Int)).Nodup := by
    rw [List.Nodup, List.pairwise_map]
    exact List.nodup_range.imp fun h => by omega
  have le := nodup_sub_len (R := ((List.range (n - a)).map fun (i : Nat) => ((i + a : Nat) : Int))) hs fun x hx => (hm x).2 (hb x hx)
  rw [hl] at le
  constructor
  · intro e k h1 h2
    apply Classical.byContradiction
    intro hk
    have := nodup_sub_len (s := (k : Int) :: s) (R := ((List.range (n - a)).map fun (i : Nat) => ((i + a : Nat) : Int))) (List.nodup_cons.2 ⟨hk, hs⟩) fun x hx => (hm x).2 (by
      rcases List.mem_cons.1 hx with rfl | hx
      · omega
      · exact hb x hx)
    rw [hl] at this
    simp at this; omega
  · intro q
    have := nodup_sub_len hnd (R := s) fun x hx => by
      have := (hm x).1 hx
      have := q x.toNat (by omega) (by omega)
      rwa [Int.toNat_of_nonneg (by omega)] at this
    rw [hl] at this
    omega

/-- Lengths that a machine has. -/
structure Gr.Fin (g : Gr) : Prop where
  ln : g.names.length ≤ 9223372036854775807
  lt : g.tokens.length ≤ 9223372036854775807
  lr : g.rules.length ≤ 9223372036854775807
  rl : ∀ r ∈ g.rules, r.length ≤ 9223372036854775807
/-- All but the rules. -/
def Gr.pre (g : Gr) : Prop := 0 ≤ g.terms ∧ g.terms ≤ g.n ∧ (g.tokens.length : Int) = g.terms ∧ g.n ≤ 128 ∧ 1 ≤ g.rules.length ∧ g.rules.length ≤ 256 ∧ g.made g.start
theorem ok_iff {g : Gr} : g.ok ↔ g.pre ∧ (∀ r ∈ g.rules, g.fits r) ∧ ∀ s : Nat, g.terms ≤ s → s < g.n → ∃ r ∈ g.rules, r.getD 0 0 = s :=
  ⟨fun h => ⟨⟨h.t0, h.tn, h.tk, h.nn, h.r1, h.rr, h.st⟩, h.fit, h.all⟩, fun ⟨⟨a, b, c, d, e, f, i⟩, j, k⟩ => ⟨a, b, c, d, e, f, i, j, k⟩⟩
open Classical in
noncomputable def Gr.chk (g : Gr) : Int := if g.ok then 0 else 1

def CkI (h : Heap) (g : Gr) (k : Nat) (vs : List Value) (H : Heap) : Prop :=
  ∃ (i : Nat) (s : List Int), vs = [.pointer (some ⟨h.length, 0, none⟩), .map (some (h.length + 1)), lit (g.rules.map ints), .int .i64 (g.rules.length : Int), .int .i64 (i : Int)] ∧ H = h ++ [grow g, .map (encE (setE s))] ∧ k = g.rules.length - i ∧ i ≤ g.rules.length ∧
    s.Nodup ∧ (∀ x, x ∈ s ↔ ∃ r ∈ g.rules.take i, r.getD 0 0 = x) ∧ ∀ r ∈ g.rules.take i, g.fits r

theorem take_succ' {α : Type} {l : List α} {i : Nat} (h : i < l.length) : l.take (i + 1) = l.take i ++ [l[i]] := by rw [List.take_add_one, List.getElem?_eq_getElem h]; rfl

theorem check16_spec {g : Gr} (hf : g.Fin) {h : Heap} {Q : Value → Heap → Prop} (hq : Q (.int .i64 g.chk) h) : acall Try.prog F_symbols_Check [g.enc] h Q := by
  have no : ¬ g.ok → ∀ t, gcV h Q (.int .i64 1) (h ++ t) := fun hn t => by
    unfold Gr.chk at hq
    rw [if_neg hn] at hq
    exact gcV_box (.int _ _) hq
  have no' : ¬ g.pre → ∀ t, gcV h Q (.int .i64 1) (h ++ t) := fun hn t => no (fun q => hn (ok_iff.1 q).1) t
  have l1 := hf.ln
  have l2 := hf.lt
  have l3 := hf.lr
  apply W_symbols_Check_ok
  unfold W_symbols_Check
  rw [box_gr, hW_some]
  refine ⟨fun vs H => vs = [.pointer (some ⟨h.length, 0, none⟩)] ∧ H = h ++ [grow g] ∧ g.pre, ?_, ?_⟩
  · refine GAt.terms .box ?_
    rw [n_lss, oW_some, bW_dec]
    refine ⟨fun q => by rw [bW_true]; exact no' (fun p => by have := p.1; omega) _, fun c0 => GAt.terms .box (GAt.names .box ?_)⟩
    rw [lenN, oW_some, n_gtr, oW_some, bW_dec]
    refine ⟨fun q => by rw [bW_true]; exact no' (fun p => by have := p.2.1; unfold Gr.n at this; omega) _, fun c1 => GAt.tokens .box ?_⟩
    rw [lenI, oW_some]
    refine GAt.terms .box ?_
    rw [n_neq, oW_some, bW_dec]
    refine ⟨fun q => by rw [bW_true]; exact no' (fun p => q p.2.2.1) _, fun c2 => GAt.names .box ?_⟩
    rw [lenN, oW_some, n_gtr, oW_some, bW_dec]
    refine ⟨fun q => no' (fun p => by have := p.2.2.2.1; unfold Gr.n at this; omega) _, fun c3 => GAt.rules .box ?_⟩
    rw [lenR, oW_some, n_lss, oW_some, bW_dec]
    refine ⟨fun q => by rw [bW_true]; exact no' (fun p => by have := p.2.2.2.2.1; omega) _, fun c4 => GAt.rules .box ?_⟩
    rw [lenR, oW_some, n_gtr, oW_some, bW_dec]
    refine ⟨fun q => by rw [bW_true]; exact no' (fun p => by have := p.2.2.2.2.2.1; omega) _, fun c5 => ?_⟩
    rw [GAt.ld .box, oW_some]
    refine GAt.start .box (callW_plain.2 (gmade_spec ?_))
    rw [u_not, oW_some, bW_bool]
    refine ⟨fun q => no' (fun p => by have := p.2.2.2.2.2.2; simp [this] at q) _, fun c6 => gcL_same ⟨rfl, rfl, by omega, by unfold Gr.n; omega, by simpa using c2, by unfold Gr.n; omega, by omega, by omega, by simpa using c6⟩⟩
  rintro x79 h80 ⟨hv, rfl, hp⟩
  simp only [List.cons.injEq, and_true] at hv
  subst hv
  have L1 : (h ++ [grow g]).length = h.length + 1 := by simp
  have E1 : ∀ o : AObj, h ++ [grow g] ++ [o] = h ++ [grow g, o] := fun o => by simp
  have gat : ∀ o : AObj, GAt (h ++ [grow g, o]) h.length g := fun o => .at0
  rw [letH_eq, L1, E1]
  refine GAt.rules (gat _) ?_
  rw [lenR, oW_some]
  refine ⟨CkI h g, g.rules.length, gcL_same ⟨0, [], rfl, rfl, by omega, by omega, .nil, by simp, by simp⟩, ?_⟩
  rintro k x89 x90 x91 x92 x93 h94 ⟨i, s, hv, rfl, hk, hi, hs, hm, hfit⟩
  simp only [List.cons.injEq, and_true] at hv
  obtain ⟨rfl, rfl, rfl, rfl, rfl⟩ := hv
  rw [n_lss, oW_some, bW_dec]
  have gm : getMap (h ++ [grow g, .map (encE (setE s))]) (h.length + 1) = some (encE (setE s)) := by rw [map_app]; rfl
  constructor
  · intro hlt
    have hlt' : i < g.rules.length := by omega
    have hmem : g.rules[i] ∈ g.rules := List.getElem_mem hlt'
    refine ix_rules hlt' ?_
    rw [GAt.ld (gat _), oW_some]
    refine callW_plain.2 (fits_spec (hf.rl _ hmem) ?_)
    rw [u_not, oW_some, bW_bool]
    refine ⟨fun q => no (fun p => by have := p.fit _ hmem; simp at q; exact q this) _, fun q => ?_⟩
    have hfi : g.fits g.rules[i] := by simpa using q
    refine ix0 hfi.1 ?_
    rw [up_int gm, sW_some, n_add (by omega), oW_some, set_app, aset_setE]
    refine ⟨g.rules.length - (i + 1), by omega, gcL_same ?_⟩
    have hm' : ∀ x, (x ∈ s ∨ x = (g.rules[i]).getD 0 0) ↔ ∃ r ∈ g.rules.take (i + 1), r.getD 0 0 = x := fun x => by
      rw [take_succ' hlt', hm]
      constructor
      · rintro (⟨r, hr, e⟩ | e)
        · exact ⟨r, List.mem_append.2 (.inl hr), e⟩
        · exact ⟨g.rules[i], List.mem_append.2 (.inr (by simp)), e.symm⟩
      · rintro ⟨r, hr, e⟩
        rcases List.mem_append.1 hr with q | q
        · exact .inl ⟨r, q, e⟩
        · simp at q; subst q; exact .inr e.symm
    have hf' : ∀ r ∈ g.rules.take (i + 1), g.fits r := fun r hr => by
      rw [take_succ' hlt'] at hr
      rcases List.mem_append.1 hr with q | q
      · exact hfit r q
      · simp at q; subst q; exact hfi
    by_cases hin : (g.rules[i]).getD 0 0 ∈ s
    · refine ⟨i + 1, s, by simp, by rw [if_pos hin]; rfl, rfl, by omega, hs, fun x => ?_, hf'⟩
      rw [← hm' x]
      exact ⟨.inl, fun q => q.elim id fun e => e ▸ hin⟩
    · refine ⟨i + 1, s ++ [(g.rules[i]).getD 0 0], by simp, by rw [if_neg hin]; rfl, rfl, by omega, ?_, fun x => ?_, hf'⟩
      · rw [List.nodup_append]
        exact ⟨hs, by simp, fun a ha b hb e => by simp at hb; subst hb; subst e; exact hin ha⟩
      · rw [← hm' x, List.mem_append, List.mem_singleton]
  · intro hge
    have hil : i = g.rules.length := by omega
    subst hil
    rw [List.take_length] at hm hfit
    have hlm : lenM (h ++ [grow g, .map (encE (setE s))]) (.map (some (h.length + 1))) = some (.int .i64 (s.length : Int)) := by
      simp only [lenM, gm]; simp
    rw [hlm, oW_some]
    refine GAt.names (gat _) ?_
    rw [lenN, oW_some]
    refine GAt.terms (gat _) ?_
    obtain ⟨p1, p2, p3, p4, p5, p6, p7⟩ := hp
    unfold Gr.n at p2 p4
    rw [n_sub (by omega), oW_some, n_neq, oW_some, bW_dec]
    have hb : ∀ x ∈ s, g.terms ≤ x ∧ x < g.names.length := fun x hx => by
      obtain ⟨r, hr, rfl⟩ := (hm x).1 hx
      have := (hfit r hr).2.2.1
      unfold Gr.made inR at this
      exact ⟨this.1, this.2.2⟩
    have hc := count_all p1 p2 hs hb
    have hok : g.ok ↔ (s.length : Int) = g.names.length - g.terms := by
      rw [hc, ok_iff]
      constructor
      · rintro ⟨_, _, q⟩ k k1 k2
        exact (hm _).2 (q k k1 k2)
      · intro q
        exact ⟨⟨p1, p2, p3, p4, p5, p6, p7⟩, hfit, fun k k1 k2 => (hm _).1 (q k k1 k2)⟩
    refine ⟨fun q => no (fun p => q (hok.1 p)) _, fun q => ?_⟩
    unfold Gr.chk at hq
    rw [if_pos (hok.2 (by simpa using q))] at hq
    exact gcV_box (.int _ _) hq

open Classical in
theorem right_spec {g : Gr} (hf : g.Fin) {h : Heap} {Q : Value → Heap → Prop} (hq : Q (.bool (decide g.ok)) h) : acall Try.prog F_sets_right [g.enc] h Q := by
  apply W_sets_right_ok
  unfold W_sets_right
  rw [box_gr, hW_some, GAt.ld .box, oW_some]
  refine callW_plain.2 (check16_spec hf ?_)
  rw [n_eql, oW_some]
  have : decide (g.chk = 0) = decide g.ok := by
    rw [decide_eq_decide]; unfold Gr.chk
    by_cases e : g.ok
    · simp [e]
    · simp [e]
  rw [this]
  exact gcV_box (.bool _) hq

end Go.Ax

namespace Go.Ax
open Go Go.Proofs Go.RowKit

/-- sets.until: 'nx' is what is done to a state, of which 'Inv' holds, at each row; 'μ' falls wherever something is new. -/
theorem until_spec {σ : Type} {rows : List (List Int)} {f : Value} (Inv : σ → Heap → Prop) (nx : σ → List Int → σ) (μ : σ → Nat) (hl : rows.length ≤ 9223372036854775807) {s0 : σ} {h : Heap} (h0 : Inv s0 h)
    (hf : ∀ s H r, r ∈ rows → Inv s H → ∀ K : Value → Heap → Prop, (∀ (b : Bool) H', Inv (nx s r) H' → (b = true → μ (nx s r) < μ s) → (b = false → nx s r = s) → K (.bool b) H') → callW Try.prog f [ints r] H K)
    {Q : Value → Heap → Prop} (hq : ∀ s H, Inv s H → (∀ r ∈ rows, nx s r = s) → Q (.tuple #[]) H) : acall Try.prog F_sets_until_int [lit (rows.map ints), f] h Q := by
  apply W_sets_until_int_ok
  unfold W_sets_until_int
  refine ⟨fun k vs H => ∃ (s : σ) (more : Bool), vs = [lit (rows.map ints), f, .bool more] ∧ Inv s H ∧ k = μ s + (if more = true then 1 else 0) ∧ (more = false → ∀ r ∈ rows, nx s r = s), μ s0 + 1, gcL_same ⟨s0, true, rfl, h0, by simp, fun q => by cases q⟩, ?_⟩
  rintro k x5 x6 x7 h8 ⟨s, more, hv, hI, hk, hd⟩
  simp only [List.cons.injEq, and_true] at hv
  obtain ⟨rfl, rfl, rfl⟩ := hv
  rw [bW_bool]
  refine ⟨fun hm => ?_, fun hm => gcV_same (hq s h8 hI (hd hm))⟩
  subst hm
  rw [lenR, oW_some]
  refine ⟨fun k vs H => ∃ (s1 : σ) (m : Bool) (i : Nat), vs = [lit (rows.map ints), x6, .bool m, lit (rows.map ints), .int .i64 (rows.length : Int), .int .i64 (i : Int)] ∧ Inv s1 H ∧ k = rows.length - i ∧ i ≤ rows.length ∧
    (m = true → μ s1 < μ s) ∧ (m = false → s1 = s ∧ ∀ r ∈ rows.take i, nx s1 r = s1), rows.length, gcL_same ⟨s, false, 0, rfl, hI, by omega, by omega, (fun q => by cases q), fun _ => ⟨rfl, by simp⟩⟩, ?_⟩
  rintro k2 x14 x15 x16 x17 x18 x19 h20 ⟨s1, m, i, hv, hI1, hk2, hi, t1, t2⟩
  simp only [List.cons.injEq, and_true] at hv
  obtain ⟨rfl, rfl, rfl, rfl, rfl, rfl⟩ := hv
  rw [n_lss, oW_some, bW_dec]
  constructor
  · intro hlt
    have hlt' : i < rows.length := by omega
    refine ix_rules hlt' (hf s1 h20 _ (List.getElem_mem hlt') hI1 _ fun b H' hI2 b1 b2 => ?_)
    rw [bW_bool]
    constructor
    · intro hb
      rw [n_add (by omega), oW_some]
      refine ⟨rows.length - (i + 1), by omega, gcL_same ⟨_, true, i + 1, by simp, hI2, rfl, by omega, fun _ => ?_, fun q => by cases q⟩⟩
      have := b1 hb
      cases m with
      | true => have := t1 rfl; omega
      | false => have := (t2 rfl).1; subst this; exact b1 hb
    · intro hb
      have e := b2 hb
      rw [e] at hI2
      rw [n_add (by omega), oW_some]
      refine ⟨rows.length - (i + 1), by omega, gcL_same ⟨s1, m, i + 1, by simp, hI2, rfl, by omega, t1, fun q => ⟨(t2 q).1, fun r hr => ?_⟩⟩⟩
      rw [take_succ' hlt'] at hr
      rcases List.mem_append.1 hr with z | z
      · exact (t2 q).2 r z
      · simp at z; subst z; exact e
  · intro hge
    have hil : i = rows.length := by omega
    subst hil
    rw [List.take_length] at t2
    cases m with
    | true => have := t1 rfl; exact ⟨μ s1 + 1, by simp at hk; omega, gcL_same ⟨s1, true, rfl, hI1, by simp, fun q => by cases q⟩⟩
    | false =>
      obtain ⟨rfl, t3⟩ := t2 rfl
      exact ⟨μ s1, by simp at hk; omega, gcL_same ⟨s1, false, rfl, hI1, by simp, fun _ => t3⟩⟩

abbrev brow (l : List Bool) : AObj := .row (l.map .bool) .exact
theorem set_brow {l : List Bool} {i : Nat} : (l.map Value.bool).set i (.bool true) = (markL l i).map .bool := by unfold markL; rw [List.map_set]
/-- The marks, and the variable that holds them. -/
def MkH (h : Heap) (g : Gr) (l : List Bool) (H : Heap) : Prop :=
  H = h ++ [grow g, brow l, .row [.slice (some ⟨h.length + 1, 0, none⟩) g.n g.n] .exact] ∧ l.length = g.n

section
variable {h H : Heap} {g : Gr} {l : List Bool} (m : MkH h g l H)
include m
theorem MkH.var : ldW false 1 H (.pointer (some ⟨h.length + 2, 0, none⟩)) = some (.slice (some ⟨h.length + 1, 0, none⟩) g.n g.n) := by
  rw [m.1, ldW_one, row_app]; rfl
theorem MkH.row : getRow H (h.length + 1) = some (l.map .bool, .exact) := by rw [m.1, row_app]; rfl
theorem MkH.get {x : Int} (hx : inR g.n x) {K : Value → Value → Prop} (k : K (.pointer (some ⟨h.length + 1, 0 + x.toNat * 1, none⟩)) (.bool (decide (onL l x.toNat)))) : oW (iaS 1 (.slice (some ⟨h.length + 1, 0, none⟩) g.n g.n) (.int .i64 x)) fun v => oW (ldW false 1 H v) fun w => K v w := by
  unfold inR at hx
  have hl : x.toNat < l.length := by rw [m.2]; omega
  rw [iaS_slice' hx.1 hx.2, oW_some]
  rw [ldW_one, m.row, Option.bind_some]
  refine ⟨.bool l[x.toNat], by rw [Nat.zero_add, Nat.mul_one, List.getElem?_map, List.getElem?_eq_getElem hl]; rfl, ?_⟩
  have : decide (onL l x.toNat) = l[x.toNat] := by rw [Bool.eq_iff_iff, decide_eq_true_eq, on_iff hl]
  rwa [this] at k
theorem MkH.put {x : Int} (hx : inR g.n x) {K : Heap → Prop} (k : ∀ H', MkH h g (markL l x.toNat) H' → K H') : oW (iaS 1 (.slice (some ⟨h.length + 1, 0, none⟩) g.n g.n) (.int .i64 x)) fun v => sW (stW 1 H v (.bool true)) K := by
  unfold inR at hx
  have hl : x.toNat < l.length := by rw [m.2]; omega
  rw [iaS_slice' hx.1 hx.2, oW_some, st1 m.row (by simp) rfl rfl rfl (by simp; omega), sW_some, set_brow, m.1, set_app]
  exact k _ ⟨by simp, by simp [m.2]⟩
theorem MkH.putB {x : Int} (hx : inR g.n x) {b : Bool} {K : Heap → Prop} (k : ∀ H', MkH h g (l.set x.toNat b) H' → K H') : oW (iaS 1 (.slice (some ⟨h.length + 1, 0, none⟩) g.n g.n) (.int .i64 x)) fun v => sW (stW 1 H v (.bool b)) K := by
  unfold inR at hx
  have hl : x.toNat < l.length := by rw [m.2]; omega
  rw [iaS_slice' hx.1 hx.2, oW_some, st1 m.row (by simp) rfl rfl rfl (by simp; omega), sW_some, m.1, set_app]
  refine k _ ⟨by simp [List.map_set], by simp [m.2]⟩
theorem MkH.done {Q : Value → Heap → Prop} (hq : Q (bools l) h) : gcV h Q (.slice (some ⟨h.length + 1, 0, none⟩) g.n g.n) H := by
  rw [m.1]
  refine gcV_end (Gv.frz1 (i := h.length + 1) (m := .exact) ⟨by omega, by simp⟩ ?_ (by simp [m.2]) (fun e he => by obtain ⟨b, _, rfl⟩ := List.mem_map.1 he; exact ⟨rfl, .bool _⟩)) hq
  rw [List.getElem?_append_right (by omega)]
  simp
omit m in
theorem MkH.gat (m : MkH h g l H) : GAt H h.length g := by rw [m.1]; exact .at0
end

theorem markedD_spec {h H : Heap} {g : Gr} (ok : g.ok) {l : List Bool} (m : MkH h g l H) {r : List Int} (hr : r ∈ g.rules) {K : Value → Heap → Prop}
    (k : ∀ (b : Bool) H', MkH h g (nstep l r) H' → (b = true → g.n - cntL (nstep l r) < g.n - cntL l) → (b = false → nstep l r = l) → K (.bool b) H') :
    callW Try.prog (.func (.func F_sets_marked_D1) #[] #[.pointer (some ⟨h.length + 2, 0, none⟩)]) [ints r] H K := by
  have fit := ok.fit r hr
  have hx := fit.2.2.1.2
  have hlt : lhs r < l.length := by rw [m.2]; exact lhs_lt ok hr
  rw [callW_known]
  apply W_sets_marked_D1_ok
  unfold W_sets_marked_D1
  show oW (ldW false 1 H (.pointer (some ⟨h.length + 2, 0, none⟩))) _
  rw [m.var, oW_some]
  refine ix0 fit.1 (m.get hx ?_)
  rw [bW_dec]
  constructor
  · intro hon
    rw [bW_true]
    have e : nstep l r = l := by
      unfold nstep; split
      · exact mark_same hon
      · rfl
    refine gcV_same (k false H (by rw [e]; exact m) (fun q => by cases q) fun _ => e)
  · intro hoff
    rw [sl1 fit.1, oW_some]
    refine callW_plain.2 (containsFuncL_spec (p := fun x => !decide (onL l x.toNat)) (by have := fit.2.1; simp; omega) (fun x hx' K' hK' => ?_) ⟨kept_same, ?_⟩)
    · rw [callW_known]
      apply W_sets_marked_D1_D1_ok
      unfold W_sets_marked_D1_D1
      show oW (ldW false 1 H (.pointer (some ⟨h.length + 2, 0, none⟩))) _
      rw [m.var, oW_some]
      refine m.get (fit.2.2.2 x hx') ?_
      rw [u_not, oW_some]
      exact gcV_same hK'
    · have hall : ((r.drop 1).any fun x => !decide (onL l x.toNat)) = !(rhs r).all fun x => decide (onL l x) := by
        unfold rhs
        rw [List.all_map, List.not_all_eq_any_not]; rfl
      rw [hall, bW_bool]
      constructor
      · intro q
        have q' : ¬ (rhs r).all (fun x => decide (onL l x)) = true := by simpa using q
        have e : nstep l r = l := by unfold nstep; rw [if_neg q']
        exact gcV_same (k false H (by rw [e]; exact m) (fun q => by cases q) fun _ => e)
      · intro q
        have q' : (rhs r).all (fun x => decide (onL l x)) = true := by simpa using q
        have e : nstep l r = markL l (lhs r) := by unfold nstep; rw [if_pos q']
        rw [m.var, oW_some]
        refine ix0 fit.1 (m.put hx fun H' m' => gcV_same (k true H' (by rw [e]; exact m') (fun _ => ?_) fun z => by cases z))
        have := cnt_mark hlt hoff
        have := cntL_le (markL l (lhs r))
        rw [markL_len, m.2] at this
        rw [e]; omega

/-- Marks to begin with: the tokens, or none. -/
def begL (g : Gr) (b : Bool) (i : Nat) : List Bool := (List.replicate i b) ++ List.replicate (g.n - i) false
theorem begL_on {g : Gr} {b : Bool} {i : Nat} {x : Nat} : onL (begL g b i) x ↔ b = true ∧ x < i := by
  unfold onL begL
  rw [List.getD_eq_getElem?_getD, List.getElem?_append, List.length_replicate]
  by_cases h : x < i
  · rw [if_pos h, List.getElem?_replicate, if_pos h]; simp [h]
  · rw [if_neg h, List.getElem?_replicate]
    split <;> simp [h]
theorem begL_set {g : Gr} {b : Bool} {i : Nat} (hi : i < g.n) : (begL g b i).set i b = begL g b (i + 1) := by
  unfold begL
  rw [List.set_append_right _ _ (by simp)]
  simp only [List.length_replicate, Nat.sub_self]
  obtain ⟨k, hk⟩ : ∃ k, g.n - i = k + 1 := ⟨g.n - i - 1, by omega⟩
  rw [hk, show g.n - (i + 1) = k by omega, List.replicate_succ, List.set_cons_zero, List.replicate_succ', List.append_assoc]; rfl
theorem nround_dl' {g : Gr} (ok : g.ok) {C : Cl1 Nat → Prop} {start l : List Bool} (hC : ∀ c, nullC g c → C c) (hC2 : ∀ c, C c → nullC g c ∨ c.2 = [] ∧ onL start c.1) (hl : l.length = g.n) (hs : ∀ i, onL start i → onL l i)
    (snd : ∀ i, onL l i → Dl C i) (fix : ∀ r ∈ g.rules, nstep l r = l) : l = setL g.n (Dl C) :=
  dl_eq hl snd fun x ps hc hp => by
    rcases hC2 _ hc with ⟨r, hr, e2⟩ | ⟨_, e3⟩
    · cases e2
      have := fix r hr
      unfold nstep at this
      rw [if_pos (List.all_eq_true.2 fun y hy => by simpa using hp y hy)] at this
      rw [← this]
      exact (mark_on (by rw [hl]; exact lhs_lt ok hr)).2 (.inl rfl)
    · exact hs _ e3
theorem nstep_snd {g : Gr} (ok : g.ok) {C : Cl1 Nat → Prop} (hC : ∀ c, nullC g c → C c) {l : List Bool} (hl : l.length = g.n) (snd : ∀ i, onL l i → Dl C i) {r : List Int} (hr : r ∈ g.rules) : ∀ i, onL (nstep l r) i → Dl C i := fun i hi => by
  unfold nstep at hi
  split at hi
  · rename_i hall
    rw [mark_on (by rw [hl]; exact lhs_lt ok hr)] at hi
    rcases hi with rfl | hi
    · refine .mk (hC _ ⟨r, hr, rfl⟩) fun p hp => snd p ?_
      have := List.all_eq_true.1 hall p hp
      simpa using this
    · exact snd i hi
  · exact snd i hi
def markC (g : Gr) (b : Bool) (c : Cl1 Nat) : Prop := (b = true ∧ ∃ t : Nat, (t : Int) < g.terms ∧ c = (t, [])) ∨ nullC g c
theorem markC_true {g : Gr} : markC g true = prodC g := by funext c; simp [markC, prodC]
theorem markC_false {g : Gr} : markC g false = nullC g := by funext c; simp [markC]
open Classical in
noncomputable def Gr.res (g : Gr) (l : List Bool) : Value := if g.ok then bools l else .slice none 0 0

theorem Gr.ok.fin {g : Gr} (ok : g.ok) : g.Fin := ⟨by have := ok.nn; unfold Gr.n at this; omega, by have := ok.nn; have := ok.tk; have := ok.tn; unfold Gr.n at *; omega, by have := ok.rr; omega, fun r hr => by have := (ok.fit r hr).2.1; omega⟩

theorem marked_spec {g : Gr} (hf : g.Fin) {b : Bool} {h : Heap} {Q : Value → Heap → Prop} (hq : Q (g.res (setL g.n (Dl (markC g b)))) h) : acall Try.prog F_sets_marked [g.enc, .bool b] h Q := by
  apply W_sets_marked_ok
  unfold W_sets_marked
  rw [box_gr, hW_some, GAt.ld .box, oW_some]
  refine callW_plain.2 (right_spec hf ?_)
  rw [u_not, oW_some, bW_bool]
  refine ⟨fun q => ?_, fun q => ?_⟩
  · have hn : ¬ g.ok := by simpa using q
    unfold Gr.res at hq
    rw [if_neg hn] at hq
    exact gcV_box .nilS hq
  have ok : g.ok := by simpa using q
  unfold Gr.res at hq
  rw [if_pos ok] at hq
  refine GAt.names .box ?_
  have hn := ok.nn
  unfold Gr.n at hn
  rw [lenN, oW_some]
  have hrep : repA [Value.bool false] g.names.length = (List.replicate g.names.length false).map Value.bool := by rw [repA_one, List.map_replicate]
  refine ⟨_, _, by
    simp only [mksW]
    rw [if_pos (by omega)], ?_⟩
  simp only [Int.toNat_natCast]
  rw [hrep, letH_eq]
  have L1 : (h ++ [grow g]).length = h.length + 1 := by simp
  have L2 : (h ++ [grow g] ++ [brow (List.replicate g.names.length false)]).length = h.length + 2 := by simp
  rw [L2, L1]
  have est : stW 1 (h ++ [grow g] ++ [brow (List.replicate g.names.length false)] ++ [AObj.row [.slice none 0 0] .exact]) (.pointer (some ⟨h.length + 2, 0, none⟩)) (.slice (some ⟨h.length + 1, 0, none⟩) g.names.length g.names.length) =
      some (h ++ [grow g, brow (List.replicate g.names.length false), .row [.slice (some ⟨h.length + 1, 0, none⟩) g.n g.n] .exact]) := by
    rw [st1 (c := [.slice none 0 0]) (m := .exact) (by rw [← L2, row_app0]; rfl) (by simp) rfl rfl rfl (by simp), ← L2, set_app0]
    simp
  rw [est, sW_some]
  have m0 : MkH h g (begL g b 0) (h ++ [grow g, brow (List.replicate g.names.length false), .row [.slice (some ⟨h.length + 1, 0, none⟩) g.n g.n] .exact]) := by
    have : begL g b 0 = List.replicate g.names.length false := by simp [begL]
    rw [this]
    exact ⟨rfl, by simp⟩
  refine m0.gat.terms ?_
  obtain ⟨tn, htn⟩ := Int.eq_ofNat_of_zero_le ok.t0
  have htl : tn ≤ g.n := by have := ok.tn; omega
  rw [htn]
  refine ⟨fun k vs H => ∃ i : Nat, vs = [.bool b, .pointer (some ⟨h.length, 0, none⟩), .pointer (some ⟨h.length + 2, 0, none⟩), .int .i64 (tn : Int), .int .i64 (i : Int)] ∧ MkH h g (begL g b i) H ∧ k = tn - i ∧ i ≤ tn, tn, gcL_same ⟨0, rfl, m0, by omega, by omega⟩, ?_⟩
  rintro k x20 x21 x22 x23 x24 h25 ⟨i, hv, m, hk, hi⟩
  simp only [List.cons.injEq, and_true] at hv
  obtain ⟨rfl, rfl, rfl, rfl, rfl⟩ := hv
  rw [n_lss, oW_some, bW_dec]
  constructor
  · intro hlt
    rw [m.var, oW_some]
    refine m.putB (x := (i : Int)) ⟨by omega, by omega⟩ fun H' m' => ?_
    rw [n_add (by unfold Gr.n at htl; omega), oW_some]
    refine ⟨tn - (i + 1), by omega, gcL_same ⟨i + 1, by simp, ?_, rfl, by omega⟩⟩
    rw [Int.toNat_natCast, begL_set (by omega)] at m'
    exact m'
  · intro hge
    have hit : i = tn := by omega
    subst hit
    refine m.gat.rules ?_
    have hC : ∀ c, nullC g c → markC g b c := fun c q => .inr q
    refine callW_plain.2 (until_spec (fun l H => MkH h g l H ∧ (∀ x, onL (begL g b i) x → onL l x) ∧ ∀ x, onL l x → Dl (markC g b) x) nstep (fun l => g.n - cntL l) (by have := ok.rr; omega) (s0 := begL g b i) ⟨m, fun _ q => q, fun x q => ?_⟩ (fun l H r hr ⟨m, i1, i2⟩ K hK => ?_) fun l H ⟨m, i1, i2⟩ fix => ?_)
    · rw [begL_on] at q
      exact .mk (ps := []) (.inl ⟨q.1, x, by omega, rfl⟩) (by simp)
    · exact markedD_spec ok m hr fun b' H' m' b1 b2 => hK b' H' ⟨m', fun x q => (nstep_grows r).up l x (i1 x q), nstep_snd ok hC m.2 i2 hr⟩ b1 b2
    · rw [m.var, oW_some]
      refine m.done ?_
      have := nround_dl' (start := begL g b i) ok hC (fun c hc => ?_) m.2 i1 i2 fix
      · rw [this]; exact hq
      · rcases hc with ⟨hb, t, ht, rfl⟩ | q
        · exact .inr ⟨rfl, begL_on.2 ⟨hb, by omega⟩⟩
        · exact .inl q

theorem cl_bl {l : List Bool} : Cl (bools l) := Cl.lit' fun e he x hx => by
  obtain ⟨b, _, rfl⟩ := List.mem_map.1 he
  simp at hx; subst hx; exact .bool _
theorem cl_il {l : List Int} : Cl (ints l) := Cl.lit' int_cl
theorem nullable_spec {g : Gr} (hf : g.Fin) {h : Heap} {Q : Value → Heap → Prop} (hq : Q (g.res g.nullL) h) : acall Try.prog F_sets_Nullable [g.enc] h Q := by
  apply W_sets_Nullable_ok
  unfold W_sets_Nullable
  rw [box_gr, hW_some, GAt.ld .box, oW_some]
  refine callW_plain.2 (marked_spec hf ?_)
  rw [markC_false]
  exact gcV_box (by unfold Gr.res; split <;> first | exact cl_bl | exact .nilS) hq
theorem productive_spec {g : Gr} (hf : g.Fin) {h : Heap} {Q : Value → Heap → Prop} (hq : Q (g.res g.prodL) h) : acall Try.prog F_sets_Productive [g.enc] h Q := by
  apply W_sets_Productive_ok
  unfold W_sets_Productive
  rw [box_gr, hW_some, GAt.ld .box, oW_some]
  refine callW_plain.2 (marked_spec hf ?_)
  rw [markC_true]
  exact gcV_box (by unfold Gr.res; split <;> first | exact cl_bl | exact .nilS) hq

end Go.Ax

namespace Go.Ax
open Go Go.Proofs Go.RowKit

/-- Does a rule make a symbol? -/
def hds (x : Int) (r : List Int) : Bool := decide (0 < r.length ∧ r.getD 0 0 = x)
/-- The rules that make a symbol, of the first ones. -/
def Gr.byTo (g : Gr) (x : Int) (i : Nat) : List Int := ((List.range i).filter fun j => hds x (g.rules.getD j [])).map fun (j : Nat) => (j : Int)
def Gr.byL (g : Gr) (x : Int) : List Int := g.byTo x g.rules.length
theorem byTo_len {g : Gr} {x : Int} {i : Nat} : (g.byTo x i).length ≤ i := by
  unfold Gr.byTo
  rw [List.length_map]
  exact Nat.le_trans (List.length_filter_le _ _) (by simp)
theorem byTo_succ {g : Gr} {x : Int} {i : Nat} (h : i < g.rules.length) : g.byTo x (i + 1) = if hds x g.rules[i] = true then g.byTo x i ++ [(i : Int)] else g.byTo x i := by
  unfold Gr.byTo
  have : g.rules.getD i [] = g.rules[i] := by rw [List.getD_eq_getElem?_getD, List.getElem?_eq_getElem h]; rfl
  rw [List.range_succ, List.filter_append, List.map_append]
  simp only [List.filter_cons, List.filter_nil, this]
  split
  · rfl
  · simp
theorem mem_byL {g : Gr} {x y : Int} : y ∈ g.byL x ↔ inR g.rules.length y ∧ hds x (g.rules.getD y.toNat []) = true := by
  unfold Gr.byL Gr.byTo inR
  rw [List.mem_map]
  constructor
  · rintro ⟨j, hj, rfl⟩
    obtain ⟨h1, h2⟩ := List.mem_filter.1 hj
    have := List.mem_range.1 h1
    exact ⟨⟨by omega, by omega⟩, by simpa using h2⟩
  · rintro ⟨⟨h1, h2⟩, h3⟩
    exact ⟨y.toNat, List.mem_filter.2 ⟨List.mem_range.2 (by omega), h3⟩, by omega⟩

theorem by_spec {g : Gr} (hl : g.rules.length ≤ 1000000000) {x : Int} {h : Heap} {Q : Value → Heap → Prop} (hq : Q (ints (g.byL x)) h) : acall Try.prog F_symbols_By [g.enc, .int .i64 x] h Q := by
  apply W_symbols_By_ok
  unfold W_symbols_By
  rw [box_gr, hW_some]
  refine GAt.rules .box ?_
  rw [lenR, oW_some]
  have hB : (h ++ [grow g]).length = h.length + 1 := by simp
  refine ⟨fun k vs H => ∃ (i : Nat) (v : Value) (t : Heap), vs = [.int .i64 x, v, lit (g.rules.map ints), .int .i64 (g.rules.length : Int), .int .i64 (i : Int)] ∧ H = h ++ [grow g] ++ t ∧ k = g.rules.length - i ∧ i ≤ g.rules.length ∧ Acc 1 (h.length + 1) H v ((g.byTo x i).map fun x => .int .i64 x),
    g.rules.length, gcL_same ⟨0, _, [], rfl, by simp, by omega, by omega, Acc.nil⟩, ?_⟩
  rintro k x10 x11 x12 x13 x14 H ⟨i, v, t, hv, rfl, hk, hi, ac⟩
  simp only [List.cons.injEq, and_true] at hv
  obtain ⟨rfl, rfl, rfl, rfl, rfl⟩ := hv
  rw [n_lss, oW_some, bW_dec]
  have hbl := byTo_len (g := g) (x := x) (i := i)
  constructor
  · intro hlt
    have hlt' : i < g.rules.length := by omega
    have hs := byTo_succ (x := x) hlt'
    have no : hds x g.rules[i] = false → oW (binN .add (.int .i64 (i : Int)) (.int .i64 1)) fun v29 => ∃ m8, m8 < k ∧ gcL h ((fun k vs H => ∃ (i : Nat) (v : Value) (t : Heap), vs = [.int .i64 x, v, lit (g.rules.map ints), .int .i64 (g.rules.length : Int), .int .i64 (i : Int)] ∧ H = h ++ [grow g] ++ t ∧ k = g.rules.length - i ∧ i ≤ g.rules.length ∧ Acc 1 (h.length + 1) H v ((g.byTo x i).map fun x => .int .i64 x)) m8) [.int .i64 x, x11, lit (g.rules.map ints), .int .i64 (g.rules.length : Int), v29] (h ++ [grow g] ++ t) := fun q => by
      rw [n_add (by omega), oW_some]
      exact ⟨g.rules.length - (i + 1), by omega, gcL_same ⟨i + 1, x11, t, by simp, rfl, rfl, by omega, by rw [hs, if_neg (by simp [q])]; exact ac⟩⟩
    refine ix_rules hlt' ?_
    rw [lenI, oW_some, n_gtr, oW_some, bW_dec]
    constructor
    · intro h0
      have h0' : 0 < g.rules[i].length := by omega
      refine ix0 h0' ?_
      rw [n_eql, oW_some, bW_dec]
      constructor
      · intro he
        refine Acc.push hB ac (by omega) int_len rfl rfl rfl rfl (by simp; omega) (by simp; omega) fun v' g' a2 _ _ _ => ?_
        rw [n_add (by omega), oW_some]
        exact ⟨g.rules.length - (i + 1), by omega, gcL_same ⟨i + 1, v', g', by simp, rfl, rfl, by omega, by rw [hs, if_pos (show hds x g.rules[i] = true from decide_eq_true ⟨h0', he⟩), List.map_append]; exact a2⟩⟩
      · intro he
        exact no (by unfold hds; rw [decide_eq_false]; exact fun z => he z.2)
    · intro h0
      rw [bW_false]
      exact no (by unfold hds; rw [decide_eq_false]; exact fun z => h0 (by omega))
  · intro hge
    have : i = g.rules.length := by omega
    subst this
    exact ac.done hB ⟨_, rfl⟩ (by omega) int_len int_cl hq

theorem refBy_spec {g : Gr} (hl : g.rules.length ≤ 1000000000) {x : Int} {h : Heap} {Q : Value → Heap → Prop} (hq : Q (ints (g.byL x)) h) : acall Try.prog F_homographref16_By [g.enc, .int .i64 x] h Q := by
  apply W_homographref16_By_ok
  unfold W_homographref16_By
  rw [box_gr, hW_some]
  have hB : (h ++ [grow g]).length = h.length + 1 := by simp
  refine ⟨fun k vs H => ∃ (i : Nat) (v : Value) (t : Heap), vs = [.int .i64 x, .pointer (some ⟨h.length, 0, none⟩), v, .int .i64 (i : Int)] ∧ H = h ++ [grow g] ++ t ∧ k = g.rules.length - i ∧ i ≤ g.rules.length ∧ Acc 1 (h.length + 1) H v ((g.byTo x i).map fun x => .int .i64 x),
    g.rules.length, gcL_same ⟨0, _, [], rfl, by simp, by omega, by omega, Acc.nil⟩, ?_⟩
  rintro k x7 x8 x9 x10 H ⟨i, v, t, hv, rfl, hk, hi, ac⟩
  simp only [List.cons.injEq, and_true] at hv
  obtain ⟨rfl, rfl, rfl, rfl⟩ := hv
  have ga : GAt (h ++ [grow g] ++ t) h.length g := GAt.box.app
  refine ga.rules ?_
  rw [lenR, oW_some, n_lss, oW_some, bW_dec]
  have hbl := byTo_len (g := g) (x := x) (i := i)
  constructor
  · intro hlt
    have hlt' : i < g.rules.length := by omega
    have hs := byTo_succ (x := x) hlt'
    have no : hds x g.rules[i] = false → oW (binN .add (.int .i64 (i : Int)) (.int .i64 1)) fun v29 => ∃ m8, m8 < k ∧ gcL h ((fun k vs H => ∃ (i : Nat) (v : Value) (t : Heap), vs = [.int .i64 x, .pointer (some ⟨h.length, 0, none⟩), v, .int .i64 (i : Int)] ∧ H = h ++ [grow g] ++ t ∧ k = g.rules.length - i ∧ i ≤ g.rules.length ∧ Acc 1 (h.length + 1) H v ((g.byTo x i).map fun x => .int .i64 x)) m8) [.int .i64 x, .pointer (some ⟨h.length, 0, none⟩), x9, v29] (h ++ [grow g] ++ t) := fun q => by
      rw [n_add (by omega), oW_some]
      exact ⟨g.rules.length - (i + 1), by omega, gcL_same ⟨i + 1, x9, t, by simp, rfl, rfl, by omega, by rw [hs, if_neg (by simp [q])]; exact ac⟩⟩
    refine ga.rules (ix_rules hlt' ?_)
    rw [lenI, oW_some, n_gtr, oW_some, bW_dec]
    constructor
    · intro h0
      have h0' : 0 < g.rules[i].length := by omega
      refine ga.rules (ix_rules hlt' (ix0 h0' ?_))
      rw [n_eql, oW_some, bW_dec]
      constructor
      · intro he
        refine Acc.push hB ac (by omega) int_len rfl rfl rfl rfl (by simp; omega) (by simp; omega) fun v' g' a2 _ _ _ => ?_
        rw [n_add (by omega), oW_some]
        exact ⟨g.rules.length - (i + 1), by omega, gcL_same ⟨i + 1, v', g', by simp, rfl, rfl, by omega, by rw [hs, if_pos (show hds x g.rules[i] = true from decide_eq_true ⟨h0', he⟩), List.map_append]; exact a2⟩⟩
      · intro he
        exact no (by unfold hds; rw [decide_eq_false]; exact fun z => he z.2)
    · intro h0
      rw [bW_false]
      exact no (by unfold hds; rw [decide_eq_false]; exact fun z => h0 (by omega))
  · intro hge
    have : i = g.rules.length := by omega
    subst this
    exact ac.done hB ⟨_, rfl⟩ (by omega) int_len int_cl hq

theorem refMade_spec {g : Gr} {x : Int} {h : Heap} {Q : Value → Heap → Prop} (hq : Q (.bool (decide (g.terms ≤ x ∧ x < g.n))) h) : acall Try.prog F_homographref16_made [g.enc, .int .i64 x] h Q := by
  apply W_homographref16_made_ok
  unfold W_homographref16_made
  rw [box_gr, hW_some]
  refine GAt.terms .box ?_
  rw [n_geq, oW_some, bW_dec]
  refine ⟨fun h0 => GAt.names .box ?_, fun h0 => ?_⟩
  · rw [lenN, oW_some, n_lss, oW_some]
    have : decide (x < (g.names.length : Int)) = decide (g.terms ≤ x ∧ x < (g.n : Int)) := by rw [decide_eq_decide]; unfold Gr.n; omega
    rw [this]
    exact gcV_box (.bool _) hq
  · rw [decide_eq_false (fun q => h0 q.1)] at hq
    exact gcV_box (.bool _) hq

def Rk1 (h : Heap) (g : Gr) (k : Nat) (vs : List Value) (H : Heap) : Prop :=
  ∃ i : Nat, vs = [.pointer (some ⟨h.length, 0, none⟩), .int .i64 (i : Int)] ∧ H = h ++ [grow g] ∧ k = g.rules.length - i ∧ i ≤ g.rules.length ∧ ∀ r ∈ g.rules.take i, g.fits r
def Rk2 (h : Heap) (g : Gr) (i : Nat) (r : List Int) (k : Nat) (vs : List Value) (H : Heap) : Prop :=
  ∃ j : Nat, vs = [.pointer (some ⟨h.length, 0, none⟩), .int .i64 (i : Int), ints r, .int .i64 (j : Int)] ∧ H = h ++ [grow g] ∧ k = r.length - j ∧ 1 ≤ j ∧ j ≤ r.length ∧ ∀ x ∈ (r.drop 1).take (j - 1), inR g.n x
def Rk3 (h : Heap) (g : Gr) (k : Nat) (vs : List Value) (H : Heap) : Prop :=
  ∃ s : Nat, vs = [.pointer (some ⟨h.length, 0, none⟩), .int .i64 (s : Int)] ∧ H = h ++ [grow g] ∧ k = g.n - s ∧ g.terms ≤ s ∧ s ≤ g.n ∧ ∀ q : Nat, g.terms ≤ q → q < s → ∃ r ∈ g.rules, r.getD 0 0 = q

theorem refCheck_spec {g : Gr} (hf : g.Fin) {h : Heap} {Q : Value → Heap → Prop} (hq : Q (.int .i64 g.chk) h) : acall Try.prog F_homographref16_Check [g.enc] h Q := by
  have no : ¬ g.ok → ∀ t, gcV h Q (.int .i64 1) (h ++ t) := fun hn t => by
    unfold Gr.chk at hq
    rw [if_neg hn] at hq
    exact gcV_box (.int _ _) hq
  have no' : ¬ g.pre → ∀ t, gcV h Q (.int .i64 1) (h ++ t) := fun hn t => no (fun q => hn (ok_iff.1 q).1) t
  have l1 := hf.ln
  have l2 := hf.lt
  have l3 := hf.lr
  apply W_homographref16_Check_ok
  unfold W_homographref16_Check
  rw [box_gr, hW_some]
  refine ⟨fun vs H => vs = [.pointer (some ⟨h.length, 0, none⟩)] ∧ H = h ++ [grow g] ∧ g.pre, ?_, ?_⟩
  · refine GAt.terms .box ?_
    rw [n_lss, oW_some, bW_dec]
    refine ⟨fun q => by rw [bW_true]; exact no' (fun p => by have := p.1; omega) _, fun c0 => GAt.terms .box (GAt.names .box ?_)⟩
    rw [lenN, oW_some, n_gtr, oW_some, bW_dec]
    refine ⟨fun q => by rw [bW_true]; exact no' (fun p => by have := p.2.1; unfold Gr.n at this; omega) _, fun c1 => GAt.tokens .box ?_⟩
    rw [lenI, oW_some]
    refine GAt.terms .box ?_
    rw [n_neq, oW_some, bW_dec]
    refine ⟨fun q => by rw [bW_true]; exact no' (fun p => q p.2.2.1) _, fun c2 => GAt.names .box ?_⟩
    rw [lenN, oW_some, n_gtr, oW_some, bW_dec]
    refine ⟨fun q => by rw [bW_true]; exact no' (fun p => by have := p.2.2.2.1; unfold Gr.n at this; omega) _, fun c3 => GAt.rules .box ?_⟩
    rw [lenR, oW_some, n_lss, oW_some, bW_dec]
    refine ⟨fun q => by rw [bW_true]; exact no' (fun p => by have := p.2.2.2.2.1; omega) _, fun c4 => GAt.rules .box ?_⟩
    rw [lenR, oW_some, n_gtr, oW_some, bW_dec]
    refine ⟨fun q => by rw [bW_true]; exact no' (fun p => by have := p.2.2.2.2.2.1; omega) _, fun c5 => ?_⟩
    rw [GAt.ld .box, oW_some]
    refine GAt.start .box (callW_plain.2 (refMade_spec ?_))
    rw [u_not, oW_some, bW_bool]
    refine ⟨fun q => no' (fun p => by have := p.2.2.2.2.2.2; unfold Gr.made inR at this; simp at q; omega) _, fun c6 => gcL_same ⟨rfl, rfl, by omega, by unfold Gr.n; omega, by simpa using c2, by unfold Gr.n; omega, by omega, by omega, ?_⟩⟩
    simp at c6
    exact ⟨c6.1, by omega, c6.2⟩
  rintro x37 h38 ⟨hv, rfl, hp⟩
  simp only [List.cons.injEq, and_true] at hv
  subst hv
  refine ⟨Rk1 h g, g.rules.length, gcL_same ⟨0, rfl, rfl, by omega, by omega, by simp⟩, ?_⟩
  rintro k x43 x44 h45 ⟨i, hv, rfl, hk, hi, hfit⟩
  simp only [List.cons.injEq, and_true] at hv
  obtain ⟨rfl, rfl⟩ := hv
  refine GAt.rules .box ?_
  rw [lenR, oW_some, n_lss, oW_some, bW_dec]
  constructor
  · intro hlt
    have hlt' : i < g.rules.length := by omega
    have hmem : g.rules[i] ∈ g.rules := List.getElem_mem hlt'
    have hrl := hf.rl _ hmem
    have bad : ¬ g.fits g.rules[i] → ∀ t, gcV h Q (.int .i64 1) (h ++ t) := fun hn t => no (fun q => hn (q.fit _ hmem)) t
    refine GAt.rules .box (ix_rules hlt' ?_)
    generalize hr : g.rules[i] = r at *
    rw [lenI, oW_some, n_lss, oW_some, bW_dec]
    refine ⟨fun q => by rw [bW_true]; exact bad (fun z => by have := z.1; omega) _, fun c0 => ?_⟩
    rw [oW_some, n_gtr, oW_some, bW_dec]
    refine ⟨fun q => by rw [bW_true]; exact bad (fun z => by have := z.2.1; omega) _, fun c1 => ?_⟩
    have c0' : 0 < r.length := by omega
    rw [GAt.ld .box, oW_some]
    refine ix0 c0' (callW_plain.2 (refMade_spec ?_))
    refine ⟨kept_same, ?_⟩
    rw [u_not, oW_some, bW_bool]
    refine ⟨fun q => bad (fun z => by have := z.2.2.1; unfold Gr.made inR at this; simp only [Bool.not_eq_true', decide_eq_false_iff_not] at q; omega) _, fun c2 => ?_⟩
    have hmd : g.made (r.getD 0 0) := by
      have hp1 := hp.1
      simp only [Bool.not_eq_false', decide_eq_true_eq] at c2
      exact ⟨c2.1, by omega, c2.2⟩
    refine ⟨Rk2 h g i r, r.length - 1, gcL_same ⟨1, rfl, rfl, by omega, by omega, by omega, by simp⟩, ?_⟩
    rintro k2 x60 x61 x62 x63 h64 ⟨j, hv, rfl, hk2, hj1, hj2, hin⟩
    simp only [List.cons.injEq, and_true] at hv
    obtain ⟨rfl, rfl, rfl, rfl⟩ := hv
    rw [lenI, oW_some, n_lss, oW_some, bW_dec]
    have fit_of : (∀ x ∈ r.drop 1, inR g.n x) → g.fits r := fun q => ⟨c0', by omega, hmd, q⟩
    constructor
    · intro hltj
      have hltj' : j < r.length := by omega
      have hdr : r[j] ∈ r.drop 1 := by
        rw [List.mem_iff_getElem?]
        exact ⟨j - 1, by rw [List.getElem?_drop, show 1 + (j - 1) = j by omega, List.getElem?_eq_getElem hltj']⟩
      refine ix_ints hltj' ?_
      rw [n_lss, oW_some, bW_dec]
      refine ⟨fun q => by rw [bW_true]; exact bad (fun z => by have := z.2.2.2 _ hdr; unfold inR at this; omega) _, fun d0 => ix_ints hltj' (GAt.names .box ?_)⟩
      rw [lenN, oW_some, n_geq, oW_some, bW_dec]
      refine ⟨fun q => bad (fun z => by have := z.2.2.2 _ hdr; unfold inR Gr.n at this; omega) _, fun d1 => ?_⟩
      rw [n_add (by omega), oW_some]
      refine ⟨r.length - (j + 1), by omega, gcL_same ⟨j + 1, by simp, rfl, rfl, by omega, by omega, fun x hx => ?_⟩⟩
      rw [show j + 1 - 1 = (j - 1) + 1 by omega, take_succ' (by simp; omega)] at hx
      rcases List.mem_append.1 hx with q | q
      · exact hin x q
      · simp only [List.mem_singleton] at q
        subst q
        rw [List.getElem_drop]
        have : r[1 + (j - 1)] = r[j] := by congr 1; omega
        rw [this]
        unfold inR Gr.n; omega
    · intro hgej
      rw [List.take_of_length_le (by simp; omega)] at hin
      rw [n_add (by omega), oW_some]
      refine ⟨g.rules.length - (i + 1), by omega, gcL_same ⟨i + 1, by simp, rfl, rfl, by omega, fun r' hr' => ?_⟩⟩
      rw [take_succ' hlt'] at hr'
      rcases List.mem_append.1 hr' with q | q
      · exact hfit r' q
      · simp only [List.mem_singleton, hr] at q; subst q; exact fit_of hin
  · intro hge
    have hil : i = g.rules.length := by omega
    subst hil
    rw [List.take_length] at hfit
    obtain ⟨p1, p2, p3, p4, p5, p6, p7⟩ := id hp
    obtain ⟨tn, htn⟩ := Int.eq_ofNat_of_zero_le p1
    refine GAt.terms .box ?_
    refine ⟨Rk3 h g, g.n - tn, gcL_same ⟨tn, by rw [htn], rfl, rfl, by omega, by omega, fun q q1 q2 => by omega⟩, ?_⟩
    rintro k3 x y h3 ⟨s, hv, rfl, hk3, hs1, hs2, hall⟩
    simp only [List.cons.injEq, and_true] at hv
    obtain ⟨rfl, rfl⟩ := hv
    refine GAt.names .box ?_
    rw [lenN, oW_some, n_lss, oW_some, bW_dec]
    constructor
    · intro hlt
      rw [GAt.ld .box, oW_some]
      refine callW_plain.2 (refBy_spec (by omega) ?_)
      rw [lenI, oW_some, n_eql, oW_some, bW_dec]
      constructor
      · intro h0
        refine no (fun ok => ?_) _
        obtain ⟨r, hr, e⟩ := ok.all s hs1 (by unfold Gr.n; omega)
        obtain ⟨j, hj, rfl⟩ := List.mem_iff_getElem.1 hr
        have : (j : Int) ∈ g.byL s := mem_byL.2 ⟨⟨by omega, by omega⟩, by
          rw [Int.toNat_natCast, List.getD_eq_getElem?_getD, List.getElem?_eq_getElem hj]
          unfold hds
          exact decide_eq_true ⟨(hfit _ hr).1, e⟩⟩
        have hlen : (g.byL s).length = 0 := by omega
        rw [List.eq_nil_of_length_eq_zero hlen] at this
        cases this
      · intro h0
        rw [n_add (by omega), oW_some]
        refine ⟨g.n - (s + 1), by unfold Gr.n at *; omega, gcL_same ⟨s + 1, by simp, rfl, rfl, by omega, by unfold Gr.n; omega, fun q q1 q2 => ?_⟩⟩
        by_cases e : q = s
        · subst e
          obtain ⟨y, hy⟩ := List.exists_mem_of_length_pos (l := g.byL q) (by omega)
          obtain ⟨h1, h2⟩ := mem_byL.1 hy
          unfold inR at h1
          unfold hds at h2
          rw [List.getD_eq_getElem?_getD, List.getElem?_eq_getElem (by omega : y.toNat < g.rules.length)] at h2
          exact ⟨g.rules[y.toNat]'(by omega), List.getElem_mem _, (of_decide_eq_true h2).2⟩
        · exact hall q q1 (by omega)
    · intro hge
      have ok : g.ok := ok_iff.2 ⟨hp, hfit, fun q q1 q2 => hall q q1 (by unfold Gr.n at *; omega)⟩
      unfold Gr.chk at hq
      rw [if_pos ok] at hq
      exact gcV_box (.int _ _) hq

open Classical in
theorem refRight_spec {g : Gr} (hf : g.Fin) {h : Heap} {Q : Value → Heap → Prop} (hq : Q (.bool (decide g.ok)) h) : acall Try.prog F_homographref17_right [g.enc] h Q := by
  apply W_homographref17_right_ok
  unfold W_homographref17_right
  rw [box_gr, hW_some, GAt.ld .box, oW_some]
  refine callW_plain.2 (refCheck_spec hf ?_)
  rw [n_eql, oW_some]
  have : decide (g.chk = 0) = decide g.ok := by
    rw [decide_eq_decide]; unfold Gr.chk
    by_cases e : g.ok
    · simp [e]
    · simp [e]
  rw [this]
  exact gcV_box (.bool _) hq

end Go.Ax

namespace Go.Ax
open Go Go.Proofs Go.RowKit

theorem mark_grows (i : Nat) : Grows fun l => markL l i := ⟨fun _ => markL_len, fun l j q => by
  by_cases h : i < l.length
  · exact (mark_on h).2 (.inr q)
  · unfold markL; rw [List.set_eq_of_length_le (by omega)]; exact q⟩
/-- What a rule leads to. -/
def rstep (l : List Bool) (r : List Int) : List Bool := if onL l (lhs r) then (rhs r).foldl markL l else l
theorem rstep_grows (r : List Int) : Grows fun l => rstep l r := by
  refine ⟨fun l => ?_, fun l i q => ?_⟩
  · unfold rstep; split
    · exact fold_len mark_grows
    · rfl
  · unfold rstep; split
    · exact fold_up mark_grows q
    · exact q
def rround (g : Gr) (l : List Bool) : List Bool := g.rules.foldl rstep l
def startL (g : Gr) : List Bool := markL (List.replicate g.n false) g.start.toNat
theorem start_lt {g : Gr} (ok : g.ok) : g.start.toNat < g.n := by have := ok.st; unfold Gr.made inR at this; omega
theorem startL_on {g : Gr} (ok : g.ok) {i : Nat} : onL (startL g) i ↔ i = g.start.toNat := by
  unfold startL
  rw [mark_on (by simp; exact start_lt ok)]
  exact ⟨fun q => q.elim id fun z => absurd z on_fls, .inl⟩
theorem marks_on {xs : List Nat} : ∀ {l : List Bool}, (∀ x ∈ xs, x < l.length) → ∀ {i : Nat}, onL (xs.foldl markL l) i ↔ onL l i ∨ i ∈ xs := by
  induction xs with
  | nil => intro l _ i; simp
  | cons x xs ih =>
    intro l h i
    rw [List.foldl_cons, ih (fun y hy => by rw [markL_len]; exact h y (by simp [hy])), mark_on (h x (by simp)), List.mem_cons]
    constructor
    · rintro ((q | q) | q)
      · exact .inr (.inl q)
      · exact .inl q
      · exact .inr (.inr q)
    · rintro (q | q | q)
      · exact .inl (.inr q)
      · exact .inl (.inl q)
      · exact .inr q
theorem rround_dl {g : Gr} (ok : g.ok) {k : Nat} (hk : g.n < k) : itr (rround g) k (startL g) = g.reachL := by
  refine itr_dl (f := rround g) (fold_grows rstep_grows _) (by simp [startL]) (fun i q => ?_) (fun l hl q => ?_) (fun l hl q e x ps hc hp => ?_) hk
  · rw [startL_on ok] at q; subst q
    exact .mk (ps := []) (.inl rfl) (by simp)
  · have : (g.rules.foldl rstep l).length = g.n ∧ ∀ i, onL (g.rules.foldl rstep l) i → Dl (reachC g) i := by
      refine fold_keep (P := fun l => l.length = g.n ∧ ∀ i, onL l i → Dl (reachC g) i) (fun l ⟨hl, q⟩ r hr => ⟨by rw [(rstep_grows r).len, hl], fun i hi => ?_⟩) ⟨hl, q⟩
      unfold rstep at hi
      split at hi
      · rename_i hon
        rw [marks_on (fun x hx => by rw [hl]; exact rhs_lt ok hr hx)] at hi
        rcases hi with hi | hi
        · exact q i hi
        · exact .mk (ps := [lhs r]) (.inr ⟨r, hr, i, hi, rfl⟩) fun p hp => by simp at hp; subst hp; exact q _ hon
      · exact q i hi
    exact this.2
  · rcases hc with hc | ⟨r, hr, y, hy, hc⟩
    · cases hc; exact q _ ((startL_on ok).2 rfl)
    · cases hc
      have e1 := fold_fix rstep_grows e r hr
      unfold rstep at e1
      rw [if_pos (hp _ (by simp))] at e1
      rw [← e1, marks_on (fun x hx => by rw [hl]; exact rhs_lt ok hr hx)]
      exact .inr hy

/-- Marks in memory, behind a grammar. -/
def MkT (h : Heap) (g : Gr) (T : Heap) (l : List Bool) (H : Heap) : Prop := H = h ++ [grow g, brow l] ++ T ∧ l.length = g.n
abbrev outV (h : Heap) (g : Gr) : Value := .slice (some ⟨h.length + 1, 0, none⟩) g.n g.n
section
variable {h H T : Heap} {g : Gr} {l : List Bool} (m : MkT h g T l H)
include m
theorem MkT.row : getRow H (h.length + 1) = some (l.map .bool, .exact) := by rw [m.1, List.append_assoc, row_app]; rfl
theorem MkT.get {x : Int} (hx : inR g.n x) {K : Value → Value → Prop} (k : K (.pointer (some ⟨h.length + 1, 0 + x.toNat * 1, none⟩)) (.bool (decide (onL l x.toNat)))) : oW (iaS 1 (outV h g) (.int .i64 x)) fun v => oW (ldW false 1 H v) fun w => K v w := by
  unfold inR at hx
  have hl : x.toNat < l.length := by rw [m.2]; omega
  rw [iaS_slice' hx.1 hx.2, oW_some]
  rw [ldW_one, m.row, Option.bind_some]
  refine ⟨.bool l[x.toNat], by rw [Nat.zero_add, Nat.mul_one, List.getElem?_map, List.getElem?_eq_getElem hl]; rfl, ?_⟩
  have : decide (onL l x.toNat) = l[x.toNat] := by rw [Bool.eq_iff_iff, decide_eq_true_eq, on_iff hl]
  rwa [this] at k
theorem MkT.putB {x : Int} (hx : inR g.n x) {b : Bool} {K : Heap → Prop} (k : ∀ H', MkT h g T (l.set x.toNat b) H' → K H') : oW (iaS 1 (outV h g) (.int .i64 x)) fun v => sW (stW 1 H v (.bool b)) K := by
  unfold inR at hx
  have hl : x.toNat < l.length := by rw [m.2]; omega
  rw [iaS_slice' hx.1 hx.2, oW_some, st1 m.row (by simp) rfl rfl rfl (by simp; omega), sW_some, m.1, List.append_assoc, set_app]
  refine k _ ⟨by simp [List.map_set], by simp [m.2]⟩
theorem MkT.put {x : Int} (hx : inR g.n x) {K : Heap → Prop} (k : ∀ H', MkT h g T (markL l x.toNat) H' → K H') : oW (iaS 1 (outV h g) (.int .i64 x)) fun v => sW (stW 1 H v (.bool true)) K := m.putB hx k
theorem MkT.done {Q : Value → Heap → Prop} (hq : Q (bools l) h) : gcV h Q (outV h g) H := by
  rw [m.1, List.append_assoc]
  refine gcV_end (Gv.frz1 (i := h.length + 1) (m := .exact) ⟨by omega, by simp⟩ ?_ (by simp [m.2]) (fun e he => by obtain ⟨b, _, rfl⟩ := List.mem_map.1 he; exact ⟨rfl, .bool _⟩)) hq
  rw [List.getElem?_append_right (by omega)]
  simp
omit m in
theorem MkT.gat (m : MkT h g T l H) : GAt H h.length g := by rw [m.1, List.append_assoc]; exact .at0
end
/-- A grammar that may be, its marks made. -/
theorem mks_out {h : Heap} {g : Gr} (ok : g.ok) {K : Value → Heap → Prop} (k : ∀ H, MkT h g [] (List.replicate g.n false) H → K (outV h g) H) :
    hW (mksW [.bool false] 1 (h ++ [grow g]) (.int .i64 (g.names.length : Int)) (.int .i64 (g.names.length : Int))) K := by
  have hn := ok.nn
  unfold Gr.n at hn
  have hrep : repA [Value.bool false] g.names.length = (List.replicate g.names.length false).map Value.bool := by rw [repA_one, List.map_replicate]
  have L1 : (h ++ [grow g]).length = h.length + 1 := by simp
  refine ⟨_, _, by
    simp only [mksW]
    rw [if_pos (by omega)], ?_⟩
  simp only [Int.toNat_natCast]
  rw [hrep, L1]
  exact k _ ⟨by simp, by simp⟩

theorem out_res {g : Gr} {l : List Bool} : Cl (g.res l) := by unfold Gr.res; split <;> first | exact cl_bl | exact .nilS

def RcI (h : Heap) (g : Gr) (k : Nat) (vs : List Value) (H : Heap) : Prop :=
  ∃ (l : List Bool) (st : List Int) (v : Value) (T : Heap), vs = [.pointer (some ⟨h.length, 0, none⟩), outV h g, v] ∧ MkT h g T l H ∧ Acc 1 (h.length + 2) H v (st.map fun x => .int .i64 x) ∧
    k = (g.n - cntL l) * 4000 + st.length ∧ st.length ≤ cntL l * 2048 + 1 ∧ (∀ x ∈ st, inR g.n x ∧ g.reach x.toNat) ∧ (∀ i, onL l i → g.reach i) ∧ (onL l g.start.toNat ∨ g.start ∈ st) ∧
    ∀ i, onL l i → ∀ r ∈ g.rules, lhs r = i → ∀ y ∈ r.drop 1, onL l y.toNat ∨ y ∈ st
/-- The right sides of some rules. -/
def Gr.sides (g : Gr) (bs : List Int) : List Int := bs.flatMap fun b => (g.rules.getD b.toNat []).drop 1
def RcJ (h : Heap) (g : Gr) (l : List Bool) (st : List Int) (x : Int) (k : Nat) (vs : List Value) (H : Heap) : Prop :=
  ∃ (j : Nat) (v : Value) (T : Heap), vs = [.pointer (some ⟨h.length, 0, none⟩), outV h g, v, ints (g.byL x), .int .i64 ((g.byL x).length : Int), .int .i64 (j : Int)] ∧ MkT h g T l H ∧
    Acc 1 (h.length + 2) H v ((st ++ g.sides ((g.byL x).take j)).map fun x => .int .i64 x) ∧ k = (g.byL x).length - j ∧ j ≤ (g.byL x).length
theorem sides_len {g : Gr} (ok : g.ok) : ∀ {bs : List Int}, (∀ b ∈ bs, inR g.rules.length b) → (g.sides bs).length ≤ bs.length * 8
  | [], _ => by simp [Gr.sides]
  | b :: bs, h => by
    have ih := sides_len ok (bs := bs) fun x hx => h x (by simp [hx])
    have hb := h b (by simp)
    unfold inR at hb
    have e : g.rules.getD b.toNat [] = g.rules[b.toNat]'(by omega) := by rw [List.getD_eq_getElem?_getD, List.getElem?_eq_getElem (by omega)]; rfl
    have := (ok.fit _ (List.getElem_mem (l := g.rules) (n := b.toNat) (by omega))).2.1
    unfold Gr.sides at *
    rw [List.flatMap_cons, List.length_append, e, List.length_drop, List.length_cons]
    omega

theorem acc_int_more {n : Nat} {B g : Heap} {v : Value} {l es : List Int} (hB : B.length = n) (a : Acc 1 n (B ++ g) v (l.map fun x => .int .i64 x)) (hb : l.length + es.length ≤ 1000000000) {K : Value → Heap → Prop}
    (k : ∀ v' g', Acc 1 n (B ++ g') v' ((l ++ es).map fun x => .int .i64 x) → K v' (B ++ g')) : hW (apW 1 8 (B ++ g) v (ints es)) K :=
  Acc.more hB a (by omega) int_len int_len int_ok (src_lit int_len) (by simp only [List.length_map]; omega) (by simp only [List.length_map]; omega) fun v' g' a' _ _ _ => k v' g' (by rw [List.map_append]; exact a')

theorem reached_spec {g : Gr} (hf : g.Fin) {h : Heap} {Q : Value → Heap → Prop} (hq : Q (g.res g.reachL) h) : acall Try.prog F_sets_Reached [g.enc] h Q := by
  apply W_sets_Reached_ok
  unfold W_sets_Reached
  rw [box_gr, hW_some, GAt.ld .box, oW_some]
  refine callW_plain.2 (right_spec hf ?_)
  rw [u_not, oW_some, bW_bool]
  refine ⟨fun q => ?_, fun q => ?_⟩
  · have hn : ¬ g.ok := by simpa using q
    unfold Gr.res at hq
    rw [if_neg hn] at hq
    exact gcV_box .nilS hq
  have ok : g.ok := by simpa using q
  unfold Gr.res at hq
  rw [if_pos ok] at hq
  have hn := ok.nn
  have hrr := ok.rr
  refine GAt.names .box ?_
  rw [lenN, oW_some]
  refine mks_out ok fun H m => ?_
  refine m.gat.start ?_
  have hst : inR g.n g.start := ok.st.2
  have mkl : ∀ {T : Heap} {l : List Bool} {H : Heap}, MkT h g T l H → (h ++ [grow g, brow l]).length = h.length + 2 := fun _ => by simp
  refine ⟨_, _, by simp only [bslW, fillL, okVal, cellsOf, List.length_singleton, Option.map_some]; rfl, ?_⟩
  refine ⟨RcI h g, g.n * 4000 + 1, gcL_same ⟨List.replicate g.n false, [g.start], _, [.row [.int .i64 g.start] .exact], rfl, ⟨by rw [m.1]; simp, m.2⟩, ?_, ?_, ?_, ?_, fun i q => absurd q on_fls, .inr (by simp), fun i q => absurd q on_fls⟩, ?_⟩
  · have := Acc.made (sz := 1) (n := h.length + 2) (H := H) (l := [Value.int .i64 g.start]) (by simp) (by rw [m.1]; simp)
    exact this
  · have : cntL (List.replicate g.n false) = 0 := by unfold cntL; simp
    rw [this]; simp
  · simp
  · intro x hx
    simp at hx; subst hx
    exact ⟨hst, .mk (ps := []) (.inl rfl) (by simp)⟩
  clear m
  rintro k x20 x21 x22 h23 ⟨l, st, v, T, hv, m, ac, hk, hsl, i1, i2, i3, i4⟩
  simp only [List.cons.injEq, and_true] at hv
  obtain ⟨rfl, rfl, rfl⟩ := hv
  have hcl := cntL_le l
  rw [m.2] at hcl
  have hB := mkl m
  rw [ac.len, oW_some, n_gtr, oW_some, bW_dec]
  simp only [List.length_map]
  constructor
  · intro h0
    have h0' : 0 < st.length := by omega
    rw [oW_some, n_sub (by omega), oW_some, show ((st.length : Int) - 1) = ((st.length - 1 : Nat) : Int) by omega]
    refine ac.at_ (by omega) int_len (j := st.length - 1) (by simp; omega) (fun q => by cases q) (fun _ => by simp) ?_
    simp only [List.getElem_map]
    generalize hx : st[st.length - 1] = x
    have hxm : x ∈ st := by rw [← hx]; exact List.getElem_mem _
    have hst' : st = st.take (st.length - 1) ++ [x] := by
      conv => lhs; rw [← List.take_length (l := st)]
      conv => lhs; rw [show st.length = (st.length - 1) + 1 by omega]
      rw [take_succ' (by omega), hx]
    rw [oW_some, n_sub (by omega), oW_some, show ((st.length : Int) - 1) = ((st.length - 1 : Nat) : Int) by omega]
    refine ac.pop (by omega) int_len (k := st.length - 1) (by simp) fun v' ac' hv' => ?_
    rw [← List.map_take] at ac'
    generalize hs1 : st.take (st.length - 1) = st1 at *
    have hl1 : st1.length + 1 = st.length := by rw [hst']; simp
    have hmem : ∀ y, y ∈ st ↔ y ∈ st1 ∨ y = x := fun y => by rw [hst', List.mem_append, List.mem_singleton]
    obtain ⟨xr, xd⟩ := i1 x hxm
    refine m.get xr ?_
    rw [bW_dec]
    constructor
    · intro hon
      refine ⟨(g.n - cntL l) * 4000 + st1.length, by omega, gcL_same ⟨l, st1, v', T, rfl, m, ac', rfl, by omega, fun y hy => i1 y ((hmem y).2 (.inl hy)), i2, ?_, fun i hi r hr e y hy => ?_⟩⟩
      · rcases i3 with q | q
        · exact .inl q
        · rcases (hmem _).1 q with q | q
          · exact .inr q
          · rw [q]; exact .inl hon
      · rcases i4 i hi r hr e y hy with q | q
        · exact .inl q
        · rcases (hmem _).1 q with q | q
          · exact .inr q
          · rw [q]; exact .inl hon
    · intro hoff
      have hxl : x.toNat < l.length := by unfold inR at xr; rw [m.2]; omega
      have hcm := cnt_mark hxl hoff
      have hcl2 := cntL_le (markL l x.toNat)
      rw [markL_len, m.2] at hcl2
      refine m.put xr fun H' m' => ?_
      have ac2 : Acc 1 (h.length + 2) H' v' (st1.map fun x => .int .i64 x) := ac'.congr fun j hj => by
        have := ac'.ge hj
        rw [m.1, m'.1, List.getElem?_append_right (by simp; omega), List.getElem?_append_right (by simp; omega)]
        simp
      rw [m'.gat.ld, oW_some]
      refine callW_plain.2 (by_spec (by omega) ?_)
      rw [lenI, oW_some]
      have hby : ∀ b ∈ g.byL x, inR g.rules.length b := fun b hb => (mem_byL.1 hb).1
      have hbl : (g.byL x).length ≤ 256 := Nat.le_trans byTo_len hrr
      refine ⟨RcJ h g (markL l x.toNat) st1 x, (g.byL x).length, gcL_same ⟨0, v', T, rfl, m', by simpa [Gr.sides] using ac2, by omega, by omega⟩, ?_⟩
      rintro k2 x45 x46 x47 x48 x49 x50 h51 ⟨j, v3, T3, hv, m3, ac3, hk2, hj⟩
      simp only [List.cons.injEq, and_true] at hv
      obtain ⟨rfl, rfl, rfl, rfl, rfl, rfl⟩ := hv
      have hB3 := mkl m3
      have hsd := sides_len ok (bs := (g.byL x).take j) fun b hb => hby b (List.mem_of_mem_take hb)
      rw [List.length_take] at hsd
      rw [n_lss, oW_some, bW_dec]
      constructor
      · intro hlt
        have hlt' : j < (g.byL x).length := by omega
        have hbr := hby _ (List.getElem_mem hlt')
        refine ix_ints hlt' (m3.gat.rules ?_)
        generalize hb : (g.byL x)[j] = b at *
        unfold inR at hbr
        have hbl2 : b.toNat < g.rules.length := by omega
        have hrm := ok.fit _ (List.getElem_mem hbl2)
        rw [show b = ((b.toNat : Nat) : Int) by omega]
        refine ix_rules hbl2 ?_
        rw [sl1 hrm.1, oW_some]
        have e2 : st1 ++ g.sides ((g.byL x).take (j + 1)) = st1 ++ g.sides ((g.byL x).take j) ++ g.rules[b.toNat].drop 1 := by
          rw [take_succ' hlt', hb, List.append_assoc]
          unfold Gr.sides
          rw [List.flatMap_append, List.flatMap_singleton, List.getD_eq_getElem?_getD, List.getElem?_eq_getElem hbl2]; rfl
        rw [m3.1] at ac3 ⊢
        refine acc_int_more hB3 ac3 (by have := hrm.2.1; simp; omega) fun v4 g4 ac4 => ?_
        rw [n_add (by omega), oW_some]
        exact ⟨(g.byL x).length - (j + 1), by omega, gcL_same ⟨j + 1, v4, g4, by simp, ⟨rfl, m3.2⟩, by rw [e2]; exact ac4, rfl, by omega⟩⟩
      · intro hge
        have hjl : j = (g.byL x).length := by omega
        rw [hjl, List.take_length] at ac3
        have hsd2 := sides_len ok hby
        have snew : ∀ y, y ∈ g.sides (g.byL x) → inR g.n y ∧ g.reach y.toNat := fun y hy => by
          obtain ⟨b, hb, hyb⟩ := List.mem_flatMap.1 hy
          obtain ⟨h1, h2⟩ := mem_byL.1 hb
          unfold inR at h1
          have hbl2 : b.toNat < g.rules.length := by omega
          rw [List.getD_eq_getElem?_getD, List.getElem?_eq_getElem hbl2] at h2 hyb
          have hrm := List.getElem_mem hbl2
          have fit := ok.fit _ hrm
          have he : g.rules[b.toNat].getD 0 0 = x := (of_decide_eq_true h2).2
          refine ⟨fit.2.2.2 y hyb, .mk (ps := [lhs g.rules[b.toNat]]) (.inr ⟨_, hrm, y.toNat, List.mem_map.2 ⟨y, hyb, rfl⟩, rfl⟩) fun p hp => ?_⟩
          simp at hp; subst hp
          show g.reach (lhs g.rules[b.toNat])
          unfold lhs
          rw [he]; exact xd
        refine ⟨(g.n - cntL (markL l x.toNat)) * 4000 + (st1 ++ g.sides (g.byL x)).length, by rw [List.length_append]; omega, gcL_same ⟨_, _, x47, T3, rfl, m3, ac3, rfl, by rw [List.length_append]; omega, fun y hy => ?_, fun i hi => ?_, ?_, fun i hi r hr e y hy => ?_⟩⟩
        · rcases List.mem_append.1 hy with q | q
          · exact i1 y ((hmem y).2 (.inl q))
          · exact snew y q
        · rcases (mark_on hxl).1 hi with q | q
          · rw [q]; exact xd
          · exact i2 i q
        · rcases i3 with q | q
          · exact .inl ((mark_on hxl).2 (.inr q))
          · rcases (hmem _).1 q with q | q
            · exact .inr (List.mem_append.2 (.inl q))
            · exact .inl ((mark_on hxl).2 (.inl (by rw [q])))
        · rcases (mark_on hxl).1 hi with q | q
          · right
            refine List.mem_append.2 (.inr ?_)
            obtain ⟨b, hb, rfl⟩ := List.mem_iff_getElem.1 hr
            have fit := ok.fit _ (List.getElem_mem hb)
            have hx0 : g.rules[b].getD 0 0 = x := by
              have h1 := fit.2.2.1.2
              unfold inR at h1 xr
              unfold lhs at e
              omega
            refine List.mem_flatMap.2 ⟨(b : Int), mem_byL.2 ⟨⟨by omega, by omega⟩, ?_⟩, ?_⟩
            · rw [Int.toNat_natCast, List.getD_eq_getElem?_getD, List.getElem?_eq_getElem hb]
              exact decide_eq_true ⟨fit.1, hx0⟩
            · rw [Int.toNat_natCast, List.getD_eq_getElem?_getD, List.getElem?_eq_getElem hb]
              exact hy
          · rcases i4 i q r hr e y hy with z | z
            · exact .inl ((mark_on hxl).2 (.inr z))
            · rcases (hmem _).1 z with z | z
              · exact .inr (List.mem_append.2 (.inl z))
              · exact .inl ((mark_on hxl).2 (.inl (by rw [z])))
  · intro h0
    have hst0 : st = [] := List.eq_nil_of_length_eq_zero (by omega)
    subst hst0
    refine m.done ?_
    have : l = g.reachL := dl_eq m.2 i2 fun x ps hc hp => by
      rcases hc with hc | ⟨r, hr, y, hy, hc⟩
      · cases hc
        rcases i3 with q | q
        · exact q
        · cases q
      · cases hc
        obtain ⟨z, hz, rfl⟩ := List.mem_map.1 hy
        rcases i4 _ (hp _ (by simp)) r hr rfl z hz with q | q
        · exact q
        · cases q
    rw [this]; exact hq

end Go.Ax

namespace Go.Ax
open Go Go.Proofs Go.RowKit

theorem eqBools_spec {a b : List Bool} (ha : a.length ≤ 1000000000) {h : Heap} {Q : Value → Heap → Prop} (hq : Q (.bool (decide (a = b))) h) : acall Try.prog F_homographref17_Bools [bools a, bools b] h Q := by
  apply W_homographref17_Bools_ok
  unfold W_homographref17_Bools
  rw [lenB, oW_some, lenB, oW_some, n_neq, oW_some, bW_dec]
  constructor
  · intro hne
    rw [decide_eq_false (fun e => hne (by rw [e]))] at hq
    exact gcV_same hq
  · intro heq
    have hl : a.length = b.length := by omega
    refine ⟨fun k vs g => ∃ i : Nat, vs = [bools a, bools b, .int .i64 (i : Int)] ∧ g = h ∧ k = a.length - i ∧ i ≤ a.length ∧ a.take i = b.take i, a.length, gcL_same ⟨0, by simp⟩, ?_⟩
    rintro k x8 x9 x10 g ⟨i, hv, rfl, hk, hi, hno⟩
    simp only [List.cons.injEq, and_true] at hv
    obtain ⟨rfl, rfl, rfl⟩ := hv
    rw [lenB, oW_some, n_lss, oW_some, bW_dec]
    constructor
    · intro hlt
      have h1 : i < a.length := by omega
      have h2 : i < b.length := by omega
      refine ix_lit (f := Value.bool) h1 rfl ?_
      rw [cellsOf_bool, ld_plit1, oW_some]
      refine ix_lit (f := Value.bool) h2 rfl ?_
      rw [cellsOf_bool, ld_plit1, oW_some, neB_bool, oW_some, bW_bool]
      constructor
      · intro hne
        rw [decide_eq_false (fun e => by subst e; simp at hne)] at hq
        exact gcV_same hq
      · intro he
        rw [n_add (by omega), oW_some]
        refine ⟨a.length - (i + 1), by omega, gcL_same ⟨i + 1, by simp, rfl, rfl, by omega, ?_⟩⟩
        rw [take_succ' h1, take_succ' h2, hno]
        simp at he
        rw [he]
    · intro hge
      rw [List.take_of_length_le (by omega), List.take_of_length_le (by omega)] at hno
      rw [decide_eq_true hno] at hq
      exact gcV_same hq

theorem sameR_spec {a b : List (List Int)} (ha : a.length ≤ 1000000000) (hra : ∀ r ∈ a, r.length ≤ 1000000000) {h : Heap} {Q : Value → Heap → Prop} (hq : Q (.bool (decide (a = b))) h) : acall Try.prog F_homographref17_Same [lit (a.map ints), lit (b.map ints)] h Q := by
  apply W_homographref17_Same_ok
  unfold W_homographref17_Same
  rw [lenR, oW_some, lenR, oW_some, n_neq, oW_some, bW_dec]
  constructor
  · intro hne
    rw [decide_eq_false (fun e => hne (by rw [e]))] at hq
    exact gcV_same hq
  · intro heq
    have hl : a.length = b.length := by omega
    refine ⟨fun k vs g => ∃ i : Nat, vs = [lit (a.map ints), lit (b.map ints), .int .i64 (i : Int)] ∧ g = h ∧ k = a.length - i ∧ i ≤ a.length ∧ a.take i = b.take i, a.length, gcL_same ⟨0, by simp⟩, ?_⟩
    rintro k x8 x9 x10 g ⟨i, hv, rfl, hk, hi, hno⟩
    simp only [List.cons.injEq, and_true] at hv
    obtain ⟨rfl, rfl, rfl⟩ := hv
    rw [lenR, oW_some, n_lss, oW_some, bW_dec]
    constructor
    · intro hlt
      have h1 : i < a.length := by omega
      have h2 : i < b.length := by omega
      have hr1 := hra _ (List.getElem_mem h1)
      refine ix_rules h1 ?_
      rw [lenI, oW_some]
      refine ix_rules h2 ?_
      rw [lenI, oW_some, n_neq, oW_some, bW_dec]
      constructor
      · intro hne
        rw [decide_eq_false (fun e => hne (by subst e; rfl))] at hq
        exact gcV_same hq
      · intro he
        have he' : a[i].length = b[i].length := by omega
        refine ⟨fun k vs g' => ∃ j : Nat, vs = [lit (a.map ints), lit (b.map ints), .int .i64 (i : Int), .int .i64 (j : Int)] ∧ g' = g ∧ k = a[i].length - j ∧ j ≤ a[i].length ∧ a[i].take j = b[i].take j, a[i].length, gcL_same ⟨0, by simp⟩, ?_⟩
        rintro k2 x25 x26 x27 x28 g2 ⟨j, hv, rfl, hk2, hj, hno2⟩
        simp only [List.cons.injEq, and_true] at hv
        obtain ⟨rfl, rfl, rfl, rfl⟩ := hv
        refine ix_rules h1 ?_
        rw [lenI, oW_some, n_lss, oW_some, bW_dec]
        constructor
        · intro hltj
          have j1 : j < a[i].length := by omega
          have j2 : j < b[i].length := by omega
          refine ix_rules h1 (ix_ints j1 (ix_rules h2 (ix_ints j2 ?_)))
          rw [n_neq, oW_some, bW_dec]
          constructor
          · intro hne
            rw [decide_eq_false (fun e => hne (by subst e; rfl))] at hq
            exact gcV_same hq
          · intro he2
            rw [n_add (by omega), oW_some]
            refine ⟨a[i].length - (j + 1), by omega, gcL_same ⟨j + 1, by simp, rfl, rfl, by omega, ?_⟩⟩
            rw [take_succ' j1, take_succ' j2, hno2, Decidable.not_not.1 he2]
        · intro hgej
          rw [List.take_of_length_le (by omega), List.take_of_length_le (by omega)] at hno2
          rw [n_add (by omega), oW_some]
          refine ⟨a.length - (i + 1), by omega, gcL_same ⟨i + 1, by simp, rfl, rfl, by omega, ?_⟩⟩
          rw [take_succ' h1, take_succ' h2, hno, hno2]
    · intro hge
      rw [List.take_of_length_le (by omega), List.take_of_length_le (by omega)] at hno
      rw [decide_eq_true hno] at hq
      exact gcV_same hq

theorem set_off {l : List Bool} {i : Nat} (h : ¬ onL l i) : l.set i false = l := by
  by_cases hi : i < l.length
  · apply List.ext_getElem (by simp)
    intro j h1 h2
    rw [List.getElem_set]
    split
    · rename_i e; subst e
      rw [on_iff hi] at h
      simp at h; exact h.symm
    · rfl
  · exact List.set_eq_of_length_le (by omega)

/-- The rounds of a reference's set that grows by rules: as the words have it. -/
def NLoop (v1 v10 : Value) (h11 h : Heap) (Q : Value → Heap → Prop) : Prop :=
(∃ (I12 : Nat → List Value → Heap → Prop) (k13 : Nat), gcL h (I12 k13) [v1, v10, (.int .i64 0)] h11 ∧
∀ k15 : Nat, ∀ x16 : Value, ∀ x17 : Value, ∀ x18 : Value, ∀ h19, I12 k15 [x16, x17, x18] h19 →
(oW (faW 0 1 x16) fun v20 =>
(oW (ldW false 1 h19 v20) fun v21 =>
(oW (lenS v21) fun v22 =>
(oW (binN .leq x18 v22) fun v23 =>
(bW v23
(∃ (I24 : Nat → List Value → Heap → Prop) (k25 : Nat), gcL h (I24 k25) [x16, x17, x18, (.int .i64 0)] h19 ∧
∀ k27 : Nat, ∀ x28 : Value, ∀ x29 : Value, ∀ x30 : Value, ∀ x31 : Value, ∀ h32, I24 k27 [x28, x29, x30, x31] h32 →
(oW (faW 3 1 x28) fun v33 =>
(oW (ldW false 1 h32 v33) fun v34 =>
(oW (lenS v34) fun v35 =>
(oW (binN .lss x31 v35) fun v36 =>
(bW v36
(∃ (I37 : Nat → List Value → Heap → Prop) (k38 : Nat), gcL h (I37 k38) [x28, x29, x30, x31, (.bool true), (.int .i64 1)] h32 ∧
∀ k40 : Nat, ∀ x41 : Value, ∀ x42 : Value, ∀ x43 : Value, ∀ x44 : Value, ∀ x45 : Value, ∀ x46 : Value, ∀ h47, I37 k40 [x41, x42, x43, x44, x45, x46] h47 →
(oW (faW 3 1 x41) fun v48 =>
(oW (ldW false 1 h47 v48) fun v49 =>
(oW (iaS 1 v49 x44) fun v50 =>
(oW (ldW false 1 h47 v50) fun v51 =>
(oW (lenS v51) fun v52 =>
(oW (binN .lss x46 v52) fun v53 =>
(bW v53
(bW x45
(oW (faW 3 1 x41) fun v54 =>
(oW (ldW false 1 h47 v54) fun v55 =>
(oW (iaS 1 v55 x44) fun v56 =>
(oW (ldW false 1 h47 v56) fun v57 =>
(oW (iaS 1 v57 x46) fun v58 =>
(oW (ldW false 1 h47 v58) fun v59 =>
(oW (iaS 1 x42 v59) fun v60 =>
(oW (ldW false 1 h47 v60) fun v61 =>
(oW (binN .add x46 (.int .i64 1)) fun v62 =>
(∃ m39, m39 < k40 ∧ gcL h (I37 m39) [x41, x42, x43, x44, v61, v62] h47))))))))))
(oW (binN .add x46 (.int .i64 1)) fun v63 =>
(∃ m39, m39 < k40 ∧ gcL h (I37 m39) [x41, x42, x43, x44, (.bool false), v63] h47)))
(oW (faW 3 1 x41) fun v64 =>
(oW (ldW false 1 h47 v64) fun v65 =>
(oW (iaS 1 v65 x44) fun v66 =>
(oW (ldW false 1 h47 v66) fun v67 =>
(oW (iaS 1 v67 (.int .i64 0)) fun v68 =>
(oW (ldW false 1 h47 v68) fun v69 =>
(oW (faW 3 1 x41) fun v70 =>
(oW (ldW false 1 h47 v70) fun v71 =>
(oW (iaS 1 v71 x44) fun v72 =>
(oW (ldW false 1 h47 v72) fun v73 =>
(oW (iaS 1 v73 (.int .i64 0)) fun v74 =>
(oW (ldW false 1 h47 v74) fun v75 =>
(oW (iaS 1 x42 v75) fun v76 =>
(oW (ldW false 1 h47 v76) fun v77 =>
(bW v77
(oW (iaS 1 x42 v69) fun v78 =>
(sW (stW 1 h47 v78 (.bool true)) fun h79 =>
(oW (binN .add x44 (.int .i64 1)) fun v80 =>
(∃ m26, m26 < k27 ∧ gcL h (I24 m26) [x41, x42, x43, v80] h79))))
(oW (iaS 1 x42 v69) fun v81 =>
(sW (stW 1 h47 v81 x45) fun h82 =>
(oW (binN .add x44 (.int .i64 1)) fun v83 =>
(∃ m26, m26 < k27 ∧ gcL h (I24 m26) [x41, x42, x43, v83] h82)))))))))))))))))))))))))))
(oW (binN .add x30 (.int .i64 1)) fun v84 =>
(∃ m14, m14 < k15 ∧ gcL h (I12 m14) [x28, x29, v84] h32))))))))
(gcV h Q x17 h19)))))))

def NI1 (h : Heap) (g : Gr) (l0 : List Bool) (k : Nat) (vs : List Value) (H : Heap) : Prop :=
  ∃ i : Nat, vs = [.pointer (some ⟨h.length, 0, none⟩), outV h g, .int .i64 (i : Int)] ∧ MkT h g [] (itr (nround g) i l0) H ∧ k = g.n + 1 - i ∧ i ≤ g.n + 1
def NI2 (h : Heap) (g : Gr) (l0 : List Bool) (i : Nat) (k : Nat) (vs : List Value) (H : Heap) : Prop :=
  ∃ j : Nat, vs = [.pointer (some ⟨h.length, 0, none⟩), outV h g, .int .i64 (i : Int), .int .i64 (j : Int)] ∧ MkT h g [] ((g.rules.take j).foldl nstep l0) H ∧ k = g.rules.length - j ∧ j ≤ g.rules.length
def NI3 (h : Heap) (g : Gr) (l : List Bool) (i j : Nat) (r : List Int) (k : Nat) (vs : List Value) (H : Heap) : Prop :=
  ∃ q : Nat, vs = [.pointer (some ⟨h.length, 0, none⟩), outV h g, .int .i64 (i : Int), .int .i64 (j : Int), .bool (((rhs r).take (q - 1)).all fun x => decide (onL l x)), .int .i64 (q : Int)] ∧ MkT h g [] l H ∧ k = r.length - q ∧ 1 ≤ q ∧ q ≤ r.length
theorem rhs_get {r : List Int} {q : Nat} (h1 : 1 ≤ q) (h2 : q < r.length) : (rhs r).take (q + 1 - 1) = (rhs r).take (q - 1) ++ [r[q].toNat] := by
  unfold rhs
  rw [show q + 1 - 1 = (q - 1) + 1 by omega, take_succ' (by simp; omega)]
  congr 2
  rw [List.getElem_map, List.getElem_drop]
  congr 2; omega
theorem nloop_spec {g : Gr} (ok : g.ok) {h H : Heap} {l0 : List Bool} (m : MkT h g [] l0 H) {Q : Value → Heap → Prop} (hq : Q (bools (itr (nround g) (g.n + 1) l0)) h) : NLoop (.pointer (some ⟨h.length, 0, none⟩)) (outV h g) H h Q := by
  have hn := ok.nn
  have hrr := ok.rr
  unfold NLoop
  refine ⟨NI1 h g l0, g.n + 1, gcL_same ⟨0, rfl, m, by omega, by omega⟩, ?_⟩
  clear m
  rintro k x16 x17 x18 h19 ⟨i, hv, m, hk, hi⟩
  simp only [List.cons.injEq, and_true] at hv
  obtain ⟨rfl, rfl, rfl⟩ := hv
  refine m.gat.names ?_
  rw [lenN, oW_some, n_leq, oW_some, bW_dec]
  constructor
  · intro hle
    refine ⟨NI2 h g (itr (nround g) i l0) i, g.rules.length, gcL_same ⟨0, rfl, m, by omega, by omega⟩, ?_⟩
    clear m
    rintro k2 x28 x29 x30 x31 h32 ⟨j, hv, m, hk2, hj⟩
    simp only [List.cons.injEq, and_true] at hv
    obtain ⟨rfl, rfl, rfl, rfl⟩ := hv
    refine m.gat.rules ?_
    rw [lenR, oW_some, n_lss, oW_some, bW_dec]
    constructor
    · intro hlt
      have hlt' : j < g.rules.length := by omega
      generalize hl : (g.rules.take j).foldl nstep (itr (nround g) i l0) = l at m
      have hstep : (g.rules.take (j + 1)).foldl nstep (itr (nround g) i l0) = nstep l g.rules[j] := by rw [take_succ' hlt', List.foldl_append, hl]; rfl
      have hrm := List.getElem_mem hlt'
      have fit := ok.fit _ hrm
      refine ⟨NI3 h g l i j g.rules[j], g.rules[j].length - 1, gcL_same ⟨1, rfl, m, rfl, by omega, by have := fit.1; omega⟩, ?_⟩
      clear m
      rintro k3 x41 x42 x43 x44 x45 x46 h47 ⟨q, hv, m, hk3, hq1, hq2⟩
      simp only [List.cons.injEq, and_true] at hv
      obtain ⟨rfl, rfl, rfl, rfl, rfl, rfl⟩ := hv
      have hfl := fit.2.1
      refine m.gat.rules (ix_rules hlt' ?_)
      rw [lenI, oW_some, n_lss, oW_some, bW_dec]
      constructor
      · intro hltq
        have hltq' : q < g.rules[j].length := by omega
        have hg := rhs_get hq1 hltq'
        have adv : ∀ b : Bool, b = (((rhs g.rules[j]).take (q + 1 - 1)).all fun x => decide (onL l x)) → oW (binN .add (.int .i64 (q : Int)) (.int .i64 1)) fun v62 => ∃ m39, m39 < k3 ∧ gcL h (NI3 h g l i j g.rules[j] m39) [.pointer (some ⟨h.length, 0, none⟩), outV h g, .int .i64 (i : Int), .int .i64 (j : Int), .bool b, v62] h47 := fun b hb => by
          rw [n_add (by omega), oW_some]
          exact ⟨g.rules[j].length - (q + 1), by omega, gcL_same ⟨q + 1, by rw [hb]; simp, m, rfl, by omega, by omega⟩⟩
        rw [bW_bool]
        constructor
        · intro ht
          refine m.gat.rules (ix_rules hlt' (ix_ints hltq' ?_))
          refine m.get (fit.2.2.2 _ ?_) (adv _ ?_)
          · rw [List.mem_iff_getElem?]
            exact ⟨q - 1, by rw [List.getElem?_drop, show 1 + (q - 1) = q by omega, List.getElem?_eq_getElem hltq']⟩
          · rw [hg, List.all_append, ht]; simp
        · intro ht
          exact adv false (by rw [hg, List.all_append, ht]; simp)
      · intro hgeq
        have hql : q = g.rules[j].length := by omega
        have hall : (((rhs g.rules[j]).take (q - 1)).all fun x => decide (onL l x)) = (rhs g.rules[j]).all fun x => decide (onL l x) := by
          rw [List.take_of_length_le]
          unfold rhs; simp; omega
        have hx := fit.2.2.1.2
        have fin : ∀ H', MkT h g [] (nstep l g.rules[j]) H' → oW (binN .add (.int .i64 (j : Int)) (.int .i64 1)) fun v80 => ∃ m26, m26 < k2 ∧ gcL h (NI2 h g (itr (nround g) i l0) i m26) [.pointer (some ⟨h.length, 0, none⟩), outV h g, .int .i64 (i : Int), v80] H' := fun H' m' => by
          rw [n_add (by omega), oW_some]
          exact ⟨g.rules.length - (j + 1), by omega, gcL_same ⟨j + 1, by simp, by rw [hstep]; exact m', rfl, by omega⟩⟩
        refine m.gat.rules (ix_rules hlt' (ix0 fit.1 (m.gat.rules (ix_rules hlt' (ix0 fit.1 (m.get hx ?_))))))
        rw [bW_dec]
        constructor
        · intro hon
          refine m.put hx fun H' m' => fin H' ?_
          have : nstep l g.rules[j] = markL l (g.rules[j].getD 0 0).toNat := by
            unfold nstep; split
            · rfl
            · exact (mark_same hon).symm
          rw [this]; exact m'
        · intro hoff
          rw [hall]
          refine m.putB hx fun H' m' => fin H' ?_
          have : nstep l g.rules[j] = l.set (g.rules[j].getD 0 0).toNat ((rhs g.rules[j]).all fun x => decide (onL l x)) := by
            unfold nstep; split
            · rename_i e; rw [e]; rfl
            · rename_i e; rw [Bool.eq_false_iff.2 e, set_off hoff]
          rw [this]; exact m'
    · intro hge
      have hjl : j = g.rules.length := by omega
      rw [hjl, List.take_length] at m
      rw [n_add (by omega), oW_some]
      exact ⟨g.n + 1 - (i + 1), by unfold Gr.n at *; omega, gcL_same ⟨i + 1, by simp, by rw [itr_succ]; exact m, rfl, by unfold Gr.n; omega⟩⟩
  · intro hgt
    have : i = g.n + 1 := by unfold Gr.n at *; omega
    rw [this] at m
    exact m.done hq

theorem refNullable_spec {g : Gr} (hf : g.Fin) {h : Heap} {Q : Value → Heap → Prop} (hq : Q (g.res g.nullL) h) : acall Try.prog F_homographref17_Nullable [g.enc] h Q := by
  apply W_homographref17_Nullable_ok
  unfold W_homographref17_Nullable
  rw [box_gr, hW_some, GAt.ld .box, oW_some]
  refine callW_plain.2 (refRight_spec hf ?_)
  rw [u_not, oW_some, bW_bool]
  refine ⟨fun q => ?_, fun q => ?_⟩
  · have hn : ¬ g.ok := by simpa using q
    unfold Gr.res at hq
    rw [if_neg hn] at hq
    exact gcV_box .nilS hq
  have ok : g.ok := by simpa using q
  unfold Gr.res at hq
  rw [if_pos ok] at hq
  refine GAt.names .box ?_
  rw [lenN, oW_some]
  refine mks_out ok fun H m => nloop_spec ok m ?_
  rw [itr_null ok (by omega)]
  exact hq
theorem refProductive_spec {g : Gr} (hf : g.Fin) {h : Heap} {Q : Value → Heap → Prop} (hq : Q (g.res g.prodL) h) : acall Try.prog F_homographref17_Productive [g.enc] h Q := by
  apply W_homographref17_Productive_ok
  unfold W_homographref17_Productive
  rw [box_gr, hW_some, GAt.ld .box, oW_some]
  refine callW_plain.2 (refRight_spec hf ?_)
  rw [u_not, oW_some, bW_bool]
  refine ⟨fun q => ?_, fun q => ?_⟩
  · have hn : ¬ g.ok := by simpa using q
    unfold Gr.res at hq
    rw [if_neg hn] at hq
    exact gcV_box .nilS hq
  have ok : g.ok := by simpa using q
  unfold Gr.res at hq
  rw [if_pos ok] at hq
  refine GAt.names .box ?_
  rw [lenN, oW_some]
  refine mks_out ok fun H m => ?_
  have hn := ok.nn
  obtain ⟨tn, htn⟩ := Int.eq_ofNat_of_zero_le ok.t0
  have htl : tn ≤ g.n := by have := ok.tn; omega
  refine ⟨fun k vs H => ∃ i : Nat, vs = [.pointer (some ⟨h.length, 0, none⟩), outV h g, .int .i64 (i : Int)] ∧ MkT h g [] (begL g true i) H ∧ k = tn - i ∧ i ≤ tn, tn, gcL_same ⟨0, rfl, by simpa [begL] using m, by omega, by omega⟩, ?_⟩
  clear m
  rintro k x16 x17 x18 h19 ⟨i, hv, m, hk, hi⟩
  simp only [List.cons.injEq, and_true] at hv
  obtain ⟨rfl, rfl, rfl⟩ := hv
  refine m.gat.terms ?_
  rw [htn, n_lss, oW_some, bW_dec]
  constructor
  · intro hlt
    refine m.putB (x := (i : Int)) ⟨by omega, by omega⟩ fun H' m' => ?_
    rw [n_add (by omega), oW_some]
    refine ⟨tn - (i + 1), by omega, gcL_same ⟨i + 1, by simp, ?_, rfl, by omega⟩⟩
    rw [Int.toNat_natCast, begL_set (by omega)] at m'
    exact m'
  · intro hge
    have hit : i = tn := by omega
    subst hit
    refine nloop_spec ok m ?_
    have := nround_dl ok (C := prodC g) (start := begL g true i) (fun c q => .inr q) (fun c hc => ?_) m.2 (fun x q => ?_) (k := g.n + 1) (by omega)
    · rw [this]; exact hq
    · rcases hc with ⟨t, ht, rfl⟩ | q
      · exact .inr ⟨rfl, begL_on.2 ⟨rfl, by omega⟩⟩
      · exact .inl q
    · rw [begL_on] at q
      exact .mk (ps := []) (.inl ⟨x, by omega, rfl⟩) (by simp)

def RR1 (h : Heap) (g : Gr) (k : Nat) (vs : List Value) (H : Heap) : Prop :=
  ∃ i : Nat, vs = [.pointer (some ⟨h.length, 0, none⟩), outV h g, .int .i64 (i : Int)] ∧ MkT h g [] (itr (rround g) i (startL g)) H ∧ k = g.n + 1 - i ∧ i ≤ g.n + 1
def RR2 (h : Heap) (g : Gr) (l0 : List Bool) (i : Nat) (k : Nat) (vs : List Value) (H : Heap) : Prop :=
  ∃ j : Nat, vs = [.pointer (some ⟨h.length, 0, none⟩), outV h g, .int .i64 (i : Int), .int .i64 (j : Int)] ∧ MkT h g [] ((g.rules.take j).foldl rstep l0) H ∧ k = g.rules.length - j ∧ j ≤ g.rules.length
def RR3 (h : Heap) (g : Gr) (l : List Bool) (i j : Nat) (r : List Int) (k : Nat) (vs : List Value) (H : Heap) : Prop :=
  ∃ q : Nat, vs = [.pointer (some ⟨h.length, 0, none⟩), outV h g, .int .i64 (i : Int), .int .i64 (j : Int), .int .i64 (q : Int)] ∧ MkT h g [] (((rhs r).take (q - 1)).foldl markL l) H ∧ k = r.length - q ∧ 1 ≤ q ∧ q ≤ r.length ∧ (1 < q → onL l (lhs r))
theorem refReached_spec {g : Gr} (hf : g.Fin) {h : Heap} {Q : Value → Heap → Prop} (hq : Q (g.res g.reachL) h) : acall Try.prog F_homographref17_Reached [g.enc] h Q := by
  apply W_homographref17_Reached_ok
  unfold W_homographref17_Reached
  rw [box_gr, hW_some, GAt.ld .box, oW_some]
  refine callW_plain.2 (refRight_spec hf ?_)
  rw [u_not, oW_some, bW_bool]
  refine ⟨fun q => ?_, fun q => ?_⟩
  · have hn : ¬ g.ok := by simpa using q
    unfold Gr.res at hq
    rw [if_neg hn] at hq
    exact gcV_box .nilS hq
  have ok : g.ok := by simpa using q
  unfold Gr.res at hq
  rw [if_pos ok] at hq
  have hn := ok.nn
  have hrr := ok.rr
  refine GAt.names .box ?_
  rw [lenN, oW_some]
  refine mks_out ok fun H m => m.gat.start (m.put ok.st.2 fun H' m' => ?_)
  clear m
  refine ⟨RR1 h g, g.n + 1, gcL_same ⟨0, rfl, m', by omega, by omega⟩, ?_⟩
  clear m'
  rintro k x16 x17 x18 h19 ⟨i, hv, m, hk, hi⟩
  simp only [List.cons.injEq, and_true] at hv
  obtain ⟨rfl, rfl, rfl⟩ := hv
  refine m.gat.names ?_
  rw [lenN, oW_some, n_leq, oW_some, bW_dec]
  constructor
  · intro hle
    refine ⟨RR2 h g (itr (rround g) i (startL g)) i, g.rules.length, gcL_same ⟨0, rfl, m, by omega, by omega⟩, ?_⟩
    clear m
    rintro k2 x28 x29 x30 x31 h32 ⟨j, hv, m, hk2, hj⟩
    simp only [List.cons.injEq, and_true] at hv
    obtain ⟨rfl, rfl, rfl, rfl⟩ := hv
    refine m.gat.rules ?_
    rw [lenR, oW_some, n_lss, oW_some, bW_dec]
    constructor
    · intro hlt
      have hlt' : j < g.rules.length := by omega
      generalize hl : (g.rules.take j).foldl rstep (itr (rround g) i (startL g)) = l at m
      have hll := m.2
      have hstep : (g.rules.take (j + 1)).foldl rstep (itr (rround g) i (startL g)) = rstep l g.rules[j] := by rw [take_succ' hlt', List.foldl_append, hl]; rfl
      have hrm := List.getElem_mem hlt'
      have fit := ok.fit _ hrm
      refine ⟨RR3 h g l i j g.rules[j], g.rules[j].length - 1, gcL_same ⟨1, rfl, m, rfl, by omega, by have := fit.1; omega, fun z => by omega⟩, ?_⟩
      clear m
      rintro k3 x41 x42 x43 x44 x46 h47 ⟨q, hv, m, hk3, hq1, hq2, hon⟩
      simp only [List.cons.injEq, and_true] at hv
      obtain ⟨rfl, rfl, rfl, rfl, rfl⟩ := hv
      have hfl := fit.2.1
      have fin : ∀ H', MkT h g [] (rstep l g.rules[j]) H' → oW (binN .add (.int .i64 (j : Int)) (.int .i64 1)) fun v80 => ∃ m26, m26 < k2 ∧ gcL h (RR2 h g (itr (rround g) i (startL g)) i m26) [.pointer (some ⟨h.length, 0, none⟩), outV h g, .int .i64 (i : Int), v80] H' := fun H' m' => by
        rw [n_add (by omega), oW_some]
        exact ⟨g.rules.length - (j + 1), by omega, gcL_same ⟨j + 1, by simp, by rw [hstep]; exact m', rfl, by omega⟩⟩
      refine m.gat.rules (ix_rules hlt' ?_)
      rw [lenI, oW_some, n_lss, oW_some, bW_dec]
      constructor
      · intro hltq
        have hltq' : q < g.rules[j].length := by omega
        have hg := rhs_get hq1 hltq'
        have hx := fit.2.2.1.2
        refine m.gat.rules (ix_rules hlt' (ix0 fit.1 (m.get hx ?_)))
        rw [bW_dec]
        have hiff : onL (((rhs g.rules[j]).take (q - 1)).foldl markL l) (lhs g.rules[j]) ↔ onL l (lhs g.rules[j]) := by
          constructor
          · intro z
            by_cases h1 : 1 < q
            · exact hon h1
            · have : q = 1 := by omega
              subst this; exact z
          · exact fold_up mark_grows
        constructor
        · intro hp
          have hp' := hiff.1 hp
          refine m.gat.rules (ix_rules hlt' (ix_ints hltq' ?_))
          refine m.put (fit.2.2.2 _ ?_) fun H' m' => ?_
          · rw [List.mem_iff_getElem?]
            exact ⟨q - 1, by rw [List.getElem?_drop, show 1 + (q - 1) = q by omega, List.getElem?_eq_getElem hltq']⟩
          rw [n_add (by omega), oW_some]
          refine ⟨g.rules[j].length - (q + 1), by omega, gcL_same ⟨q + 1, by simp, ?_, rfl, by omega, by omega, fun _ => hp'⟩⟩
          rw [hg, List.foldl_append]; exact m'
        · intro hp
          have hp' := fun z => hp (hiff.2 z)
          have hq1' : q = 1 := by
            apply Classical.byContradiction
            intro z
            exact hp' (hon (by omega))
          subst hq1'
          refine fin _ ?_
          unfold rstep
          rw [if_neg hp']
          exact m
      · intro hgeq
        have hql : q = g.rules[j].length := by omega
        have hall : (rhs g.rules[j]).take (q - 1) = rhs g.rules[j] := by
          rw [List.take_of_length_le]
          unfold rhs; simp; omega
        rw [hall] at m
        rw [bW_false]
        refine fin _ ?_
        unfold rstep
        split
        · exact m
        · rename_i hno
          have : q = 1 := by
            apply Classical.byContradiction
            intro z
            exact hno (hon (by omega))
          have hrn : rhs g.rules[j] = [] := by
            unfold rhs
            rw [List.drop_eq_nil_of_le (by omega)]; rfl
          rw [hrn] at m
          exact m
    · intro hge
      have hjl : j = g.rules.length := by omega
      rw [hjl, List.take_length] at m
      rw [n_add (by omega), oW_some]
      exact ⟨g.n + 1 - (i + 1), by unfold Gr.n at *; omega, gcL_same ⟨i + 1, by simp, by rw [itr_succ]; exact m, rfl, by unfold Gr.n; omega⟩⟩
  · intro hgt
    have : i = g.n + 1 := by unfold Gr.n at *; omega
    rw [this, rround_dl ok (by omega)] at m
    exact m.done hq

end Go.Ax

