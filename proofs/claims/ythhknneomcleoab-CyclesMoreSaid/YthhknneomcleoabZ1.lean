/- Cycles: what the laws CyclesAgree and CyclesMore lean on (picked of the other seat's texts). -/
import Derived.Test.YthhknneomcleoabZ0
import Derived.Shelf.SlMaps.Copy
namespace Go.Ax
open Go.RowKit
/-- A clause: its head, its premises. -/
abbrev Cl1 (α : Type) := α × List α
/-- What follows from clauses. -/
inductive Dl {α : Type} (C : Cl1 α → Prop) : α → Prop
  | mk {h : α} {ps : List α} (hc : C (h, ps)) (hp : ∀ p ∈ ps, Dl C p) : Dl C h
/-- What is closed holds all that follows. -/
theorem Dl.least {α : Type} {C : Cl1 α → Prop} {S : α → Prop} (h : ∀ x ps, C (x, ps) → (∀ p ∈ ps, S p) → S x) {x : α} (d : Dl C x) : S x := by
  induction d with
  | mk hc _ ih => exact h _ _ hc ih
/-- The numbers that are marked. -/
def onL (l : List Bool) (i : Nat) : Prop := l.getD i false = true
instance (l : List Bool) (i : Nat) : Decidable (onL l i) := by unfold onL; infer_instance
def cntL (l : List Bool) : Nat := l.countP id
theorem cntL_le (l : List Bool) : cntL l ≤ l.length := List.countP_le_length
def markL (l : List Bool) (i : Nat) : List Bool := l.set i true
@[simp] theorem markL_len {l : List Bool} {i : Nat} : (markL l i).length = l.length := by simp [markL]
theorem on_lt {l : List Bool} {i : Nat} (h : onL l i) : i < l.length := by
  unfold onL at h
  by_cases hi : i < l.length
  · exact hi
  · rw [List.getD_eq_getElem?_getD, List.getElem?_eq_none (by omega)] at h; cases h
theorem on_iff {l : List Bool} {i : Nat} (h : i < l.length) : onL l i ↔ l[i] = true := by unfold onL; simp [h]
theorem mark_on {l : List Bool} {i j : Nat} (hi : i < l.length) : onL (markL l i) j ↔ j = i ∨ onL l j := by
  unfold onL markL
  rw [List.getD_eq_getElem?_getD, List.getD_eq_getElem?_getD, List.getElem?_set]
  by_cases h : i = j
  · subst h; simp [hi]
  · rw [if_neg h]
    constructor
    · intro q; exact .inr q
    · rintro (q | q)
      · exact absurd q.symm h
      · exact q
theorem mark_same {l : List Bool} {i : Nat} (h : onL l i) : markL l i = l := by
  unfold markL
  have hi := on_lt h
  rw [on_iff hi] at h
  apply List.ext_getElem (by simp)
  intro j h1 h2
  rw [List.getElem_set]
  split
  · rename_i e; subst e; exact h.symm
  · rfl
theorem cnt_mark {l : List Bool} : ∀ {i : Nat}, i < l.length → ¬ onL l i → cntL (markL l i) = cntL l + 1 := by
  induction l with
  | nil => intro i h; simp at h
  | cons a l ih =>
    intro i hi hn
    cases i with
    | zero =>
      have : a = false := by unfold onL at hn; simpa using hn
      subst this
      simp [cntL, markL]
    | succ i =>
      have := ih (i := i) (by simpa using hi) (by unfold onL at hn ⊢; simpa using hn)
      unfold cntL markL at this ⊢
      rw [List.set_cons_succ, List.countP_cons, List.countP_cons, this]; omega
theorem on_ext {a b : List Bool} (hl : a.length = b.length) (h : ∀ i, i < a.length → (onL a i ↔ onL b i)) : a = b := by
  apply List.ext_getElem hl
  intro i h1 h2
  have := h i h1
  rw [on_iff h1, on_iff h2] at this
  cases ha : a[i] <;> cases hb : b[i] <;> simp [ha, hb] at this <;> rfl
open Classical in
/-- All numbers below n of which something holds, as a row. -/
noncomputable def setL (n : Nat) (S : Nat → Prop) : List Bool := (List.range n).map fun i => decide (S i)
open Classical in
@[simp] theorem setL_len {n : Nat} {S : Nat → Prop} : (setL n S).length = n := by simp [setL]
open Classical in
theorem setL_on {n : Nat} {S : Nat → Prop} {i : Nat} : onL (setL n S) i ↔ i < n ∧ S i := by
  by_cases h : i < n
  · unfold onL setL; simp [h]
  · unfold onL setL; simp [h]
theorem eq_setL {n : Nat} {S : Nat → Prop} {l : List Bool} (hl : l.length = n) (h : ∀ i, i < n → (onL l i ↔ S i)) : l = setL n S := by
  refine on_ext (by simp [hl]) fun i hi => ?_
  rw [setL_on, h i (by omega)]
  exact ⟨fun q => ⟨by omega, q⟩, fun q => q.2⟩
/-- One round of steps, in their order. 'f': what a step makes of what is marked. -/
structure Grows (f : List Bool → List Bool) : Prop where
  len : ∀ l, (f l).length = l.length
  up : ∀ l i, onL l i → onL (f l) i
def itr {α : Type} (f : α → α) : Nat → α → α
  | 0, x => x
  | k + 1, x => itr f k (f x)
theorem itr_succ {α : Type} {f : α → α} : ∀ {k : Nat} {x : α}, itr f (k + 1) x = f (itr f k x)
  | 0, _ => rfl
  | k + 1, x => by rw [itr, itr_succ, itr]
end Go.Ax
namespace Go.Ax
open Go Go.Proofs Go.RowKit
structure Gr where
  names : List ByteArray
  terms : Int
  tokens : List Int
  rules : List (List Int)
  start : Int
abbrev Gr.n (g : Gr) : Nat := g.names.length
abbrev Gr.enc (g : Gr) : Value := .agg #[lit (g.names.map .string), .int .i64 g.terms, ints g.tokens, lit (g.rules.map ints), .int .i64 g.start]
/-- Is a number a made symbol? -/
def Gr.made (g : Gr) (x : Int) : Prop := g.terms ≤ x ∧ inR g.n x
instance (g : Gr) (x : Int) : Decidable (g.made x) := by unfold Gr.made; infer_instance
/-- May a rule be? -/
def Gr.fits (g : Gr) (r : List Int) : Prop := 0 < r.length ∧ r.length ≤ 9 ∧ g.made (r.getD 0 0) ∧ ∀ x ∈ r.drop 1, inR g.n x
instance (g : Gr) (r : List Int) : Decidable (g.fits r) := by unfold Gr.fits; infer_instance
/-- May a grammar be? -/
structure Gr.ok (g : Gr) : Prop where
  t0 : 0 ≤ g.terms
  tn : g.terms ≤ g.n
  tk : (g.tokens.length : Int) = g.terms
  nn : g.n ≤ 128
  r1 : 1 ≤ g.rules.length
  rr : g.rules.length ≤ 256
  st : g.made g.start
  fit : ∀ r ∈ g.rules, g.fits r
  all : ∀ s : Nat, g.terms ≤ s → s < g.n → ∃ r ∈ g.rules, r.getD 0 0 = s
/-- A rule's left side, and its right side, as numbers from 0 on. -/
def lhs (r : List Int) : Nat := (r.getD 0 0).toNat
def rhs (r : List Int) : List Nat := (r.drop 1).map Int.toNat
/-- Which symbols may be nothing; which make tokens; which come up. -/
def nullC (g : Gr) (c : Cl1 Nat) : Prop := ∃ r ∈ g.rules, c = (lhs r, rhs r)
def Gr.null (g : Gr) : Nat → Prop := Dl (nullC g)
noncomputable def Gr.nullL (g : Gr) : List Bool := setL g.n g.null
open Classical in
/-- The numbers below n of which something holds, rising. -/
noncomputable def riseL (n : Nat) (S : Nat → Prop) : List Int := ((List.range n).filter fun i => decide (S i)).map fun (i : Nat) => (i : Int)
open Classical in
theorem mem_riseL {n : Nat} {S : Nat → Prop} {x : Int} : x ∈ riseL n S ↔ inR n x ∧ S x.toNat := by
  unfold riseL inR
  rw [List.mem_map]
  constructor
  · rintro ⟨i, hi, rfl⟩
    simp at hi
    exact ⟨⟨by omega, by omega⟩, by simpa using hi.2⟩
  · rintro ⟨⟨h1, h2⟩, h3⟩
    exact ⟨x.toNat, by simp; exact ⟨by omega, h3⟩, by omega⟩
open Classical in
theorem riseL_sorted {n : Nat} {S : Nat → Prop} : (riseL n S).Pairwise (· < ·) := by
  unfold riseL
  rw [List.pairwise_map]
  exact ((List.pairwise_lt_range).filter _).imp (by intro a b h; omega)
theorem eq_riseL {n : Nat} {S : Nat → Prop} {l : List Int} (hs : l.Pairwise (· < ·)) (h : ∀ x, x ∈ l ↔ inR n x ∧ S x.toNat) : l = riseL n S :=
  rising_eq hs riseL_sorted fun x => by rw [h, mem_riseL]
theorem lhs_lt {g : Gr} (h : g.ok) {r : List Int} (hr : r ∈ g.rules) : lhs r < g.n := by
  have := (h.fit r hr).2.2.1
  unfold Gr.made inR at this
  unfold lhs; omega
end Go.Ax
namespace Go.Ax
open Go Go.Proofs Go.RowKit
/-- What is closed, and sound, is all that follows. -/
theorem dl_eq {C : Cl1 Nat → Prop} {n : Nat} {l : List Bool} (hl : l.length = n) (sound : ∀ i, onL l i → Dl C i) (closed : ∀ h ps, C (h, ps) → (∀ p ∈ ps, onL l p) → onL l h) : l = setL n (Dl C) :=
  eq_setL hl fun i _ => ⟨sound i, fun q => q.least (S := onL l) closed⟩
/-- A rule's step: what is made, if all of its right side is marked. -/
def nstep (l : List Bool) (r : List Int) : List Bool := if (rhs r).all (fun x => decide (onL l x)) = true then markL l (lhs r) else l
theorem nstep_grows (r : List Int) : Grows fun l => nstep l r := ⟨fun l => by unfold nstep; split <;> simp, fun l i q => by
  unfold nstep
  split
  · have hi := on_lt q
    by_cases h : lhs r < l.length
    · exact (mark_on h).2 (.inr q)
    · unfold markL; rw [List.set_eq_of_length_le (by omega)]; exact q
  · exact q⟩
theorem on_fls {n i : Nat} : ¬ onL (List.replicate n false) i := by
  unfold onL
  rw [List.getD_eq_getElem?_getD, List.getElem?_replicate]
  split <;> simp
end Go.Ax
namespace Go.Proofs
open Go.RowKit Go.Maps Go.Sort Go.Shelf
/-- A set's elements: true alone. -/
def rTrue : Value → Option (DataW Unit × List MemPlace)
  | .bool true => some (.nil, [])
  | _ => none
theorem rTrue_inv {v : Value} {z : DataW Unit × List MemPlace} (h : rTrue v = some z) : v = .bool true ∧ z = (.nil, []) := by
  unfold rTrue at h
  split at h
  · cases h; exact ⟨rfl, rfl⟩
  · cases h
variable {P : Program} {ρ : Go.Shelf.Ren}
end Go.Proofs
namespace Go.Ax
open Go Go.Proofs Go.RowKit
abbrev Gr.cells (g : Gr) : List Value := [lit (g.names.map .string), .int .i64 g.terms, ints g.tokens, lit (g.rules.map ints), .int .i64 g.start]
abbrev grow (g : Gr) : AObj := .row g.cells .exact
/-- A grammar lies at a place. -/
def GAt (H : Heap) (p : Nat) (g : Gr) : Prop := ∃ m, getRow H p = some (g.cells, m)
theorem GAt.box {h : Heap} {g : Gr} : GAt (h ++ [grow g]) h.length g := ⟨.exact, by rw [row_app0]; rfl⟩
theorem GAt.app {H t : Heap} {p : Nat} {g : Gr} (a : GAt H p g) : GAt (H ++ t) p g := let ⟨m, e⟩ := a; ⟨m, getRow_app e⟩
theorem GAt.at0 {h t : Heap} {g : Gr} : GAt (h ++ grow g :: t) h.length g := ⟨.exact, by rw [row_app0]; rfl⟩
section
variable {H : Heap} {p : Nat} {g : Gr} (a : GAt H p g) {K : Value → Prop}
include a
theorem GAt.names (k : K (lit (g.names.map .string))) : oW (faW 0 1 (.pointer (some ⟨p, 0, none⟩))) fun v => oW (ldW false 1 H v) K := by
  obtain ⟨m, e⟩ := a; rw [fa_ptr, oW_some, ldW_one, e]; exact oW_some.2 k
theorem GAt.terms (k : K (.int .i64 g.terms)) : oW (faW 1 1 (.pointer (some ⟨p, 0, none⟩))) fun v => oW (ldW false 1 H v) K := by
  obtain ⟨m, e⟩ := a; rw [fa_ptr, oW_some, ldW_one, e]; exact oW_some.2 k
theorem GAt.tokens (k : K (ints g.tokens)) : oW (faW 2 1 (.pointer (some ⟨p, 0, none⟩))) fun v => oW (ldW false 1 H v) K := by
  obtain ⟨m, e⟩ := a; rw [fa_ptr, oW_some, ldW_one, e]; exact oW_some.2 k
theorem GAt.rules (k : K (lit (g.rules.map ints))) : oW (faW 3 1 (.pointer (some ⟨p, 0, none⟩))) fun v => oW (ldW false 1 H v) K := by
  obtain ⟨m, e⟩ := a; rw [fa_ptr, oW_some, ldW_one, e]; exact oW_some.2 k
theorem GAt.start (k : K (.int .i64 g.start)) : oW (faW 4 1 (.pointer (some ⟨p, 0, none⟩))) fun v => oW (ldW false 1 H v) K := by
  obtain ⟨m, e⟩ := a; rw [fa_ptr, oW_some, ldW_one, e]; exact oW_some.2 k
omit a in
theorem GAt.ld (a : GAt H p g) : ldW true 5 H (.pointer (some ⟨p, 0, none⟩)) = some g.enc := by
  obtain ⟨m, e⟩ := a; rw [ldW_agg, e]; rfl
end
theorem box_gr {h : Heap} {g : Gr} : boxA h g.enc = some (.pointer (some ⟨h.length, 0, none⟩), h ++ [grow g]) := by rw [box_agg]
/-- A rule. -/
theorem ix_rules {l : List (List Int)} {n : Nat} {h : Heap} {K : Value → Prop} (hn : n < l.length) (k : K (ints l[n])) : oW (iaS 1 (lit (l.map ints)) (.int .i64 (n : Int))) fun v => oW (ldW false 1 h v) K :=
  ix_lit hn rfl (by rw [cellsOf_func, ld_plit1, oW_some]; exact k)
theorem lenR {l : List (List Int)} : lenS (lit (l.map ints)) = some (.int .i64 (l.length : Int)) := by rw [lenS_lit, List.length_map]
theorem lenI {l : List Int} : lenS (ints l) = some (.int .i64 (l.length : Int)) := by rw [lenS_lit, List.length_map]
theorem lenN {l : List ByteArray} : lenS (lit (l.map .string)) = some (.int .i64 (l.length : Int)) := by rw [lenS_lit, List.length_map]
theorem lenB {l : List Bool} : lenS (bools l) = some (.int .i64 (l.length : Int)) := by rw [lenS_lit, List.length_map]
theorem ixK {l : List Int} {n : Nat} {h : Heap} {K : Value → Value → Prop} (hn : n < l.length) (k : K (plit [.int .i64 l[n]]) (.int .i64 l[n])) : oW (iaS 1 (ints l) (.int .i64 (n : Int))) fun v => oW (ldW false 1 h v) fun w => K v w := by
  refine ⟨plit [.int .i64 l[n]], iaS_lit (e := .int .i64 l[n]) (by omega) (by simp [hn]) rfl, _, ld_plit1, k⟩
theorem ix0 {l : List Int} {h : Heap} {K : Value → Value → Prop} (hn : 0 < l.length) (k : K (plit [.int .i64 (l.getD 0 0)]) (.int .i64 (l.getD 0 0))) : oW (iaS 1 (ints l) (.int .i64 0)) fun v => oW (ldW false 1 h v) fun w => K v w :=
  ixK (n := 0) hn (by rw [List.getD_eq_getElem?_getD, List.getElem?_eq_getElem hn] at k; exact k)
theorem sl_ints {l : List Int} {n : Nat} {h : Heap} (hn : n ≤ l.length) : slS 1 h (ints l) (some (.int .i64 (n : Int))) none none = some (ints (l.drop n)) := by
  simp only [slS, isLit, litSlice, asNat]
  have hall : (l.map fun n => Value.int .i64 n).all (fun e => (cellsOf e).length == 1) = true := by simp
  simp only [List.toList_toArray, hall, if_true]
  rw [if_pos (by omega)]
  simp only [Int.toNat_natCast, List.length_map]
  rw [if_pos ⟨hn, Nat.le_refl _⟩, ← List.map_drop, List.take_of_length_le (by simp)]
theorem sl1 {l : List Int} {h : Heap} (hn : 0 < l.length) : slS 1 h (ints l) (some (.int .i64 1)) none none = some (ints (l.drop 1)) := sl_ints (n := 1) hn
theorem kept_same {vs : List Value} {h : Heap} : keptW vs h h := fun _ _ _ _ => rfl
theorem gcV_box {h t : Heap} {v : Value} {Q : Value → Heap → Prop} (hc : Cl v) (hq : Q v h) : gcV h Q v (h ++ t) := gcV_end (.cl hc) hq
/-- slices.IndexFunc, ContainsFunc of frozen ints. -/
theorem indexFuncL_spec {l : List Int} {f : Value} {p : Int → Bool} (hl : l.length ≤ 9223372036854775807) {h : Heap} (hf : ∀ k ∈ l, ∀ K : Value → Heap → Prop, K (.bool (p k)) h → callW Try.prog f [.int .i64 k] h K) {Q : Value → Heap → Prop}
    (hq : ∀ i : Int, (0 ≤ i ↔ l.any p = true) → Q (.int .i64 i) h) : acall Try.prog F_slices_IndexFunc_int_int [ints l, f] h Q := by
  apply W_slices_IndexFunc_int_int_ok
  unfold W_slices_IndexFunc_int_int
  rw [lenI, oW_some]
  refine ⟨fun k vs H => ∃ i : Nat, vs = [ints l, f, .int .i64 (l.length : Int), .int .i64 (i : Int)] ∧ H = h ∧ k = l.length - i ∧ i ≤ l.length ∧ (l.take i).any p = false, l.length, gcL_same ⟨0, by simp⟩, ?_⟩
  rintro k x6 x7 x8 x9 H ⟨i, hv, rfl, hk, hi, hno⟩
  simp only [List.cons.injEq, and_true] at hv
  obtain ⟨rfl, rfl, rfl, rfl⟩ := hv
  rw [n_lss, oW_some, bW_dec]
  constructor
  · intro hlt
    have hlt' : i < l.length := by omega
    refine ix_ints hlt' (hf _ (List.getElem_mem hlt') _ ?_)
    rw [bW_bool]
    constructor
    · intro hp
      exact gcV_same (hq _ ⟨fun _ => List.any_eq_true.2 ⟨_, List.getElem_mem hlt', hp⟩, fun _ => by omega⟩)
    · intro hp
      rw [n_add (by omega), oW_some]
      refine ⟨l.length - (i + 1), by omega, gcL_same ⟨i + 1, by simp, rfl, rfl, by omega, ?_⟩⟩
      rw [List.take_add_one, List.getElem?_eq_getElem hlt', List.any_append, hno]
      simp [hp]
  · intro hge
    rw [List.take_of_length_le (by omega)] at hno
    exact gcV_same (hq _ ⟨fun q => by omega, fun q => by rw [hno] at q; cases q⟩)
theorem containsFuncL_spec {l : List Int} {f : Value} {p : Int → Bool} (hl : l.length ≤ 9223372036854775807) {h : Heap} (hf : ∀ k ∈ l, ∀ K : Value → Heap → Prop, K (.bool (p k)) h → callW Try.prog f [.int .i64 k] h K) {Q : Value → Heap → Prop}
    (hq : Q (.bool (l.any p)) h) : acall Try.prog F_slices_ContainsFunc_int_int [ints l, f] h Q := by
  apply W_slices_ContainsFunc_int_int_ok
  unfold W_slices_ContainsFunc_int_int
  refine callW_plain.2 (indexFuncL_spec hl hf fun i hi => ?_)
  rw [n_geq, oW_some]
  have : decide (0 ≤ i) = l.any p := by rw [Bool.eq_iff_iff, decide_eq_true_eq, hi]
  rw [this]
  exact gcV_same hq
theorem symbol_spec {g : Gr} {x : Int} {h : Heap} {Q : Value → Heap → Prop} (hq : Q (.bool (decide (inR g.n x))) h) : acall Try.prog F_symbols_Grammar_symbol [g.enc, .int .i64 x] h Q := by
  apply W_symbols_Grammar_symbol_ok
  unfold W_symbols_Grammar_symbol
  rw [box_gr, hW_some, n_geq, oW_some, bW_dec]
  refine ⟨fun h0 => GAt.names .box ?_, fun h0 => gcV_box (.bool _) ?_⟩
  · rw [lenN, oW_some, n_lss, oW_some]
    have : decide (x < (g.names.length : Int)) = decide (inR g.n x) := by rw [decide_eq_decide]; unfold inR Gr.n; omega
    rw [this]
    exact gcV_box (.bool _) hq
  · rwa [decide_eq_false (by unfold inR; omega)] at hq
theorem gmade_spec {g : Gr} {x : Int} {h : Heap} {Q : Value → Heap → Prop} (hq : Q (.bool (decide (g.made x))) h) : acall Try.prog F_symbols_Grammar_made [g.enc, .int .i64 x] h Q := by
  apply W_symbols_Grammar_made_ok
  unfold W_symbols_Grammar_made
  rw [box_gr, hW_some]
  refine GAt.terms .box ?_
  rw [n_geq, oW_some, bW_dec]
  constructor
  · intro h0
    rw [GAt.ld .box, oW_some]
    refine callW_plain.2 (symbol_spec ?_)
    have : decide (inR g.n x) = decide (g.made x) := by rw [decide_eq_decide]; unfold Gr.made; exact ⟨fun q => ⟨h0, q⟩, fun q => q.2⟩
    rw [this]
    exact gcV_box (.bool _) hq
  · intro h0
    rw [decide_eq_false (by unfold Gr.made; exact fun q => h0 q.1)] at hq
    exact gcV_box (.bool _) hq
theorem fits_spec {g : Gr} {r : List Int} (hl : r.length ≤ 9223372036854775807) {h : Heap} {Q : Value → Heap → Prop} (hq : Q (.bool (decide (g.fits r))) h) : acall Try.prog F_symbols_Grammar_fits [g.enc, ints r] h Q := by
  have no : ¬ g.fits r → ∀ t, gcV h Q (.bool false) (h ++ t) := fun hn t => by
    rw [decide_eq_false hn] at hq
    exact gcV_box (.bool _) hq
  apply W_symbols_Grammar_fits_ok
  unfold W_symbols_Grammar_fits
  rw [box_gr, hW_some, lenI, oW_some, n_gtr, oW_some, bW_dec]
  refine ⟨fun h0 => ?_, fun h0 => no (fun q => h0 (by have := q.1; omega)) _⟩
  rw [oW_some, n_leq, oW_some, bW_dec]
  refine ⟨fun h1 => ?_, fun h1 => no (fun q => h1 (by have := q.2.1; omega)) _⟩
  rw [GAt.ld .box, oW_some]
  have h0' : 0 < r.length := by omega
  refine ix0 h0' ?_
  refine callW_plain.2 (gmade_spec ⟨kept_same, ?_⟩)
  rw [bW_dec]
  refine ⟨fun h2 => ?_, fun h2 => no (fun q => h2 q.2.2.1) _⟩
  rw [sl1 h0', oW_some]
  refine callW_plain.2 (containsFuncL_spec (p := fun x => !decide (inR g.n x)) (by simp; omega) (fun k _ K hK => ?_) ⟨kept_same, ?_⟩)
  · rw [callW_known]
    apply W_symbols_Grammar_fits_D1_ok
    unfold W_symbols_Grammar_fits_D1
    rw [GAt.ld .box, oW_some]
    refine callW_plain.2 (symbol_spec ?_)
    rw [u_not, oW_some]
    exact gcV_same hK
  · rw [u_not, oW_some]
    have : (!(r.drop 1).any fun x => !decide (inR g.n x)) = decide (g.fits r) := by
      rw [Bool.eq_iff_iff, decide_eq_true_eq, Bool.not_eq_true', List.any_eq_false]
      unfold Gr.fits
      constructor
      · intro q
        exact ⟨h0', by omega, h2, fun x hx => by have := q x hx; simpa using this⟩
      · intro q x hx
        have := q.2.2.2 x hx
        simpa using this
    rw [this]
    exact gcV_box (.bool _) hq
end Go.Ax
namespace Go.Ax
open Go Go.Proofs Go.RowKit
theorem nodup_sub_len {α : Type} [DecidableEq α] : ∀ {s R : List α}, s.Nodup → (∀ x ∈ s, x ∈ R) → s.length ≤ R.length
  | [], _, _, _ => Nat.zero_le _
  | x :: s, R, h, hs => by
    obtain ⟨h1, h2⟩ := List.nodup_cons.1 h
    have hx := hs x (by simp)
    have := nodup_sub_len (R := R.erase x) h2 fun y hy => (List.mem_erase_of_ne (fun e => h1 (by rw [← e]; exact hy))).2 (hs y (by simp [hy]))
    rw [List.length_erase_of_mem hx] at this
    have := List.length_pos_of_mem hx
    simp; omega
theorem count_all {s : List Int} {t : Int} {n : Nat} (h0 : 0 ≤ t) (hn : t ≤ n) (hs : s.Nodup) (hb : ∀ x ∈ s, t ≤ x ∧ x < n) : ((s.length : Int) = n - t ↔ ∀ k : Nat, t ≤ k → k < n → (k : Int) ∈ s) := by
  obtain ⟨a, rfl⟩ := Int.eq_ofNat_of_zero_le h0
  have hl : ((List.range (n - a)).map fun (i : Nat) => ((i + a : Nat) : Int)).length = n - a := by simp
  have hm : ∀ x : Int, x ∈ ((List.range (n - a)).map fun (i : Nat) => ((i + a : Nat) : Int)) ↔ (a : Int) ≤ x ∧ x < n := fun x => by
    rw [List.mem_map]
    constructor
    · rintro ⟨i, hi, rfl⟩
      have := List.mem_range.1 hi
      omega
    · rintro ⟨h1, h2⟩
      exact ⟨x.toNat - a, List.mem_range.2 (by omega), by omega⟩
  have hnd : ((List.range (n - a)).map fun (i : Nat) => ((i + a : Nat) : Int)).Nodup := by
    rw [List.Nodup, List.pairwise_map]
    exact List.nodup_range.imp fun h => by omega
  have le := nodup_sub_len (R := ((List.range (n - a)).map fun (i : Nat) => ((i + a : Nat) : Int))) hs fun x hx => (hm x).2 (hb x hx)
  rw [hl] at le
  constructor
  · intro e k h1 h2
    apply Classical.byContradiction
    intro hk
    have := nodup_sub_len (s := (k : Int) :: s) (R := ((List.range (n - a)).map fun (i : Nat) => ((i + a : Nat) : Int))) (List.nodup_cons.2 ⟨hk, hs⟩) fun x hx => (hm x).2 (by
      rcases List.mem_cons.1 hx with rfl | hx
      · omega
      · exact hb x hx)
    rw [hl] at this
    simp at this; omega
  · intro q
    have := nodup_sub_len hnd (R := s) fun x hx => by
      have := (hm x).1 hx
      have := q x.toNat (by omega) (by omega)
      rwa [Int.toNat_of_nonneg (by omega)] at this
    rw [hl] at this
    omega
/-- Lengths that a machine has. -/
structure Gr.Fin (g : Gr) : Prop where
  ln : g.names.length ≤ 9223372036854775807
  lt : g.tokens.length ≤ 9223372036854775807
  lr : g.rules.length ≤ 9223372036854775807
  rl : ∀ r ∈ g.rules, r.length ≤ 9223372036854775807
/-- All but the rules. -/
def Gr.pre (g : Gr) : Prop := 0 ≤ g.terms ∧ g.terms ≤ g.n ∧ (g.tokens.length : Int) = g.terms ∧ g.n ≤ 128 ∧ 1 ≤ g.rules.length ∧ g.rules.length ≤ 256 ∧ g.made g.start
theorem ok_iff {g : Gr} : g.ok ↔ g.pre ∧ (∀ r ∈ g.rules, g.fits r) ∧ ∀ s : Nat, g.terms ≤ s → s < g.n → ∃ r ∈ g.rules, r.getD 0 0 = s :=
  ⟨fun h => ⟨⟨h.t0, h.tn, h.tk, h.nn, h.r1, h.rr, h.st⟩, h.fit, h.all⟩, fun ⟨⟨a, b, c, d, e, f, i⟩, j, k⟩ => ⟨a, b, c, d, e, f, i, j, k⟩⟩
open Classical in
noncomputable def Gr.chk (g : Gr) : Int := if g.ok then 0 else 1
def CkI (h : Heap) (g : Gr) (k : Nat) (vs : List Value) (H : Heap) : Prop :=
  ∃ (i : Nat) (s : List Int), vs = [.pointer (some ⟨h.length, 0, none⟩), .map (some (h.length + 1)), lit (g.rules.map ints), .int .i64 (g.rules.length : Int), .int .i64 (i : Int)] ∧ H = h ++ [grow g, .map (encE (setE s))] ∧ k = g.rules.length - i ∧ i ≤ g.rules.length ∧
    s.Nodup ∧ (∀ x, x ∈ s ↔ ∃ r ∈ g.rules.take i, r.getD 0 0 = x) ∧ ∀ r ∈ g.rules.take i, g.fits r
theorem take_succ' {α : Type} {l : List α} {i : Nat} (h : i < l.length) : l.take (i + 1) = l.take i ++ [l[i]] := by rw [List.take_add_one, List.getElem?_eq_getElem h]; rfl
theorem check16_spec {g : Gr} (hf : g.Fin) {h : Heap} {Q : Value → Heap → Prop} (hq : Q (.int .i64 g.chk) h) : acall Try.prog F_symbols_Check [g.enc] h Q := by
  have no : ¬ g.ok → ∀ t, gcV h Q (.int .i64 1) (h ++ t) := fun hn t => by
    unfold Gr.chk at hq
    rw [if_neg hn] at hq
    exact gcV_box (.int _ _) hq
  have no' : ¬ g.pre → ∀ t, gcV h Q (.int .i64 1) (h ++ t) := fun hn t => no (fun q => hn (ok_iff.1 q).1) t
  have l1 := hf.ln
  have l2 := hf.lt
  have l3 := hf.lr
  apply W_symbols_Check_ok
  unfold W_symbols_Check
  rw [box_gr, hW_some]
  refine ⟨fun vs H => vs = [.pointer (some ⟨h.length, 0, none⟩)] ∧ H = h ++ [grow g] ∧ g.pre, ?_, ?_⟩
  · refine GAt.terms .box ?_
    rw [n_lss, oW_some, bW_dec]
    refine ⟨fun q => by rw [bW_true]; exact no' (fun p => by have := p.1; omega) _, fun c0 => GAt.terms .box (GAt.names .box ?_)⟩
    rw [lenN, oW_some, n_gtr, oW_some, bW_dec]
    refine ⟨fun q => by rw [bW_true]; exact no' (fun p => by have := p.2.1; unfold Gr.n at this; omega) _, fun c1 => GAt.tokens .box ?_⟩
    rw [lenI, oW_some]
    refine GAt.terms .box ?_
    rw [n_neq, oW_some, bW_dec]
    refine ⟨fun q => by rw [bW_true]; exact no' (fun p => q p.2.2.1) _, fun c2 => GAt.names .box ?_⟩
    rw [lenN, oW_some, n_gtr, oW_some, bW_dec]
    refine ⟨fun q => no' (fun p => by have := p.2.2.2.1; unfold Gr.n at this; omega) _, fun c3 => GAt.rules .box ?_⟩
    rw [lenR, oW_some, n_lss, oW_some, bW_dec]
    refine ⟨fun q => by rw [bW_true]; exact no' (fun p => by have := p.2.2.2.2.1; omega) _, fun c4 => GAt.rules .box ?_⟩
    rw [lenR, oW_some, n_gtr, oW_some, bW_dec]
    refine ⟨fun q => by rw [bW_true]; exact no' (fun p => by have := p.2.2.2.2.2.1; omega) _, fun c5 => ?_⟩
    rw [GAt.ld .box, oW_some]
    refine GAt.start .box (callW_plain.2 (gmade_spec ?_))
    rw [u_not, oW_some, bW_bool]
    refine ⟨fun q => no' (fun p => by have := p.2.2.2.2.2.2; simp [this] at q) _, fun c6 => gcL_same ⟨rfl, rfl, by omega, by unfold Gr.n; omega, by simpa using c2, by unfold Gr.n; omega, by omega, by omega, by simpa using c6⟩⟩
  rintro x79 h80 ⟨hv, rfl, hp⟩
  simp only [List.cons.injEq, and_true] at hv
  subst hv
  have L1 : (h ++ [grow g]).length = h.length + 1 := by simp
  have E1 : ∀ o : AObj, h ++ [grow g] ++ [o] = h ++ [grow g, o] := fun o => by simp
  have gat : ∀ o : AObj, GAt (h ++ [grow g, o]) h.length g := fun o => .at0
  rw [letH_eq, L1, E1]
  refine GAt.rules (gat _) ?_
  rw [lenR, oW_some]
  refine ⟨CkI h g, g.rules.length, gcL_same ⟨0, [], rfl, rfl, by omega, by omega, .nil, by simp, by simp⟩, ?_⟩
  rintro k x89 x90 x91 x92 x93 h94 ⟨i, s, hv, rfl, hk, hi, hs, hm, hfit⟩
  simp only [List.cons.injEq, and_true] at hv
  obtain ⟨rfl, rfl, rfl, rfl, rfl⟩ := hv
  rw [n_lss, oW_some, bW_dec]
  have gm : getMap (h ++ [grow g, .map (encE (setE s))]) (h.length + 1) = some (encE (setE s)) := by rw [map_app]; rfl
  constructor
  · intro hlt
    have hlt' : i < g.rules.length := by omega
    have hmem : g.rules[i] ∈ g.rules := List.getElem_mem hlt'
    refine ix_rules hlt' ?_
    rw [GAt.ld (gat _), oW_some]
    refine callW_plain.2 (fits_spec (hf.rl _ hmem) ?_)
    rw [u_not, oW_some, bW_bool]
    refine ⟨fun q => no (fun p => by have := p.fit _ hmem; simp at q; exact q this) _, fun q => ?_⟩
    have hfi : g.fits g.rules[i] := by simpa using q
    refine ix0 hfi.1 ?_
    rw [up_int gm, sW_some, n_add (by omega), oW_some, set_app, aset_setE]
    refine ⟨g.rules.length - (i + 1), by omega, gcL_same ?_⟩
    have hm' : ∀ x, (x ∈ s ∨ x = (g.rules[i]).getD 0 0) ↔ ∃ r ∈ g.rules.take (i + 1), r.getD 0 0 = x := fun x => by
      rw [take_succ' hlt', hm]
      constructor
      · rintro (⟨r, hr, e⟩ | e)
        · exact ⟨r, List.mem_append.2 (.inl hr), e⟩
        · exact ⟨g.rules[i], List.mem_append.2 (.inr (by simp)), e.symm⟩
      · rintro ⟨r, hr, e⟩
        rcases List.mem_append.1 hr with q | q
        · exact .inl ⟨r, q, e⟩
        · simp at q; subst q; exact .inr e.symm
    have hf' : ∀ r ∈ g.rules.take (i + 1), g.fits r := fun r hr => by
      rw [take_succ' hlt'] at hr
      rcases List.mem_append.1 hr with q | q
      · exact hfit r q
      · simp at q; subst q; exact hfi
    by_cases hin : (g.rules[i]).getD 0 0 ∈ s
    · refine ⟨i + 1, s, by simp, by rw [if_pos hin]; rfl, rfl, by omega, hs, fun x => ?_, hf'⟩
      rw [← hm' x]
      exact ⟨.inl, fun q => q.elim id fun e => e ▸ hin⟩
    · refine ⟨i + 1, s ++ [(g.rules[i]).getD 0 0], by simp, by rw [if_neg hin]; rfl, rfl, by omega, ?_, fun x => ?_, hf'⟩
      · rw [List.nodup_append]
        exact ⟨hs, by simp, fun a ha b hb e => by simp at hb; subst hb; subst e; exact hin ha⟩
      · rw [← hm' x, List.mem_append, List.mem_singleton]
  · intro hge
    have hil : i = g.rules.length := by omega
    subst hil
    rw [List.take_length] at hm hfit
    have hlm : lenM (h ++ [grow g, .map (encE (setE s))]) (.map (some (h.length + 1))) = some (.int .i64 (s.length : Int)) := by
      simp only [lenM, gm]; simp
    rw [hlm, oW_some]
    refine GAt.names (gat _) ?_
    rw [lenN, oW_some]
    refine GAt.terms (gat _) ?_
    obtain ⟨p1, p2, p3, p4, p5, p6, p7⟩ := hp
    unfold Gr.n at p2 p4
    rw [n_sub (by omega), oW_some, n_neq, oW_some, bW_dec]
    have hb : ∀ x ∈ s, g.terms ≤ x ∧ x < g.names.length := fun x hx => by
      obtain ⟨r, hr, rfl⟩ := (hm x).1 hx
      have := (hfit r hr).2.2.1
      unfold Gr.made inR at this
      exact ⟨this.1, this.2.2⟩
    have hc := count_all p1 p2 hs hb
    have hok : g.ok ↔ (s.length : Int) = g.names.length - g.terms := by
      rw [hc, ok_iff]
      constructor
      · rintro ⟨_, _, q⟩ k k1 k2
        exact (hm _).2 (q k k1 k2)
      · intro q
        exact ⟨⟨p1, p2, p3, p4, p5, p6, p7⟩, hfit, fun k k1 k2 => (hm _).1 (q k k1 k2)⟩
    refine ⟨fun q => no (fun p => q (hok.1 p)) _, fun q => ?_⟩
    unfold Gr.chk at hq
    rw [if_pos (hok.2 (by simpa using q))] at hq
    exact gcV_box (.int _ _) hq
open Classical in
theorem right_spec {g : Gr} (hf : g.Fin) {h : Heap} {Q : Value → Heap → Prop} (hq : Q (.bool (decide g.ok)) h) : acall Try.prog F_sets_right [g.enc] h Q := by
  apply W_sets_right_ok
  unfold W_sets_right
  rw [box_gr, hW_some, GAt.ld .box, oW_some]
  refine callW_plain.2 (check16_spec hf ?_)
  rw [n_eql, oW_some]
  have : decide (g.chk = 0) = decide g.ok := by
    rw [decide_eq_decide]; unfold Gr.chk
    by_cases e : g.ok
    · simp [e]
    · simp [e]
  rw [this]
  exact gcV_box (.bool _) hq
end Go.Ax
namespace Go.Ax
open Go Go.Proofs Go.RowKit
/-- sets.until: 'nx' is what is done to a state, of which 'Inv' holds, at each row; 'μ' falls wherever something is new. -/
theorem until_spec {σ : Type} {rows : List (List Int)} {f : Value} (Inv : σ → Heap → Prop) (nx : σ → List Int → σ) (μ : σ → Nat) (hl : rows.length ≤ 9223372036854775807) {s0 : σ} {h : Heap} (h0 : Inv s0 h)
    (hf : ∀ s H r, r ∈ rows → Inv s H → ∀ K : Value → Heap → Prop, (∀ (b : Bool) H', Inv (nx s r) H' → (b = true → μ (nx s r) < μ s) → (b = false → nx s r = s) → K (.bool b) H') → callW Try.prog f [ints r] H K)
    {Q : Value → Heap → Prop} (hq : ∀ s H, Inv s H → (∀ r ∈ rows, nx s r = s) → Q (.tuple #[]) H) : acall Try.prog F_sets_until_int [lit (rows.map ints), f] h Q := by
  apply W_sets_until_int_ok
  unfold W_sets_until_int
  refine ⟨fun k vs H => ∃ (s : σ) (more : Bool), vs = [lit (rows.map ints), f, .bool more] ∧ Inv s H ∧ k = μ s + (if more = true then 1 else 0) ∧ (more = false → ∀ r ∈ rows, nx s r = s), μ s0 + 1, gcL_same ⟨s0, true, rfl, h0, by simp, fun q => by cases q⟩, ?_⟩
  rintro k x5 x6 x7 h8 ⟨s, more, hv, hI, hk, hd⟩
  simp only [List.cons.injEq, and_true] at hv
  obtain ⟨rfl, rfl, rfl⟩ := hv
  rw [bW_bool]
  refine ⟨fun hm => ?_, fun hm => gcV_same (hq s h8 hI (hd hm))⟩
  subst hm
  rw [lenR, oW_some]
  refine ⟨fun k vs H => ∃ (s1 : σ) (m : Bool) (i : Nat), vs = [lit (rows.map ints), x6, .bool m, lit (rows.map ints), .int .i64 (rows.length : Int), .int .i64 (i : Int)] ∧ Inv s1 H ∧ k = rows.length - i ∧ i ≤ rows.length ∧
    (m = true → μ s1 < μ s) ∧ (m = false → s1 = s ∧ ∀ r ∈ rows.take i, nx s1 r = s1), rows.length, gcL_same ⟨s, false, 0, rfl, hI, by omega, by omega, (fun q => by cases q), fun _ => ⟨rfl, by simp⟩⟩, ?_⟩
  rintro k2 x14 x15 x16 x17 x18 x19 h20 ⟨s1, m, i, hv, hI1, hk2, hi, t1, t2⟩
  simp only [List.cons.injEq, and_true] at hv
  obtain ⟨rfl, rfl, rfl, rfl, rfl, rfl⟩ := hv
  rw [n_lss, oW_some, bW_dec]
  constructor
  · intro hlt
    have hlt' : i < rows.length := by omega
    refine ix_rules hlt' (hf s1 h20 _ (List.getElem_mem hlt') hI1 _ fun b H' hI2 b1 b2 => ?_)
    rw [bW_bool]
    constructor
    · intro hb
      rw [n_add (by omega), oW_some]
      refine ⟨rows.length - (i + 1), by omega, gcL_same ⟨_, true, i + 1, by simp, hI2, rfl, by omega, fun _ => ?_, fun q => by cases q⟩⟩
      have := b1 hb
      cases m with
      | true => have := t1 rfl; omega
      | false => have := (t2 rfl).1; subst this; exact b1 hb
    · intro hb
      have e := b2 hb
      rw [e] at hI2
      rw [n_add (by omega), oW_some]
      refine ⟨rows.length - (i + 1), by omega, gcL_same ⟨s1, m, i + 1, by simp, hI2, rfl, by omega, t1, fun q => ⟨(t2 q).1, fun r hr => ?_⟩⟩⟩
      rw [take_succ' hlt'] at hr
      rcases List.mem_append.1 hr with z | z
      · exact (t2 q).2 r z
      · simp at z; subst z; exact e
  · intro hge
    have hil : i = rows.length := by omega
    subst hil
    rw [List.take_length] at t2
    cases m with
    | true => have := t1 rfl; exact ⟨μ s1 + 1, by simp at hk; omega, gcL_same ⟨s1, true, rfl, hI1, by simp, fun q => by cases q⟩⟩
    | false =>
      obtain ⟨rfl, t3⟩ := t2 rfl
      exact ⟨μ s1, by simp at hk; omega, gcL_same ⟨s1, false, rfl, hI1, by simp, fun _ => t3⟩⟩
abbrev brow (l : List Bool) : AObj := .row (l.map .bool) .exact
theorem set_brow {l : List Bool} {i : Nat} : (l.map Value.bool).set i (.bool true) = (markL l i).map .bool := by unfold markL; rw [List.map_set]
/-- The marks, and the variable that holds them. -/
def MkH (h : Heap) (g : Gr) (l : List Bool) (H : Heap) : Prop :=
  H = h ++ [grow g, brow l, .row [.slice (some ⟨h.length + 1, 0, none⟩) g.n g.n] .exact] ∧ l.length = g.n
section
variable {h H : Heap} {g : Gr} {l : List Bool} (m : MkH h g l H)
include m
theorem MkH.var : ldW false 1 H (.pointer (some ⟨h.length + 2, 0, none⟩)) = some (.slice (some ⟨h.length + 1, 0, none⟩) g.n g.n) := by
  rw [m.1, ldW_one, row_app]; rfl
theorem MkH.row : getRow H (h.length + 1) = some (l.map .bool, .exact) := by rw [m.1, row_app]; rfl
theorem MkH.get {x : Int} (hx : inR g.n x) {K : Value → Value → Prop} (k : K (.pointer (some ⟨h.length + 1, 0 + x.toNat * 1, none⟩)) (.bool (decide (onL l x.toNat)))) : oW (iaS 1 (.slice (some ⟨h.length + 1, 0, none⟩) g.n g.n) (.int .i64 x)) fun v => oW (ldW false 1 H v) fun w => K v w := by
  unfold inR at hx
  have hl : x.toNat < l.length := by rw [m.2]; omega
  rw [iaS_slice' hx.1 hx.2, oW_some]
  rw [ldW_one, m.row, Option.bind_some]
  refine ⟨.bool l[x.toNat], by rw [Nat.zero_add, Nat.mul_one, List.getElem?_map, List.getElem?_eq_getElem hl]; rfl, ?_⟩
  have : decide (onL l x.toNat) = l[x.toNat] := by rw [Bool.eq_iff_iff, decide_eq_true_eq, on_iff hl]
  rwa [this] at k
theorem MkH.put {x : Int} (hx : inR g.n x) {K : Heap → Prop} (k : ∀ H', MkH h g (markL l x.toNat) H' → K H') : oW (iaS 1 (.slice (some ⟨h.length + 1, 0, none⟩) g.n g.n) (.int .i64 x)) fun v => sW (stW 1 H v (.bool true)) K := by
  unfold inR at hx
  have hl : x.toNat < l.length := by rw [m.2]; omega
  rw [iaS_slice' hx.1 hx.2, oW_some, st1 m.row (by simp) rfl rfl rfl (by simp; omega), sW_some, set_brow, m.1, set_app]
  exact k _ ⟨by simp, by simp [m.2]⟩
theorem MkH.putB {x : Int} (hx : inR g.n x) {b : Bool} {K : Heap → Prop} (k : ∀ H', MkH h g (l.set x.toNat b) H' → K H') : oW (iaS 1 (.slice (some ⟨h.length + 1, 0, none⟩) g.n g.n) (.int .i64 x)) fun v => sW (stW 1 H v (.bool b)) K := by
  unfold inR at hx
  have hl : x.toNat < l.length := by rw [m.2]; omega
  rw [iaS_slice' hx.1 hx.2, oW_some, st1 m.row (by simp) rfl rfl rfl (by simp; omega), sW_some, m.1, set_app]
  refine k _ ⟨by simp [List.map_set], by simp [m.2]⟩
theorem MkH.done {Q : Value → Heap → Prop} (hq : Q (bools l) h) : gcV h Q (.slice (some ⟨h.length + 1, 0, none⟩) g.n g.n) H := by
  rw [m.1]
  refine gcV_end (Gv.frz1 (i := h.length + 1) (m := .exact) ⟨by omega, by simp⟩ ?_ (by simp [m.2]) (fun e he => by obtain ⟨b, _, rfl⟩ := List.mem_map.1 he; exact ⟨rfl, .bool _⟩)) hq
  rw [List.getElem?_append_right (by omega)]
  simp
omit m in
theorem MkH.gat (m : MkH h g l H) : GAt H h.length g := by rw [m.1]; exact .at0
end
theorem markedD_spec {h H : Heap} {g : Gr} (ok : g.ok) {l : List Bool} (m : MkH h g l H) {r : List Int} (hr : r ∈ g.rules) {K : Value → Heap → Prop}
    (k : ∀ (b : Bool) H', MkH h g (nstep l r) H' → (b = true → g.n - cntL (nstep l r) < g.n - cntL l) → (b = false → nstep l r = l) → K (.bool b) H') :
    callW Try.prog (.func (.func F_sets_marked_D1) #[] #[.pointer (some ⟨h.length + 2, 0, none⟩)]) [ints r] H K := by
  have fit := ok.fit r hr
  have hx := fit.2.2.1.2
  have hlt : lhs r < l.length := by rw [m.2]; exact lhs_lt ok hr
  rw [callW_known]
  apply W_sets_marked_D1_ok
  unfold W_sets_marked_D1
  show oW (ldW false 1 H (.pointer (some ⟨h.length + 2, 0, none⟩))) _
  rw [m.var, oW_some]
  refine ix0 fit.1 (m.get hx ?_)
  rw [bW_dec]
  constructor
  · intro hon
    rw [bW_true]
    have e : nstep l r = l := by
      unfold nstep; split
      · exact mark_same hon
      · rfl
    refine gcV_same (k false H (by rw [e]; exact m) (fun q => by cases q) fun _ => e)
  · intro hoff
    rw [sl1 fit.1, oW_some]
    refine callW_plain.2 (containsFuncL_spec (p := fun x => !decide (onL l x.toNat)) (by have := fit.2.1; simp; omega) (fun x hx' K' hK' => ?_) ⟨kept_same, ?_⟩)
    · rw [callW_known]
      apply W_sets_marked_D1_D1_ok
      unfold W_sets_marked_D1_D1
      show oW (ldW false 1 H (.pointer (some ⟨h.length + 2, 0, none⟩))) _
      rw [m.var, oW_some]
      refine m.get (fit.2.2.2 x hx') ?_
      rw [u_not, oW_some]
      exact gcV_same hK'
    · have hall : ((r.drop 1).any fun x => !decide (onL l x.toNat)) = !(rhs r).all fun x => decide (onL l x) := by
        unfold rhs
        rw [List.all_map, List.not_all_eq_any_not]; rfl
      rw [hall, bW_bool]
      constructor
      · intro q
        have q' : ¬ (rhs r).all (fun x => decide (onL l x)) = true := by simpa using q
        have e : nstep l r = l := by unfold nstep; rw [if_neg q']
        exact gcV_same (k false H (by rw [e]; exact m) (fun q => by cases q) fun _ => e)
      · intro q
        have q' : (rhs r).all (fun x => decide (onL l x)) = true := by simpa using q
        have e : nstep l r = markL l (lhs r) := by unfold nstep; rw [if_pos q']
        rw [m.var, oW_some]
        refine ix0 fit.1 (m.put hx fun H' m' => gcV_same (k true H' (by rw [e]; exact m') (fun _ => ?_) fun z => by cases z))
        have := cnt_mark hlt hoff
        have := cntL_le (markL l (lhs r))
        rw [markL_len, m.2] at this
        rw [e]; omega
/-- Marks to begin with: the tokens, or none. -/
def begL (g : Gr) (b : Bool) (i : Nat) : List Bool := (List.replicate i b) ++ List.replicate (g.n - i) false
theorem begL_on {g : Gr} {b : Bool} {i : Nat} {x : Nat} : onL (begL g b i) x ↔ b = true ∧ x < i := by
  unfold onL begL
  rw [List.getD_eq_getElem?_getD, List.getElem?_append, List.length_replicate]
  by_cases h : x < i
  · rw [if_pos h, List.getElem?_replicate, if_pos h]; simp [h]
  · rw [if_neg h, List.getElem?_replicate]
    split <;> simp [h]
theorem begL_set {g : Gr} {b : Bool} {i : Nat} (hi : i < g.n) : (begL g b i).set i b = begL g b (i + 1) := by
  unfold begL
  rw [List.set_append_right _ _ (by simp)]
  simp only [List.length_replicate, Nat.sub_self]
  obtain ⟨k, hk⟩ : ∃ k, g.n - i = k + 1 := ⟨g.n - i - 1, by omega⟩
  rw [hk, show g.n - (i + 1) = k by omega, List.replicate_succ, List.set_cons_zero, List.replicate_succ', List.append_assoc]; rfl
theorem nround_dl' {g : Gr} (ok : g.ok) {C : Cl1 Nat → Prop} {start l : List Bool} (hC : ∀ c, nullC g c → C c) (hC2 : ∀ c, C c → nullC g c ∨ c.2 = [] ∧ onL start c.1) (hl : l.length = g.n) (hs : ∀ i, onL start i → onL l i)
    (snd : ∀ i, onL l i → Dl C i) (fix : ∀ r ∈ g.rules, nstep l r = l) : l = setL g.n (Dl C) :=
  dl_eq hl snd fun x ps hc hp => by
    rcases hC2 _ hc with ⟨r, hr, e2⟩ | ⟨_, e3⟩
    · cases e2
      have := fix r hr
      unfold nstep at this
      rw [if_pos (List.all_eq_true.2 fun y hy => by simpa using hp y hy)] at this
      rw [← this]
      exact (mark_on (by rw [hl]; exact lhs_lt ok hr)).2 (.inl rfl)
    · exact hs _ e3
theorem nstep_snd {g : Gr} (ok : g.ok) {C : Cl1 Nat → Prop} (hC : ∀ c, nullC g c → C c) {l : List Bool} (hl : l.length = g.n) (snd : ∀ i, onL l i → Dl C i) {r : List Int} (hr : r ∈ g.rules) : ∀ i, onL (nstep l r) i → Dl C i := fun i hi => by
  unfold nstep at hi
  split at hi
  · rename_i hall
    rw [mark_on (by rw [hl]; exact lhs_lt ok hr)] at hi
    rcases hi with rfl | hi
    · refine .mk (hC _ ⟨r, hr, rfl⟩) fun p hp => snd p ?_
      have := List.all_eq_true.1 hall p hp
      simpa using this
    · exact snd i hi
  · exact snd i hi
def markC (g : Gr) (b : Bool) (c : Cl1 Nat) : Prop := (b = true ∧ ∃ t : Nat, (t : Int) < g.terms ∧ c = (t, [])) ∨ nullC g c
theorem markC_false {g : Gr} : markC g false = nullC g := by funext c; simp [markC]
open Classical in
noncomputable def Gr.res (g : Gr) (l : List Bool) : Value := if g.ok then bools l else .slice none 0 0
theorem Gr.ok.fin {g : Gr} (ok : g.ok) : g.Fin := ⟨by have := ok.nn; unfold Gr.n at this; omega, by have := ok.nn; have := ok.tk; have := ok.tn; unfold Gr.n at *; omega, by have := ok.rr; omega, fun r hr => by have := (ok.fit r hr).2.1; omega⟩
theorem marked_spec {g : Gr} (hf : g.Fin) {b : Bool} {h : Heap} {Q : Value → Heap → Prop} (hq : Q (g.res (setL g.n (Dl (markC g b)))) h) : acall Try.prog F_sets_marked [g.enc, .bool b] h Q := by
  apply W_sets_marked_ok
  unfold W_sets_marked
  rw [box_gr, hW_some, GAt.ld .box, oW_some]
  refine callW_plain.2 (right_spec hf ?_)
  rw [u_not, oW_some, bW_bool]
  refine ⟨fun q => ?_, fun q => ?_⟩
  · have hn : ¬ g.ok := by simpa using q
    unfold Gr.res at hq
    rw [if_neg hn] at hq
    exact gcV_box .nilS hq
  have ok : g.ok := by simpa using q
  unfold Gr.res at hq
  rw [if_pos ok] at hq
  refine GAt.names .box ?_
  have hn := ok.nn
  unfold Gr.n at hn
  rw [lenN, oW_some]
  have hrep : repA [Value.bool false] g.names.length = (List.replicate g.names.length false).map Value.bool := by rw [repA_one, List.map_replicate]
  refine ⟨_, _, by
    simp only [mksW]
    rw [if_pos (by omega)], ?_⟩
  simp only [Int.toNat_natCast]
  rw [hrep, letH_eq]
  have L1 : (h ++ [grow g]).length = h.length + 1 := by simp
  have L2 : (h ++ [grow g] ++ [brow (List.replicate g.names.length false)]).length = h.length + 2 := by simp
  rw [L2, L1]
  have est : stW 1 (h ++ [grow g] ++ [brow (List.replicate g.names.length false)] ++ [AObj.row [.slice none 0 0] .exact]) (.pointer (some ⟨h.length + 2, 0, none⟩)) (.slice (some ⟨h.length + 1, 0, none⟩) g.names.length g.names.length) =
      some (h ++ [grow g, brow (List.replicate g.names.length false), .row [.slice (some ⟨h.length + 1, 0, none⟩) g.n g.n] .exact]) := by
    rw [st1 (c := [.slice none 0 0]) (m := .exact) (by rw [← L2, row_app0]; rfl) (by simp) rfl rfl rfl (by simp), ← L2, set_app0]
    simp
  rw [est, sW_some]
  have m0 : MkH h g (begL g b 0) (h ++ [grow g, brow (List.replicate g.names.length false), .row [.slice (some ⟨h.length + 1, 0, none⟩) g.n g.n] .exact]) := by
    have : begL g b 0 = List.replicate g.names.length false := by simp [begL]
    rw [this]
    exact ⟨rfl, by simp⟩
  refine m0.gat.terms ?_
  obtain ⟨tn, htn⟩ := Int.eq_ofNat_of_zero_le ok.t0
  have htl : tn ≤ g.n := by have := ok.tn; omega
  rw [htn]
  refine ⟨fun k vs H => ∃ i : Nat, vs = [.bool b, .pointer (some ⟨h.length, 0, none⟩), .pointer (some ⟨h.length + 2, 0, none⟩), .int .i64 (tn : Int), .int .i64 (i : Int)] ∧ MkH h g (begL g b i) H ∧ k = tn - i ∧ i ≤ tn, tn, gcL_same ⟨0, rfl, m0, by omega, by omega⟩, ?_⟩
  rintro k x20 x21 x22 x23 x24 h25 ⟨i, hv, m, hk, hi⟩
  simp only [List.cons.injEq, and_true] at hv
  obtain ⟨rfl, rfl, rfl, rfl, rfl⟩ := hv
  rw [n_lss, oW_some, bW_dec]
  constructor
  · intro hlt
    rw [m.var, oW_some]
    refine m.putB (x := (i : Int)) ⟨by omega, by omega⟩ fun H' m' => ?_
    rw [n_add (by unfold Gr.n at htl; omega), oW_some]
    refine ⟨tn - (i + 1), by omega, gcL_same ⟨i + 1, by simp, ?_, rfl, by omega⟩⟩
    rw [Int.toNat_natCast, begL_set (by omega)] at m'
    exact m'
  · intro hge
    have hit : i = tn := by omega
    subst hit
    refine m.gat.rules ?_
    have hC : ∀ c, nullC g c → markC g b c := fun c q => .inr q
    refine callW_plain.2 (until_spec (fun l H => MkH h g l H ∧ (∀ x, onL (begL g b i) x → onL l x) ∧ ∀ x, onL l x → Dl (markC g b) x) nstep (fun l => g.n - cntL l) (by have := ok.rr; omega) (s0 := begL g b i) ⟨m, fun _ q => q, fun x q => ?_⟩ (fun l H r hr ⟨m, i1, i2⟩ K hK => ?_) fun l H ⟨m, i1, i2⟩ fix => ?_)
    · rw [begL_on] at q
      exact .mk (ps := []) (.inl ⟨q.1, x, by omega, rfl⟩) (by simp)
    · exact markedD_spec ok m hr fun b' H' m' b1 b2 => hK b' H' ⟨m', fun x q => (nstep_grows r).up l x (i1 x q), nstep_snd ok hC m.2 i2 hr⟩ b1 b2
    · rw [m.var, oW_some]
      refine m.done ?_
      have := nround_dl' (start := begL g b i) ok hC (fun c hc => ?_) m.2 i1 i2 fix
      · rw [this]; exact hq
      · rcases hc with ⟨hb, t, ht, rfl⟩ | q
        · exact .inr ⟨rfl, begL_on.2 ⟨hb, by omega⟩⟩
        · exact .inl q
theorem cl_bl {l : List Bool} : Cl (bools l) := Cl.lit' fun e he x hx => by
  obtain ⟨b, _, rfl⟩ := List.mem_map.1 he
  simp at hx; subst hx; exact .bool _
theorem cl_il {l : List Int} : Cl (ints l) := Cl.lit' int_cl
theorem nullable_spec {g : Gr} (hf : g.Fin) {h : Heap} {Q : Value → Heap → Prop} (hq : Q (g.res g.nullL) h) : acall Try.prog F_sets_Nullable [g.enc] h Q := by
  apply W_sets_Nullable_ok
  unfold W_sets_Nullable
  rw [box_gr, hW_some, GAt.ld .box, oW_some]
  refine callW_plain.2 (marked_spec hf ?_)
  rw [markC_false]
  exact gcV_box (by unfold Gr.res; split <;> first | exact cl_bl | exact .nilS) hq
end Go.Ax
namespace Go.Ax
open Go Go.Proofs Go.RowKit
/-- Does a rule make a symbol? -/
def hds (x : Int) (r : List Int) : Bool := decide (0 < r.length ∧ r.getD 0 0 = x)
/-- The rules that make a symbol, of the first ones. -/
def Gr.byTo (g : Gr) (x : Int) (i : Nat) : List Int := ((List.range i).filter fun j => hds x (g.rules.getD j [])).map fun (j : Nat) => (j : Int)
def Gr.byL (g : Gr) (x : Int) : List Int := g.byTo x g.rules.length
theorem byTo_len {g : Gr} {x : Int} {i : Nat} : (g.byTo x i).length ≤ i := by
  unfold Gr.byTo
  rw [List.length_map]
  exact Nat.le_trans (List.length_filter_le _ _) (by simp)
theorem byTo_succ {g : Gr} {x : Int} {i : Nat} (h : i < g.rules.length) : g.byTo x (i + 1) = if hds x g.rules[i] = true then g.byTo x i ++ [(i : Int)] else g.byTo x i := by
  unfold Gr.byTo
  have : g.rules.getD i [] = g.rules[i] := by rw [List.getD_eq_getElem?_getD, List.getElem?_eq_getElem h]; rfl
  rw [List.range_succ, List.filter_append, List.map_append]
  simp only [List.filter_cons, List.filter_nil, this]
  split
  · rfl
  · simp
theorem mem_byL {g : Gr} {x y : Int} : y ∈ g.byL x ↔ inR g.rules.length y ∧ hds x (g.rules.getD y.toNat []) = true := by
  unfold Gr.byL Gr.byTo inR
  rw [List.mem_map]
  constructor
  · rintro ⟨j, hj, rfl⟩
    obtain ⟨h1, h2⟩ := List.mem_filter.1 hj
    have := List.mem_range.1 h1
    exact ⟨⟨by omega, by omega⟩, by simpa using h2⟩
  · rintro ⟨⟨h1, h2⟩, h3⟩
    exact ⟨y.toNat, List.mem_filter.2 ⟨List.mem_range.2 (by omega), h3⟩, by omega⟩
theorem by_spec {g : Gr} (hl : g.rules.length ≤ 1000000000) {x : Int} {h : Heap} {Q : Value → Heap → Prop} (hq : Q (ints (g.byL x)) h) : acall Try.prog F_symbols_By [g.enc, .int .i64 x] h Q := by
  apply W_symbols_By_ok
  unfold W_symbols_By
  rw [box_gr, hW_some]
  refine GAt.rules .box ?_
  rw [lenR, oW_some]
  have hB : (h ++ [grow g]).length = h.length + 1 := by simp
  refine ⟨fun k vs H => ∃ (i : Nat) (v : Value) (t : Heap), vs = [.int .i64 x, v, lit (g.rules.map ints), .int .i64 (g.rules.length : Int), .int .i64 (i : Int)] ∧ H = h ++ [grow g] ++ t ∧ k = g.rules.length - i ∧ i ≤ g.rules.length ∧ Acc 1 (h.length + 1) H v ((g.byTo x i).map fun x => .int .i64 x),
    g.rules.length, gcL_same ⟨0, _, [], rfl, by simp, by omega, by omega, Acc.nil⟩, ?_⟩
  rintro k x10 x11 x12 x13 x14 H ⟨i, v, t, hv, rfl, hk, hi, ac⟩
  simp only [List.cons.injEq, and_true] at hv
  obtain ⟨rfl, rfl, rfl, rfl, rfl⟩ := hv
  rw [n_lss, oW_some, bW_dec]
  have hbl := byTo_len (g := g) (x := x) (i := i)
  constructor
  · intro hlt
    have hlt' : i < g.rules.length := by omega
    have hs := byTo_succ (x := x) hlt'
    have no : hds x g.rules[i] = false → oW (binN .add (.int .i64 (i : Int)) (.int .i64 1)) fun v29 => ∃ m8, m8 < k ∧ gcL h ((fun k vs H => ∃ (i : Nat) (v : Value) (t : Heap), vs = [.int .i64 x, v, lit (g.rules.map ints), .int .i64 (g.rules.length : Int), .int .i64 (i : Int)] ∧ H = h ++ [grow g] ++ t ∧ k = g.rules.length - i ∧ i ≤ g.rules.length ∧ Acc 1 (h.length + 1) H v ((g.byTo x i).map fun x => .int .i64 x)) m8) [.int .i64 x, x11, lit (g.rules.map ints), .int .i64 (g.rules.length : Int), v29] (h ++ [grow g] ++ t) := fun q => by
      rw [n_add (by omega), oW_some]
      exact ⟨g.rules.length - (i + 1), by omega, gcL_same ⟨i + 1, x11, t, by simp, rfl, rfl, by omega, by rw [hs, if_neg (by simp [q])]; exact ac⟩⟩
    refine ix_rules hlt' ?_
    rw [lenI, oW_some, n_gtr, oW_some, bW_dec]
    constructor
    · intro h0
      have h0' : 0 < g.rules[i].length := by omega
      refine ix0 h0' ?_
      rw [n_eql, oW_some, bW_dec]
      constructor
      · intro he
        refine Acc.push hB ac (by omega) int_len rfl rfl rfl rfl (by simp; omega) (by simp; omega) fun v' g' a2 _ _ _ => ?_
        rw [n_add (by omega), oW_some]
        exact ⟨g.rules.length - (i + 1), by omega, gcL_same ⟨i + 1, v', g', by simp, rfl, rfl, by omega, by rw [hs, if_pos (show hds x g.rules[i] = true from decide_eq_true ⟨h0', he⟩), List.map_append]; exact a2⟩⟩
      · intro he
        exact no (by unfold hds; rw [decide_eq_false]; exact fun z => he z.2)
    · intro h0
      rw [bW_false]
      exact no (by unfold hds; rw [decide_eq_false]; exact fun z => h0 (by omega))
  · intro hge
    have : i = g.rules.length := by omega
    subst this
    exact ac.done hB ⟨_, rfl⟩ (by omega) int_len int_cl hq
end Go.Ax
namespace Go.Ax
open Go Go.Proofs Go.RowKit
theorem eqBools_spec {a b : List Bool} (ha : a.length ≤ 1000000000) {h : Heap} {Q : Value → Heap → Prop} (hq : Q (.bool (decide (a = b))) h) : acall Try.prog F_homographref17_Bools [bools a, bools b] h Q := by
  apply W_homographref17_Bools_ok
  unfold W_homographref17_Bools
  rw [lenB, oW_some, lenB, oW_some, n_neq, oW_some, bW_dec]
  constructor
  · intro hne
    rw [decide_eq_false (fun e => hne (by rw [e]))] at hq
    exact gcV_same hq
  · intro heq
    have hl : a.length = b.length := by omega
    refine ⟨fun k vs g => ∃ i : Nat, vs = [bools a, bools b, .int .i64 (i : Int)] ∧ g = h ∧ k = a.length - i ∧ i ≤ a.length ∧ a.take i = b.take i, a.length, gcL_same ⟨0, by simp⟩, ?_⟩
    rintro k x8 x9 x10 g ⟨i, hv, rfl, hk, hi, hno⟩
    simp only [List.cons.injEq, and_true] at hv
    obtain ⟨rfl, rfl, rfl⟩ := hv
    rw [lenB, oW_some, n_lss, oW_some, bW_dec]
    constructor
    · intro hlt
      have h1 : i < a.length := by omega
      have h2 : i < b.length := by omega
      refine ix_lit (f := Value.bool) h1 rfl ?_
      rw [cellsOf_bool, ld_plit1, oW_some]
      refine ix_lit (f := Value.bool) h2 rfl ?_
      rw [cellsOf_bool, ld_plit1, oW_some, neB_bool, oW_some, bW_bool]
      constructor
      · intro hne
        rw [decide_eq_false (fun e => by subst e; simp at hne)] at hq
        exact gcV_same hq
      · intro he
        rw [n_add (by omega), oW_some]
        refine ⟨a.length - (i + 1), by omega, gcL_same ⟨i + 1, by simp, rfl, rfl, by omega, ?_⟩⟩
        rw [take_succ' h1, take_succ' h2, hno]
        simp at he
        rw [he]
    · intro hge
      rw [List.take_of_length_le (by omega), List.take_of_length_le (by omega)] at hno
      rw [decide_eq_true hno] at hq
      exact gcV_same hq
end Go.Ax

