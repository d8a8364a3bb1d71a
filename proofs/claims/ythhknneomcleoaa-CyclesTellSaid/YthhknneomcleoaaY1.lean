/- Cycles: plain law; tables closed; the program's answers. -/
import Derived.Test.YthhknneomcleoaaX1
import Derived.Test.YthhknneomcleoaaW5
namespace Go.Ax
open Go Go.Proofs Go.RowKit

/-- One step or more. -/
inductive Plus (R : Nat → Nat → Prop) : Nat → Nat → Prop
  | one {a b : Nat} (h : R a b) : Plus R a b
  | cons {a b c : Nat} (h : R a b) (t : Plus R b c) : Plus R a c
theorem Plus.trans {R : Nat → Nat → Prop} {a b c : Nat} (h : Plus R a b) (t : Plus R b c) : Plus R a c := by
  induction h with
  | one h => exact .cons h t
  | cons h _ ih => exact .cons h (ih t)
theorem Plus.mono {R S : Nat → Nat → Prop} (hs : ∀ a b, R a b → S a b) {a b : Nat} (h : Plus R a b) : Plus S a b := by
  induction h with
  | one h => exact .one (hs _ _ h)
  | cons h _ ih => exact .cons (hs _ _ h) ih
theorem Plus.least {R S : Nat → Nat → Prop} (h1 : ∀ a b, R a b → S a b) (h2 : ∀ a b c, S a b → S b c → S a c) {a b : Nat} (h : Plus R a b) : S a b := by
  induction h with
  | one h => exact h1 _ _ h
  | cons h _ ih => exact h2 _ _ _ (h1 _ _ h) ih
/-- .. by way of numbers below k alone. -/
inductive Via (R : Nat → Nat → Prop) (k : Nat) : Nat → Nat → Prop
  | one {a b : Nat} (h : R a b) : Via R k a b
  | cons {a b c : Nat} (h : R a b) (hb : b < k) (t : Via R k b c) : Via R k a c
theorem Via.plus {R : Nat → Nat → Prop} {k a b : Nat} (h : Via R k a b) : Plus R a b := by
  induction h with
  | one h => exact .one h
  | cons h _ _ ih => exact .cons h ih
theorem Via.of_plus {R : Nat → Nat → Prop} {n : Nat} (hr : ∀ a b, R a b → b < n) {a b : Nat} (h : Plus R a b) : Via R n a b := by
  induction h with
  | one h => exact .one h
  | cons h _ ih => exact .cons h (hr _ _ h) ih
theorem Via.split {R : Nat → Nat → Prop} {k a c : Nat} (h : Via R (k + 1) a c) : Via R k a c ∨ (Via R k a k ∧ Via R k k c) := by
  induction h with
  | one h => exact .inl (.one h)
  | @cons a b c h hb _ ih =>
    by_cases e : b = k
    · subst e
      rcases ih with q | ⟨_, q⟩ <;> exact .inr ⟨.one h, q⟩
    · have hb' : b < k := by omega
      rcases ih with q | ⟨q1, q2⟩
      · exact .inl (.cons h hb' q)
      · exact .inr ⟨.cons h hb' q1, q2⟩
theorem Via.zero {R : Nat → Nat → Prop} {a b : Nat} (h : Via R 0 a b) : R a b := by
  cases h with
  | one h => exact h
  | cons _ hb _ => omega

/-- How many pairs are not in a table. -/
def missT (n : Nat) (T : List (List Bool)) : Nat := (List.range (n * n)).countP fun p => !decide (onT T (p / n) (p % n))
theorem countP_strict {α : Type} {p q : α → Bool} : ∀ {l : List α}, (∀ x ∈ l, p x = true → q x = true) → (∃ x ∈ l, q x = true ∧ p x = false) → l.countP p < l.countP q
  | [], _, ⟨_, h, _⟩ => by cases h
  | a :: l, hs, ⟨x, hx, h1, h2⟩ => by
    rw [List.countP_cons, List.countP_cons]
    have hle : l.countP p ≤ l.countP q := List.countP_mono_left fun y hy => hs y (List.mem_cons_of_mem _ hy)
    rcases List.mem_cons.1 hx with rfl | hx
    · rw [h1, h2]; simp; omega
    · have := countP_strict (p := p) (q := q) (l := l) (fun y hy => hs y (List.mem_cons_of_mem _ hy)) ⟨x, hx, h1, h2⟩
      have ha := hs a (List.mem_cons_self ..)
      cases hp : p a with
      | false => simp; omega
      | true => rw [ha hp]; simp; omega
theorem miss_lt {n : Nat} {T T' : List (List Bool)} {i j : Nat} (hi : i < n) (hj : j < n) (hs : ∀ a b, onT T a b → onT T' a b) (h1 : ¬ onT T i j) (h2 : onT T' i j) : missT n T' < missT n T := by
  unfold missT
  refine countP_strict (fun x _ h => ?_) ⟨i * n + j, ?_, ?_⟩
  · simp only [Bool.not_eq_true', decide_eq_false_iff_not] at h ⊢
    exact fun q => h (hs _ _ q)
  · rw [List.mem_range]
    calc i * n + j < i * n + n := by omega
      _ = (i + 1) * n := by rw [Nat.succ_mul]
      _ ≤ n * n := Nat.mul_le_mul_right _ hi
  · have e1 : (i * n + j) / n = i := by
      rw [Nat.mul_comm, Nat.mul_add_div (by omega), Nat.div_eq_of_lt hj]; rfl
    have e2 : (i * n + j) % n = j := by
      rw [Nat.mul_comm, Nat.mul_add_mod, Nat.mod_eq_of_lt hj]
    rw [e1, e2]
    simp [h1, h2]
theorem miss_le {n : Nat} {T T' : List (List Bool)} (hs : ∀ a b, onT T a b → onT T' a b) : missT n T' ≤ missT n T := by
  unfold missT
  refine List.countP_mono_left fun x _ h => ?_
  simp only [Bool.not_eq_true', decide_eq_false_iff_not] at h ⊢
  exact fun q => h (hs _ _ q)

/-- The table of a relation. -/
noncomputable def tabS (n : Nat) (R : Nat → Nat → Prop) : List (List Bool) := (List.range n).map fun i => setL n (R i)
theorem tabS_len {n : Nat} {R : Nat → Nat → Prop} : (tabS n R).length = n := by simp [tabS]
theorem tabS_row {n : Nat} {R : Nat → Nat → Prop} {i : Nat} (h : i < (tabS n R).length) : (tabS n R)[i] = setL n (R i) := by simp [tabS]
theorem tabS_wid {n : Nat} {R : Nat → Nat → Prop} : ∀ r ∈ tabS n R, r.length = n := fun r hr => by
  unfold tabS at hr
  obtain ⟨i, _, rfl⟩ := List.mem_map.1 hr
  simp
theorem eq_tabS {n : Nat} {R : Nat → Nat → Prop} {T : List (List Bool)} (hl : T.length = n) (hw : ∀ r ∈ T, r.length = n) (h : ∀ i j, i < n → j < n → (onT T i j ↔ R i j)) : T = tabS n R := by
  apply List.ext_getElem (by rw [tabS_len, hl])
  intro i p q
  rw [tabS_row]
  refine eq_setL (hw _ (List.getElem_mem p)) fun j hj => ?_
  rw [← onT_iff p]
  exact h i j (by omega) hj
theorem onT_lt2 {T : List (List Bool)} {c i j : Nat} (hw : ∀ r ∈ T, r.length = c) (h : onT T i j) : i < T.length ∧ j < c := by
  have h1 := onT_lt h
  refine ⟨h1, ?_⟩
  rw [onT_iff h1] at h
  have := on_lt h
  rw [hw _ (List.getElem_mem h1)] at this
  exact this

/-- A step of a kind by a rule: what stands ahead, and behind. -/
def stepR (g : Gr) (p : List Int → List Int → Prop) (i j : Nat) : Prop := ∃ r ∈ g.rules, ∃ a x b, r.drop 1 = a ++ x :: b ∧ p a b ∧ i = lhs r ∧ j = x.toNat
def emptyR (g : Gr) (l : List Int) : Prop := ∀ x ∈ l, onL g.nullL x.toNat
def Gr.alone (g : Gr) : Nat → Nat → Prop := stepR g fun a b => emptyR g a ∧ emptyR g b
def Gr.ahead (g : Gr) (m : Nat) : Nat → Nat → Prop := stepR g fun a _ => m ≤ a.length ∧ emptyR g a
noncomputable def Gr.aloneT (g : Gr) : List (List Bool) := tabS g.n (Plus g.alone)
noncomputable def Gr.cycL (g : Gr) : List Bool := setL g.n fun i => Plus g.alone i i
noncomputable def Gr.leftL (g : Gr) : List Bool := setL g.n fun i => Plus (g.ahead 0) i i
def Gr.hid (g : Gr) (s : Nat) : Prop := ∃ i j, g.ahead 1 i j ∧ (i = s ∨ Plus (g.ahead 0) s i) ∧ (j = s ∨ Plus (g.ahead 0) j s)
noncomputable def Gr.hidL (g : Gr) : List Bool := setL g.n g.hid
theorem stepR_lt {g : Gr} (ok : g.ok) {p : List Int → List Int → Prop} {i j : Nat} (h : stepR g p i j) : i < g.n ∧ j < g.n := by
  obtain ⟨r, hr, a, x, b, e, _, rfl, rfl⟩ := h
  have := (ok.fit r hr).2.2.2 x (by rw [e]; simp)
  unfold inR at this
  exact ⟨lhs_lt ok hr, by omega⟩
end Go.Ax

namespace Go.Ax
open Go Go.Proofs Go.RowKit

theorem TabAt.lenS {c n0 : Nat} {H : Heap} {v : Value} {ms : List Nat} {T : List (List Bool)} (a : TabAt c n0 H v ms T) : Go.Ax.lenS v = some (.int .i64 (T.length : Int)) := by
  have := a.acc.len
  rw [List.length_map, a.len] at this; exact this
theorem lenRow {c j : Nat} : lenS (rowV c j) = some (.int .i64 (c : Int)) := by simp
/-- A table between a relation and what follows from it. -/
structure ClS (c n0 : Nat) (v : Value) (ms : List Nat) (h : Heap) (R : Nat → Nat → Prop) (T : List (List Bool)) (H : Heap) : Prop where
  tab : TabAt c n0 H v ms T
  sq : T.length = c
  low : ∀ j, j < n0 → H[j]? = h[j]?
  len : H.length = h.length
  all : ∀ a b, R a b → onT T a b
  snd : ∀ a b, onT T a b → Plus R a b
/-- Closed, up to a place. -/
def ClB (T : List (List Bool)) (i k j : Nat) : Prop := ∀ i' k' j', (i' < i ∨ i' = i ∧ (k' < k ∨ k' = k ∧ j' < j)) → onT T i' k' → onT T k' j' → onT T i' j'
structure ClW (c n0 : Nat) (v : Value) (ms : List Nat) (h : Heap) (R : Nat → Nat → Prop) (T0 : List (List Bool)) (i k j : Nat) (more : Bool) (T : List (List Bool)) (H : Heap) : Prop where
  st : ClS c n0 v ms h R T H
  up : ∀ a b, onT T0 a b → onT T a b
  yes : more = true → missT c T < missT c T0
  no : more = false → T = T0 ∧ ClB T0 i k j
def ClI1 (c n0 : Nat) (v : Value) (ms : List Nat) (h : Heap) (R : Nat → Nat → Prop) (m : Nat) (vs : List Value) (H : Heap) : Prop :=
  ∃ (T : List (List Bool)) (more : Bool), vs = [v, .bool more] ∧ ClS c n0 v ms h R T H ∧ m = missT c T + (if more then 1 else 0) ∧ (more = false → ClB T c 0 0)
def ClI2 (c n0 : Nat) (v : Value) (ms : List Nat) (h : Heap) (R : Nat → Nat → Prop) (T0 : List (List Bool)) (m : Nat) (vs : List Value) (H : Heap) : Prop :=
  ∃ (T : List (List Bool)) (more : Bool) (i : Nat), vs = [v, .bool more, .int .i64 (c : Int), .int .i64 (i : Int)] ∧ ClW c n0 v ms h R T0 i 0 0 more T H ∧ m = c - i ∧ i ≤ c
def ClI3 (c n0 : Nat) (v : Value) (ms : List Nat) (h : Heap) (R : Nat → Nat → Prop) (T0 : List (List Bool)) (i : Nat) (rv : Value) (m : Nat) (vs : List Value) (H : Heap) : Prop :=
  ∃ (T : List (List Bool)) (more : Bool) (k : Nat), vs = [v, .bool more, .int .i64 (i : Int), .int .i64 (c : Int), .int .i64 (i : Int), rv, .int .i64 (c : Int), .int .i64 (k : Int)] ∧ ClW c n0 v ms h R T0 i k 0 more T H ∧ m = c - k ∧ k ≤ c
def ClI4 (c n0 : Nat) (v : Value) (ms : List Nat) (h : Heap) (R : Nat → Nat → Prop) (T0 : List (List Bool)) (i : Nat) (rv : Value) (k : Nat) (is : Bool) (m : Nat) (vs : List Value) (H : Heap) : Prop :=
  ∃ (T : List (List Bool)) (more : Bool) (j : Nat), vs = [v, .bool more, .int .i64 (i : Int), .int .i64 (k : Int), .bool is, .int .i64 (c : Int), .int .i64 (i : Int), rv, .int .i64 (c : Int), .int .i64 (k : Int), .int .i64 (c : Int), .int .i64 (j : Int)] ∧ ClW c n0 v ms h R T0 i k j more T H ∧
    (is = true → onT T i k) ∧ (more = false → is = decide (onT T0 i k)) ∧ m = c - j ∧ j ≤ c

theorem closeT_spec {c n0 : Nat} {h : Heap} {v : Value} {ms : List Nat} {T : List (List Bool)} (ta : TabAt c n0 h v ms T) (sq : T.length = c) (hc : c ≤ 1000000) {Q : Value → Heap → Prop}
    (hq : ∀ H' T', TabAt c n0 H' v ms T' → T'.length = c → (∀ i j, onT T' i j ↔ Plus (onT T) i j) → (∀ j, j < n0 → H'[j]? = h[j]?) → H'.length = h.length → Q v H') :
    acall Try.prog F_cycles_table_bool_close [v] h Q := by
  apply W_cycles_table_bool_close_ok
  unfold W_cycles_table_bool_close
  refine ⟨ClI1 c n0 v ms h (onT T), missT c T + 1, gcL_same ⟨T, true, rfl, ⟨ta, sq, fun _ _ => rfl, rfl, fun _ _ q => q, fun _ _ q => .one q⟩, rfl, (fun q => by cases q)⟩, ?_⟩
  generalize hR : onT T = R at hq
  clear hR ta sq
  rintro k4 x5 x6 h7 ⟨T0, more, hv, st, hk, hno⟩
  simp only [List.cons.injEq, and_true] at hv
  obtain ⟨rfl, rfl⟩ := hv
  rw [bW_bool]
  constructor
  rotate_left
  · intro hm
    refine gcV_same (hq h7 T0 st.tab st.sq (fun i j => ⟨st.snd i j, fun q => ?_⟩) st.low st.len)
    refine Plus.least (S := onT T0) st.all (fun a b d h1 h2 => ?_) q
    have := onT_lt2 st.tab.wid h1
    exact hno hm a b d (.inl (by have := st.sq; omega)) h1 h2
  intro hm
  subst hm
  rw [st.tab.lenS, oW_some, st.sq]
  refine ⟨ClI2 c n0 x5 ms h R T0, c, gcL_same ⟨T0, false, 0, rfl, ⟨st, fun _ _ q => q, (fun q => by cases q), fun _ => ⟨rfl, fun _ _ _ q => by omega⟩⟩, by omega, by omega⟩, ?_⟩
  simp only [if_true] at hk
  clear st hno
  rintro k12 x13 x14 x15 x16 h17 ⟨T1, more, i, hv, w, hk2, hi⟩
  simp only [List.cons.injEq, and_true] at hv
  obtain ⟨rfl, rfl, rfl, rfl⟩ := hv
  rw [n_lss, oW_some, bW_dec]
  constructor
  rotate_left
  · intro hge
    have hic : i = c := by omega
    subst hic
    refine ⟨missT i T1 + (if more then 1 else 0), ?_, gcL_same ⟨T1, more, rfl, w.st, rfl, fun q => ?_⟩⟩
    · cases more with
      | true => have := w.yes rfl; simp; omega
      | false => have := (w.no rfl).1; subst this; simp; omega
    · obtain ⟨e, q2⟩ := w.no q
      subst e; exact q2
  intro hlt
  have hi' : i < c := by omega
  have hsq := w.st.sq
  refine w.st.tab.get (x := (i : Int)) (by unfold inR; omega) fun p => ?_
  simp only [Int.toNat_natCast]
  rw [lenRow, oW_some]
  have hmi : i < ms.length := by rw [w.st.tab.len]; omega
  generalize hrv : rowV c (ms[i]'hmi) = rv
  refine ⟨ClI3 c n0 x13 ms h R T0 i rv, c, gcL_same ⟨T1, more, 0, rfl, w, by omega, by omega⟩, ?_⟩
  clear w hsq p
  rintro k25 x26 x27 x28 x29 x30 x31 x32 x33 h34 ⟨T2, more, k, hv, w, hk3, hkc⟩
  simp only [List.cons.injEq, and_true] at hv
  obtain ⟨rfl, rfl, rfl, rfl, rfl, rfl, rfl, rfl⟩ := hv
  rw [n_lss, oW_some, bW_dec]
  constructor
  rotate_left
  · intro hge
    have hkc' : k = c := by omega
    subst hkc'
    rw [n_add (by omega), oW_some]
    refine ⟨k - (i + 1), by omega, gcL_same ⟨T2, more, i + 1, rfl, ⟨w.st, w.up, w.yes, fun q => ?_⟩, rfl, by omega⟩⟩
    obtain ⟨e, q2⟩ := w.no q
    refine ⟨e, fun i' k' j' hlt2 h1 h2 => ?_⟩
    have : k' < k := by
      have e2 := onT_lt2 (c := k) (T := T0) (by rw [← e]; exact w.st.tab.wid) h1
      exact e2.2
    exact q2 i' k' j' (by omega) h1 h2
  intro hlt2
  have hk' : k < c := by omega
  have hsq := w.st.sq
  have hml := w.st.tab.len
  rw [← hrv]
  refine w.st.tab.cell hmi (t := (k : Int)) (by unfold inR; omega) ?_
  simp only [Int.toNat_natCast]
  refine w.st.tab.get (x := (k : Int)) (by unfold inR; omega) fun p => ?_
  rw [lenRow, oW_some]
  generalize hrv2 : rowV c (ms[i]'hmi) = rv
  refine ⟨ClI4 c n0 x26 ms h R T0 i rv k (decide (onT T2 i k)), c, gcL_same ⟨T2, more, 0, rfl, w, fun q => by simpa using q, fun q => by rw [(w.no q).1], by omega, by omega⟩, ?_⟩
  generalize decide (onT T2 i k) = is
  clear w hsq p hml
  rintro k44 x45 x46 x47 x48 x49 x50 x51 x52 x53 x54 x55 x56 h57 ⟨T3, more, j, hv, w, his, his2, hk4, hj⟩
  simp only [List.cons.injEq, and_true] at hv
  obtain ⟨rfl, rfl, rfl, rfl, rfl, rfl, rfl, rfl, rfl, rfl, rfl, rfl⟩ := hv
  rw [n_lss, oW_some, bW_dec]
  constructor
  rotate_left
  · intro hge
    have hjc : j = c := by omega
    subst hjc
    rw [n_add (by omega), oW_some]
    refine ⟨j - (k + 1), by omega, gcL_same ⟨T3, more, k + 1, rfl, ⟨w.st, w.up, w.yes, fun q => ?_⟩, rfl, by omega⟩⟩
    obtain ⟨e, q2⟩ := w.no q
    refine ⟨e, fun i' k' j' hlt2 h1 h2 => ?_⟩
    have : j' < j := (onT_lt2 (c := j) (T := T0) (by rw [← e]; exact w.st.tab.wid) h2).2
    exact q2 i' k' j' (by omega) h1 h2
  intro hlt3
  have hj' : j < c := by omega
  have hsq := w.st.sq
  have hml := w.st.tab.len
  -- nothing is to be done
  have skip : (more = false → onT T0 i k → onT T0 k j → onT T0 i j) → oW (binN .add (.int .i64 (j : Int)) (.int .i64 1)) fun v73 => ∃ m43, m43 < k44 ∧ gcL h (ClI4 c n0 x45 ms h R T0 i x52 k is m43) [x45, .bool more, .int .i64 (i : Int), .int .i64 (k : Int), .bool is, .int .i64 (c : Int), .int .i64 (i : Int), x52, .int .i64 (c : Int), .int .i64 (k : Int), .int .i64 (c : Int), v73] h57 := fun hcl => by
    rw [n_add (by omega), oW_some]
    refine ⟨c - (j + 1), by omega, gcL_same ⟨T3, more, j + 1, rfl, ⟨w.st, w.up, w.yes, fun q => ?_⟩, his, his2, rfl, by omega⟩⟩
    obtain ⟨e, q2⟩ := w.no q
    refine ⟨e, fun i' k' j' hlt2 h1 h2 => ?_⟩
    by_cases z : i' = i ∧ k' = k ∧ j' = j
    · obtain ⟨rfl, rfl, rfl⟩ := z
      exact hcl q h1 h2
    · exact q2 i' k' j' (by omega) h1 h2
  rw [bW_bool]
  constructor
  rotate_left
  · intro hf
    rw [bW_false]
    refine skip fun q h1 => ?_
    have := his2 q
    rw [hf] at this
    simp only [eq_comm (a := false), decide_eq_false_iff_not] at this
    exact absurd h1 this
  intro hist
  have hik := his hist
  refine w.st.tab.get (x := (k : Int)) (by unfold inR; omega) fun p => ?_
  simp only [Int.toNat_natCast]
  refine w.st.tab.cell (by omega) (t := (j : Int)) (by unfold inR; omega) ?_
  simp only [Int.toNat_natCast]
  rw [bW_dec]
  constructor
  rotate_left
  · intro hn
    rw [bW_false]
    refine skip fun q _ h2 => ?_
    rw [(w.no q).1] at hn
    exact absurd h2 hn
  intro hkj
  refine w.st.tab.get (x := (i : Int)) (by unfold inR; omega) fun p => ?_
  simp only [Int.toNat_natCast]
  refine w.st.tab.cell (by omega) (t := (j : Int)) (by unfold inR; omega) ?_
  simp only [Int.toNat_natCast]
  rw [u_not, oW_some, bW_bool]
  constructor
  rotate_left
  · intro hn
    have hij : onT T3 i j := by simpa using hn
    refine skip fun q _ _ => ?_
    rw [← (w.no q).1]; exact hij
  intro hn
  have hij : ¬ onT T3 i j := by simpa using hn
  refine w.st.tab.get (x := (i : Int)) (by unfold inR; omega) fun p => ?_
  simp only [Int.toNat_natCast]
  refine w.st.tab.put (by omega) (t := (j : Int)) (by unfold inR; omega) fun H' T' ta' hl' hon hlow hlen => ?_
  simp only [Int.toNat_natCast] at hon
  have up : ∀ a b, onT T3 a b → onT T' a b := fun a b q => by
    rw [hon]
    split
    · trivial
    · exact q
  have hT' : onT T' i j := by rw [hon, if_pos ⟨rfl, rfl⟩]; trivial
  rw [n_add (by omega), oW_some]
  refine ⟨c - (j + 1), by omega, gcL_same ⟨T', true, j + 1, rfl, ⟨⟨ta', by rw [hl', hsq], fun q hq2 => (hlow q hq2).trans (w.st.low q hq2), hlen.trans w.st.len, fun a b q => up a b (w.st.all a b q), fun a b q => ?_⟩, fun a b q => up a b (w.up a b q), fun _ => ?_, (fun q => by cases q)⟩, fun q => up _ _ (his q), (fun q => by cases q), rfl, by omega⟩⟩
  · rw [hon] at q
    split at q
    · rename_i z
      obtain ⟨rfl, rfl⟩ := z
      exact (w.st.snd _ _ hik).trans (w.st.snd _ _ hkj)
    · exact w.st.snd a b q
  · have h1 := miss_lt (n := c) (by omega) hj' up hij hT'
    have h2 := miss_le (n := c) w.up
    omega

end Go.Ax

namespace Go.Ax
open Go Go.Proofs Go.RowKit

/-- What a heap has, and more. -/
theorem ext_low {B H H' : Heap} {n0 : Nat} (e : ∃ U, H = B ++ U) (low : ∀ j, j < n0 → H'[j]? = H[j]?) (hn : B.length ≤ n0) (hl : H'.length = H.length) : ∃ U, H' = B ++ U := by
  obtain ⟨U, rfl⟩ := e
  refine ⟨H'.drop B.length, ?_⟩
  have : H'.take B.length = B := by
    apply List.ext_getElem?
    intro i
    by_cases h : i < B.length
    · rw [List.getElem?_take_of_lt h, low i (by omega), List.getElem?_append_left h]
    · rw [List.getElem?_eq_none (by simp; omega), List.getElem?_eq_none (by omega)]
  conv => rhs; lhs; rw [← this]
  rw [List.take_append_drop]
theorem sl_ints2 {l : List Int} {a b : Nat} {h : Heap} (hab : a ≤ b) (hb : b ≤ l.length) : slS 1 h (ints l) (some (.int .i64 (a : Int))) (some (.int .i64 (b : Int))) none = some (ints ((l.take b).drop a)) := by
  simp only [slS, isLit, litSlice, asNat]
  have hall : (l.map fun n => Value.int .i64 n).all (fun e => (cellsOf e).length == 1) = true := by simp
  simp only [List.toList_toArray, hall, if_true]
  rw [if_pos (by omega), if_pos (by omega)]
  simp only [Int.toNat_natCast, List.length_map]
  rw [if_pos ⟨hab, hb⟩, ← List.map_drop, ← List.map_take]
  congr 3
  rw [List.drop_take]
theorem drop1_split {r : List Int} {i : Nat} (h : i < (r.drop 1).length) : r.drop 1 = (r.take (i + 1)).drop 1 ++ (r.drop 1)[i] :: r.drop (i + 2) := by
  rw [List.drop_take, Nat.add_sub_cancel]
  have e := List.take_append_drop i (r.drop 1)
  rw [List.drop_eq_getElem_cons h, List.drop_drop] at e
  rw [show i + 2 = 1 + (i + 1) from by omega]
  exact e.symm

/-- Tables without anything. -/
def BlI (n : Nat) (h : Heap) (m : Nat) (vs : List Value) (H : Heap) : Prop :=
  ∃ (i : Nat) (v : Value) (g : Heap) (ms : List Nat), vs = [.int .i64 (n : Int), v, .int .i64 (n : Int), .int .i64 (i : Int)] ∧ H = h ++ g ∧ Acc 1 h.length H v (ms.map (rowV n) ++ List.replicate (n - i) (.slice none 0 0)) ∧ ms.length = i ∧ ms.Nodup ∧
    (∀ j ∈ ms, h.length ≤ j ∧ ¬ lies v j) ∧ (∀ j ∈ ms, getRow H j = some ((List.replicate n false).map .bool, .exact)) ∧ m = n - i ∧ i ≤ n
theorem blank_spec {n : Nat} (hn : n ≤ 1000000) {h : Heap} {Q : Value → Heap → Prop} (hq : ∀ U v ms, TabAt n h.length (h ++ U) v ms (List.replicate n (List.replicate n false)) → Q v (h ++ U)) : acall Try.prog F_cycles_blank_bool [.int .i64 (n : Int)] h Q := by
  apply W_cycles_blank_bool_ok
  unfold W_cycles_blank_bool
  refine ⟨_, _, by
    simp only [mksW]
    rw [if_pos (by omega)], ?_⟩
  simp only [Int.toNat_natCast]
  rw [repA_one, show lenS (.slice (some ⟨h.length, 0, none⟩) n n) = some (.int .i64 (n : Int)) by simp, oW_some]
  refine ⟨BlI n h, n, gcL_same ⟨0, _, [.row (List.replicate n (.slice none 0 0)) .exact], [], rfl, rfl, ?_, rfl, .nil, by simp, by simp, rfl, by omega⟩, ?_⟩
  · have := Acc.made (sz := 1) (n := h.length) (H := h) (l := List.replicate n (.slice none 0 0)) (fun x hx => by rw [List.eq_of_mem_replicate hx]; rfl) (Nat.le_refl _)
    have fl : (List.replicate n (Value.slice none 0 0)).flatMap cellsOf = List.replicate n (.slice none 0 0) := flat_one fun e he => by rw [List.eq_of_mem_replicate he]; rfl
    rw [fl] at this
    simpa using this
  rintro k7 x8 x9 x10 x11 h12 ⟨i, v, g, ms, hv, rfl, acc, hml, hnd, hge, hrow, hk, hi⟩
  simp only [List.cons.injEq, and_true] at hv
  obtain ⟨rfl, rfl, rfl, rfl⟩ := hv
  have hz : ∀ x ∈ ms.map (rowV n) ++ List.replicate (n - i) (Value.slice none 0 0), (cellsOf x).length = 1 := fun x hx => by
    rcases List.mem_append.1 hx with q | q
    · exact rowV_len x q
    · rw [List.eq_of_mem_replicate q]; rfl
  rw [n_lss, oW_some, bW_dec]
  constructor
  · intro hlt
    have hi' : i < n := by omega
    refine ⟨_, _, by
      simp only [mksW]
      rw [if_pos (by omega)], ?_⟩
    simp only [Int.toNat_natCast]
    rw [repA_one, show (List.replicate n (Value.bool false)) = (List.replicate n false).map Value.bool by rw [List.map_replicate], List.append_assoc]
    have hln : ∀ j, lies x9 j → j < (h ++ g).length := fun j hj => acc.lt hj
    have acc' : Acc 1 h.length (h ++ (g ++ [.row ((List.replicate n false).map .bool) .exact])) x9 (ms.map (rowV n) ++ List.replicate (n - i) (.slice none 0 0)) := by rw [← List.append_assoc]; exact acc.app
    refine Acc.set rfl acc' (by omega) hz (e := rowV n (h ++ g).length) rfl rfl rfl (by simp; omega) fun g' a2 same => ?_
    rw [n_add (by omega), oW_some]
    have hnew : (h ++ g).length ∉ ms := fun z => by have := getRow_lt (hrow _ z); omega
    have hnl : ¬ lies x9 (h ++ g).length := fun z => by have := hln _ z; omega
    have hrn : getRow (h ++ g') (h ++ g).length = some ((List.replicate n false).map .bool, .exact) := by
      rw [getRow_same (same _ hnl), ← List.append_assoc, row_app0]; rfl
    refine ⟨n - (i + 1), by omega, gcL_same ⟨i + 1, x9, g', ms ++ [(h ++ g).length], rfl, rfl, ?_, by simp [hml], ?_, fun j hj => ?_, fun j hj => ?_, rfl, by omega⟩⟩
    · have e : (ms.map (rowV n) ++ List.replicate (n - i) (Value.slice none 0 0)).set i (rowV n (h ++ g).length) = (ms ++ [(h ++ g).length]).map (rowV n) ++ List.replicate (n - (i + 1)) (.slice none 0 0) := by
        rw [List.set_append_right _ _ (by simp [hml]), show n - i = (n - (i + 1)) + 1 by omega, List.replicate_succ]
        simp [hml]
      rw [e] at a2; exact a2
    · rw [List.nodup_append]
      exact ⟨hnd, by simp, fun x hx y hy e => hnew (by rw [List.mem_singleton.1 hy] at e; rw [← e]; exact hx)⟩
    · rcases List.mem_append.1 hj with q | q
      · exact hge j q
      · rw [List.mem_singleton.1 q]; exact ⟨by simp, hnl⟩
    · rcases List.mem_append.1 hj with q | q
      · have hlt := getRow_lt (hrow j q)
        rw [getRow_same (same _ (hge j q).2), ← List.append_assoc]
        exact getRow_app (hrow j q)
      · rw [List.mem_singleton.1 q]; exact hrn
  · intro hge2
    have hin : i = n := by omega
    rw [hin, Nat.sub_self, List.replicate_zero, List.append_nil] at acc
    refine gcV_same (hq g x9 ms ⟨acc, by simp; omega, hnd, hge, fun j p q => ?_, fun r hr => by rw [List.eq_of_mem_replicate hr]; simp⟩)
    rw [List.getElem_replicate]
    exact hrow _ (List.getElem_mem p)
theorem not_blank {n c i j : Nat} : ¬ onT (List.replicate n (List.replicate c false)) i j := fun h => by
  have h1 := onT_lt h
  rw [onT_iff h1, List.getElem_replicate] at h
  exact absurd h on_fls

/-- Steps by some rules. -/
def stepL (rs : List (List Int)) (p : List Int → List Int → Prop) (i j : Nat) : Prop := ∃ r ∈ rs, ∃ a x b, r.drop 1 = a ++ x :: b ∧ p a b ∧ i = lhs r ∧ j = x.toNat
def StI (g : Gr) (p : List Int → List Int → Prop) (B : Heap) (f : Value) (m : Nat) (vs : List Value) (H : Heap) : Prop :=
  ∃ (k : Nat) (v : Value) (ms : List Nat) (T : List (List Bool)), vs = [f, v, lit (g.rules.map ints), .int .i64 (g.rules.length : Int), .int .i64 (k : Int)] ∧ (∃ U, H = B ++ U) ∧ TabAt g.n B.length H v ms T ∧ T.length = g.n ∧ (∀ i j, onT T i j ↔ stepL (g.rules.take k) p i j) ∧ m = g.rules.length - k ∧ k ≤ g.rules.length
def StJ (g : Gr) (p : List Int → List Int → Prop) (B : Heap) (f : Value) (k : Nat) (r : List Int) (m : Nat) (vs : List Value) (H : Heap) : Prop :=
  ∃ (q : Nat) (v : Value) (ms : List Nat) (T : List (List Bool)), vs = [f, v, ints r, lit (g.rules.map ints), .int .i64 (g.rules.length : Int), .int .i64 (k : Int), ints (r.drop 1), .int .i64 ((r.drop 1).length : Int), .int .i64 (q : Int)] ∧ (∃ U, H = B ++ U) ∧ TabAt g.n B.length H v ms T ∧ T.length = g.n ∧
    (∀ i j, onT T i j ↔ stepL (g.rules.take k) p i j ∨ ∃ a x b, r.drop 1 = a ++ x :: b ∧ a.length < q ∧ p a b ∧ i = lhs r ∧ j = x.toNat) ∧ m = (r.drop 1).length - q ∧ q ≤ (r.drop 1).length
theorem stepL_succ {rs : List (List Int)} {k : Nat} (hk : k < rs.length) {p : List Int → List Int → Prop} {i j : Nat} : stepL (rs.take (k + 1)) p i j ↔ stepL (rs.take k) p i j ∨ ∃ a x b, rs[k].drop 1 = a ++ x :: b ∧ p a b ∧ i = lhs rs[k] ∧ j = x.toNat := by
  unfold stepL
  rw [List.take_add_one, List.getElem?_eq_getElem hk]
  constructor
  · rintro ⟨r, hr, q⟩
    rcases List.mem_append.1 hr with z | z
    · exact .inl ⟨r, z, q⟩
    · simp only [Option.toList_some, List.mem_singleton] at z
      subst z; exact .inr q
  · rintro (⟨r, hr, q⟩ | q)
    · exact ⟨r, List.mem_append_left _ hr, q⟩
    · exact ⟨rs[k], List.mem_append_right _ (by rw [Option.toList_some]; exact List.mem_singleton.2 rfl), q⟩

theorem steps_spec {g : Gr} (ok : g.ok) {f : Value} {p : List Int → List Int → Prop} [∀ a b, Decidable (p a b)] {h : Heap} (hf : ∀ U, ∀ r ∈ g.rules, ∀ a x b, r.drop 1 = a ++ x :: b → ∀ K : Value → Heap → Prop, K (.bool (decide (p a b))) (h ++ U) → callW Try.prog f [ints a, ints b] (h ++ U) K)
    {Q : Value → Heap → Prop} (hq : ∀ U v ms T, TabAt g.n (h.length + 1) (h ++ U) v ms T → T.length = g.n → (∀ i j, onT T i j ↔ stepR g p i j) → Q v (h ++ U)) : acall Try.prog F_cycles_steps [g.enc, f] h Q := by
  have hnn := ok.nn
  have hrr := ok.rr
  apply W_cycles_steps_ok
  unfold W_cycles_steps
  rw [box_gr, hW_some]
  refine GAt.names .box ?_
  rw [lenN, oW_some]
  refine callW_plain.2 (blank_spec (n := g.n) (by omega) fun U v ms tb => ?_)
  have ga : GAt (h ++ [grow g] ++ U) h.length g := GAt.box.app
  refine ga.rules ?_
  rw [lenR, oW_some]
  have lB : (h ++ [grow g]).length = h.length + 1 := by simp
  generalize hB : h ++ [grow g] = B at *
  refine ⟨StI g p B f, g.rules.length, gcL_same ⟨0, v, ms, _, rfl, ⟨U, rfl⟩, tb, by simp, fun i j => ⟨fun q => absurd q not_blank, fun ⟨r, hr, _⟩ => by simp at hr⟩, rfl, by omega⟩, ?_⟩
  clear tb ga
  rintro k14 x15 x16 x17 x18 x19 h20 ⟨k, v, ms, T, hv, hU, ta, sq, hT, hk, hkl⟩
  simp only [List.cons.injEq, and_true] at hv
  obtain ⟨rfl, rfl, rfl, rfl, rfl⟩ := hv
  rw [n_lss, oW_some, bW_dec]
  constructor
  rotate_left
  · intro hge
    have hke : k = g.rules.length := by omega
    rw [hke, List.take_length] at hT
    obtain ⟨U, rfl⟩ := hU
    rw [lB] at ta
    have e : B ++ U = h ++ ([grow g] ++ U) := by rw [← hB]; simp
    rw [e] at ta ⊢
    exact gcV_same (hq _ _ ms T ta sq hT)
  intro hlt
  have hk' : k < g.rules.length := by omega
  refine ix_rules hk' ?_
  have hr : g.rules[k] ∈ g.rules := List.getElem_mem hk'
  have hfit := ok.fit _ hr
  have hsucc := fun {i j} => stepL_succ (p := p) hk' (i := i) (j := j)
  have hlr := lhs_lt ok hr
  generalize g.rules[k] = r at *
  rw [sl1 hfit.1, oW_some, lenI, oW_some]
  refine ⟨StJ g p B x15 k r, (r.drop 1).length, gcL_same ⟨0, x16, ms, T, rfl, hU, ta, sq, fun i j => by rw [hT]; exact ⟨.inl, fun q => q.resolve_right (by rintro ⟨a, x, b, _, z, _⟩; omega)⟩, rfl, by omega⟩, ?_⟩
  clear ta sq hT hU
  rintro k29 x30 x31 x32 x33 x34 x35 x36 x37 x38 h39 ⟨q, v, ms, T, hv, hU, ta, sq, hT, hk2, hql⟩
  simp only [List.cons.injEq, and_true] at hv
  obtain ⟨rfl, rfl, rfl, rfl, rfl, rfl, rfl, rfl, rfl⟩ := hv
  have h9 := hfit.2.1
  have hdl : (r.drop 1).length = r.length - 1 := by simp
  rw [n_lss, oW_some, bW_dec]
  constructor
  rotate_left
  · intro hge
    rw [n_add (by omega), oW_some]
    refine ⟨g.rules.length - (k + 1), by omega, gcL_same ⟨k + 1, x31, ms, T, rfl, hU, ta, sq, fun i j => ?_, rfl, by omega⟩⟩
    rw [hT, hsucc]
    refine or_congr Iff.rfl ⟨fun ⟨a, x, b, e, _, z⟩ => ⟨a, x, b, e, z⟩, fun ⟨a, x, b, e, z⟩ => ⟨a, x, b, e, ?_, z⟩⟩
    have := congrArg List.length e
    rw [List.length_append, List.length_cons] at this; omega
  intro hlt2
  have hq' : q < (r.drop 1).length := by omega
  have hsp := drop1_split hq'
  have hal : ((r.take (q + 1)).drop 1).length = q := by simp; omega
  refine ix_ints hq' ?_
  rw [n_add (by omega), oW_some, show ((q : Int) + 1) = ((q + 1 : Nat) : Int) by omega]
  have es : slS 1 h39 (ints r) (some (.int .i64 1)) (some (.int .i64 ((q + 1 : Nat) : Int))) none = some (ints ((r.take (q + 1)).drop 1)) := sl_ints2 (a := 1) (by omega) (by omega)
  rw [es, oW_some, n_add (by omega), oW_some, show ((q : Int) + 2) = ((q + 2 : Nat) : Int) by omega, sl_ints (by omega), oW_some]
  have hx : inR g.n (r.drop 1)[q] := hfit.2.2.2 _ (List.getElem_mem hq')
  generalize (r.drop 1)[q] = x at *
  generalize (r.take (q + 1)).drop 1 = a at *
  generalize r.drop (q + 2) = b at *
  have uniq : ∀ a' x' b', r.drop 1 = a' ++ x' :: b' → a'.length = q → a' = a ∧ x' = x ∧ b' = b := fun a' x' b' e hl => by
    rw [hsp] at e
    have := List.append_inj e (by omega)
    simp only [List.cons.injEq] at this
    exact ⟨this.1.symm, this.2.1.symm, this.2.2.symm⟩
  have ext : ∀ (i j : Nat), (stepL (g.rules.take k) p i j ∨ ∃ a x b, r.drop 1 = a ++ x :: b ∧ a.length < q + 1 ∧ p a b ∧ i = lhs r ∧ j = x.toNat) ↔ (onT T i j ∨ p a b ∧ i = lhs r ∧ j = x.toNat) := fun i j => by
    rw [hT]
    constructor
    · rintro (z | ⟨a', x', b', e, hl, z⟩)
      · exact .inl (.inl z)
      · by_cases hlq : a'.length < q
        · exact .inl (.inr ⟨a', x', b', e, hlq, z⟩)
        · obtain ⟨rfl, rfl, rfl⟩ := uniq a' x' b' e (by omega)
          exact .inr z
    · rintro ((z | ⟨a', x', b', e, hl, z⟩) | z)
      · exact .inl z
      · exact .inr ⟨a', x', b', e, by omega, z⟩
      · exact .inr ⟨a, x, b, hsp, by omega, z⟩
  obtain ⟨U, rfl⟩ := hU
  have eU : B ++ U = h ++ ([grow g] ++ U) := by rw [← hB]; simp
  rw [eU]
  refine hf _ r hr a x b hsp _ ?_
  rw [← eU, bW_dec]
  constructor
  · intro hp
    refine ix0 hfit.1 ?_
    have hl0 : r.getD 0 0 = (lhs r : Int) := by
      have := hfit.2.2.1
      have := ok.t0
      unfold Gr.made inR at *
      unfold lhs; omega
    rw [hl0]
    have hml := ta.len
    refine ta.get (x := (lhs r : Int)) (by unfold inR; omega) fun pp => ?_
    simp only [Int.toNat_natCast]
    refine ta.put (by omega) hx fun H' T' ta' hl' hon hlow hlen => ?_
    rw [oW_some]
    refine ⟨(r.drop 1).length - (q + 1), by omega, gcL_same ⟨q + 1, x31, ms, T', rfl, ext_low ⟨U, rfl⟩ hlow (Nat.le_refl _) hlen, ta', by rw [hl', sq], fun i j => ?_, rfl, by omega⟩⟩
    rw [ext, hon]
    by_cases z : i = lhs r ∧ j = x.toNat
    · rw [if_pos z]; simp [hp, z]
    · rw [if_neg z]; exact ⟨.inl, fun w => w.resolve_right fun w => z w.2⟩
  · intro hp
    rw [oW_some]
    refine ⟨(r.drop 1).length - (q + 1), by omega, gcL_same ⟨q + 1, x31, ms, T, rfl, ⟨U, rfl⟩, ta, sq, fun i j => ?_, rfl, by omega⟩⟩
    rw [ext]
    exact ⟨.inl, fun w => w.resolve_right fun w => hp w.1⟩

end Go.Ax

namespace Go.Ax
open Go Go.Proofs Go.RowKit

theorem ix_bool {l : List Bool} {x : Int} {n : Nat} (hl : l.length = n) (hx : inR n x) {h : Heap} {K : Value → Prop} (k : K (.bool (decide (onL l x.toNat)))) : oW (iaS 1 (bools l) (.int .i64 x)) fun v => oW (ldW false 1 h v) K := by
  unfold inR at hx
  have hlt : x.toNat < l.length := by omega
  rw [show x = ((x.toNat : Nat) : Int) by omega]
  refine ix_lit (f := Value.bool) hlt rfl ?_
  rw [cellsOf_bool, ld_plit1, oW_some]
  have : decide (onL l x.toNat) = l[x.toNat] := by rw [Bool.eq_iff_iff, decide_eq_true_eq, on_iff hlt]
  rwa [this] at k
theorem st_new {H : Heap} {z f : Value} (f1 : okVal f = true) (f2 : cellsOf f = [f]) (f3 : okCell f = true) : stW 1 (H ++ [.row [z] .exact]) (.pointer (some ⟨H.length, 0, none⟩)) f = some (H ++ [.row [f] .exact]) := by
  rw [st1 (c := [z]) (m := .exact) (by rw [row_app0]; rfl) (by simp) f1 f2 f3 (by simp), set_app0]; rfl
theorem resOk {g : Gr} (ok : g.ok) {l : List Bool} : g.res l = bools l := by unfold Gr.res; rw [if_pos ok]
theorem cright_spec {g : Gr} (ok : g.ok) {h : Heap} {Q : Value → Heap → Prop} (hq : Q (.bool true) h) : acall Try.prog F_cycles_right [g.enc] h Q := by
  apply W_cycles_right_ok
  unfold W_cycles_right
  rw [box_gr, hW_some, GAt.ld .box, oW_some]
  refine callW_plain.2 (check16_spec ok.fin ?_)
  have e : g.chk = 0 := by unfold Gr.chk; rw [if_pos ok]
  rw [e, n_eql, oW_some, decide_eq_true rfl]
  exact gcV_box (.bool _) hq

/-- What tells of rows whether they may be nothing. -/
def VoidAt (g : Gr) (H : Heap) (f : Value) : Prop := ∃ p m, f = .func (.func F_cycles_void_D1) #[] #[.pointer (some ⟨p, 0, none⟩)] ∧ getRow H p = some ([bools g.nullL], m)
theorem VoidAt.app {g : Gr} {H t : Heap} {f : Value} (a : VoidAt g H f) : VoidAt g (H ++ t) f := let ⟨p, m, e, h⟩ := a; ⟨p, m, e, getRow_app h⟩
theorem VoidAt.fn {g : Gr} {H : Heap} {f : Value} (a : VoidAt g H f) : okVal f = true ∧ cellsOf f = [f] ∧ okCell f = true := by
  obtain ⟨p, m, rfl, _⟩ := a; exact ⟨rfl, rfl, rfl⟩
theorem void_spec {g : Gr} (ok : g.ok) {h : Heap} {Q : Value → Heap → Prop} (hq : ∀ f, VoidAt g (h ++ [grow g, .row [bools g.nullL] .exact]) f → Q f (h ++ [grow g, .row [bools g.nullL] .exact])) : acall Try.prog F_cycles_void [g.enc] h Q := by
  apply W_cycles_void_ok
  unfold W_cycles_void
  rw [box_gr, hW_some, GAt.ld .box, oW_some]
  refine callW_plain.2 (nullable_spec ok.fin ?_)
  rw [resOk ok, letH_eq]
  rw [st_new rfl rfl rfl, sW_some, List.append_assoc]
  refine gcV_same (hq _ ⟨(h ++ [grow g]).length, .exact, rfl, ?_⟩)
  show getRow (h ++ ([grow g] ++ [AObj.row [bools g.nullL] .exact])) _ = _
  rw [← List.append_assoc, row_app0]; rfl
open Classical in
theorem VoidAt.call {g : Gr} {H : Heap} {f : Value} (a : VoidAt g H f) {l : List Int} (hl : ∀ x ∈ l, inR g.n x) (hn : l.length ≤ 1000000000) {K : Value → Heap → Prop} (k : K (.bool (decide (emptyR g l))) H) : callW Try.prog f [ints l] H K := by
  obtain ⟨p, m, rfl, hp⟩ := a
  rw [callW_known]
  apply W_cycles_void_D1_ok
  unfold W_cycles_void_D1
  refine callW_plain.2 (containsFuncL_spec (p := fun x => !decide (onL g.nullL x.toNat)) (by omega) (fun x hx K hK => ?_) ?_)
  · rw [callW_known]
    apply W_cycles_void_D1_D1_ok
    unfold W_cycles_void_D1_D1
    rw [ldW_one, hp]
    show oW (some (bools g.nullL)) _
    rw [oW_some]
    refine ix_bool (n := g.n) (by unfold Gr.nullL; simp) (hl x hx) ?_
    rw [u_not, oW_some]
    exact gcV_same hK
  · rw [u_not, oW_some]
    have : (!(l.any fun x => !decide (onL g.nullL x.toNat))) = decide (emptyR g l) := by
      rw [Bool.eq_iff_iff, decide_eq_true_eq, Bool.not_eq_true', List.any_eq_false]
      unfold emptyR
      exact ⟨fun q x hx => by have := q x hx; simpa using this, fun q x hx => by have := q x hx; simpa using this⟩
    rw [this]
    exact gcV_same k
theorem rule_sides {g : Gr} (ok : g.ok) {r : List Int} (hr : r ∈ g.rules) {a b : List Int} {x : Int} (e : r.drop 1 = a ++ x :: b) : (∀ y ∈ a, inR g.n y) ∧ (∀ y ∈ b, inR g.n y) ∧ a.length ≤ 9 ∧ b.length ≤ 9 := by
  have hf := ok.fit r hr
  have hl := congrArg List.length e
  simp at hl
  have := hf.2.1
  exact ⟨fun y hy => hf.2.2.2 y (by rw [e]; simp [hy]), fun y hy => hf.2.2.2 y (by rw [e]; simp [hy]), by omega, by omega⟩

open Classical in
theorem alone_spec {g : Gr} (ok : g.ok) {h : Heap} {Q : Value → Heap → Prop} (hq : ∀ n0 U v ms T, h.length ≤ n0 → TabAt g.n n0 (h ++ U) v ms T → T.length = g.n → (∀ i j, onT T i j ↔ g.alone i j) → Q v (h ++ U)) : acall Try.prog F_cycles_alone [g.enc] h Q := by
  apply W_cycles_alone_ok
  unfold W_cycles_alone
  rw [box_gr, hW_some, GAt.ld .box, oW_some]
  refine callW_plain.2 (void_spec ok fun f va => ?_)
  have ga : GAt (h ++ [grow g] ++ [grow g, .row [bools g.nullL] .exact]) h.length g := GAt.box.app
  have e0 : ∃ X, h ++ [grow g] ++ [grow g, .row [bools g.nullL] .exact] = h ++ X := ⟨_, List.append_assoc ..⟩
  generalize h ++ [grow g] ++ [grow g, .row [bools g.nullL] .exact] = H at *
  obtain ⟨f1, f2, f3⟩ := va.fn
  rw [letH_eq, st_new f1 f2 f3, sW_some, ga.app.ld, oW_some]
  have rH : getRow (H ++ [.row [f] .exact]) H.length = some ([f], .exact) := by rw [row_app0]; rfl
  have vH : VoidAt g (H ++ [.row [f] .exact]) f := va.app
  refine callW_plain.2 (steps_spec ok (p := fun a b => emptyR g a ∧ emptyR g b) (fun U r hr a x b e K hK => ?_) fun U v ms T ta sq hT => ?_)
  · obtain ⟨s1, s2, s3, s4⟩ := rule_sides ok hr e
    rw [callW_known]
    apply W_cycles_alone_D1_ok
    unfold W_cycles_alone_D1
    have ld : ldW false 1 (H ++ [.row [f] .exact] ++ U) (.pointer (some ⟨H.length, 0, none⟩)) = some f := by rw [ldW_one, getRow_app rH]; rfl
    rw [ld, oW_some]
    refine vH.app.call s1 (by omega) ?_
    rw [bW_dec]
    constructor
    · intro h1
      rw [ld, oW_some]
      refine vH.app.call s2 (by omega) (gcV_same ?_)
      have : decide (emptyR g b) = decide (emptyR g a ∧ emptyR g b) := by rw [decide_eq_decide]; exact ⟨fun q => ⟨h1, q⟩, fun q => q.2⟩
      rw [this]; exact hK
    · intro h1
      rw [decide_eq_false (fun q => h1 q.1)] at hK
      exact gcV_same hK
  · obtain ⟨X, rfl⟩ := e0
    have e : h ++ X ++ [AObj.row [f] .exact] ++ U = h ++ (X ++ ([AObj.row [f] .exact] ++ U)) := by simp
    generalize hn0 : (h ++ X ++ [AObj.row [f] .exact]).length + 1 = n0 at ta
    have hge : h.length ≤ n0 := by rw [← hn0]; simp; omega
    rw [e] at ta ⊢
    exact gcV_same (hq n0 _ v ms T hge ta sq hT)
open Classical in
theorem firstS_spec {g : Gr} (ok : g.ok) {m : Nat} (hm : m ≤ 1000) {h : Heap} {Q : Value → Heap → Prop} (hq : ∀ n0 U v ms T, h.length ≤ n0 → TabAt g.n n0 (h ++ U) v ms T → T.length = g.n → (∀ i j, onT T i j ↔ g.ahead m i j) → Q v (h ++ U)) : acall Try.prog F_cycles_first [g.enc, .int .i64 (m : Int)] h Q := by
  apply W_cycles_first_ok
  unfold W_cycles_first
  rw [box_gr, hW_some, box_int, hW_some]
  have ga0 : GAt (h ++ [grow g] ++ [.row [.int .i64 (m : Int)] .exact]) h.length g := GAt.box.app
  have rm0 : getRow (h ++ [grow g] ++ [.row [.int .i64 (m : Int)] .exact]) (h ++ [grow g]).length = some ([.int .i64 (m : Int)], .exact) := by rw [row_app0]; rfl
  have e0 : ∃ X, h ++ [grow g] ++ [.row [.int .i64 (m : Int)] .exact] = h ++ X := ⟨_, List.append_assoc ..⟩
  generalize (h ++ [grow g]).length = pm at *
  generalize h ++ [grow g] ++ [.row [.int .i64 (m : Int)] .exact] = H0 at *
  rw [ga0.ld, oW_some]
  refine callW_plain.2 (void_spec ok fun f va => ?_)
  have ga : GAt (H0 ++ [grow g, .row [bools g.nullL] .exact]) h.length g := ga0.app
  have rm := getRow_app (t := [grow g, .row [bools g.nullL] .exact]) rm0
  have e1 : ∃ X, H0 ++ [grow g, .row [bools g.nullL] .exact] = h ++ X := by obtain ⟨X, rfl⟩ := e0; exact ⟨_, List.append_assoc ..⟩
  generalize H0 ++ [grow g, .row [bools g.nullL] .exact] = H at *
  obtain ⟨f1, f2, f3⟩ := va.fn
  rw [letH_eq, st_new f1 f2 f3, sW_some, ga.app.ld, oW_some]
  have rH : getRow (H ++ [.row [f] .exact]) H.length = some ([f], .exact) := by rw [row_app0]; rfl
  have vH : VoidAt g (H ++ [.row [f] .exact]) f := va.app
  refine callW_plain.2 (steps_spec ok (p := fun a _ => m ≤ a.length ∧ emptyR g a) (fun U r hr a x b e K hK => ?_) fun U v ms T ta sq hT => ?_)
  · obtain ⟨s1, s2, s3, s4⟩ := rule_sides ok hr e
    rw [callW_known]
    apply W_cycles_first_D1_ok
    unfold W_cycles_first_D1
    have ld : ldW false 1 (H ++ [.row [f] .exact] ++ U) (.pointer (some ⟨H.length, 0, none⟩)) = some f := by rw [ldW_one, getRow_app rH]; rfl
    have ldm : ldW false 1 (H ++ [.row [f] .exact] ++ U) (.pointer (some ⟨pm, 0, none⟩)) = some (.int .i64 (m : Int)) := by rw [ldW_one, getRow_app (getRow_app rm)]; rfl
    rw [lenI, oW_some, ldm, oW_some, n_geq, oW_some, bW_dec]
    constructor
    · intro h1
      rw [ld, oW_some]
      refine vH.app.call s1 (by omega) (gcV_same ?_)
      have : decide (emptyR g a) = decide (m ≤ a.length ∧ emptyR g a) := by rw [decide_eq_decide]; exact ⟨fun q => ⟨by omega, q⟩, fun q => q.2⟩
      rw [this]; exact hK
    · intro h1
      rw [decide_eq_false (fun q => h1 (by have := q.1; omega))] at hK
      exact gcV_same hK
  · obtain ⟨X, rfl⟩ := e1
    have e : h ++ X ++ [AObj.row [f] .exact] ++ U = h ++ (X ++ ([AObj.row [f] .exact] ++ U)) := by simp
    generalize hn0 : (h ++ X ++ [AObj.row [f] .exact]).length + 1 = n0 at ta
    have hge : h.length ≤ n0 := by rw [← hn0]; simp; omega
    rw [e] at ta ⊢
    exact gcV_same (hq n0 _ v ms T hge ta sq hT)

open Classical in
theorem setL_take {n : Nat} {S : Nat → Prop} {i : Nat} (h : i < n) : (setL n S).take (i + 1) = (setL n S).take i ++ [decide (S i)] := by
  rw [List.take_add_one, List.getElem?_eq_getElem (by simpa using h)]
  simp [setL]
theorem bool_len1 {l : List Bool} : ∀ x ∈ l.map Value.bool, (cellsOf x).length = 1 := fun x hx => by
  obtain ⟨b, _, rfl⟩ := List.mem_map.1 hx; rfl
theorem bool_cl1 {l : List Bool} : ∀ e ∈ l.map Value.bool, ∀ x ∈ cellsOf e, Cl x := fun e he x hx => by
  obtain ⟨b, _, rfl⟩ := List.mem_map.1 he
  simp at hx; subst hx; exact .bool _
def OwI (v : Value) (n : Nat) (S : Nat → Prop) (h : Heap) (m : Nat) (vs : List Value) (H : Heap) : Prop :=
  ∃ (i : Nat) (x : Value) (g : Heap), vs = [v, x, .int .i64 (n : Int), .int .i64 (i : Int)] ∧ H = h ++ g ∧ Acc 1 h.length H x (((setL n S).take i).map .bool) ∧ m = n - i ∧ i ≤ n
open Classical in
/-- Which are tied to themselves. -/
theorem own_spec {v : Value} {n : Nat} {S : Nat → Prop} {h : Heap} (hn : n ≤ 1000000) (hlen : lenS v = some (.int .i64 (n : Int)))
    (hget : ∀ U (i : Nat) (K : Value → Prop), i < n → K (.bool (decide (S i))) → oW (iaS 1 v (.int .i64 (i : Int))) fun p => oW (ldW false 1 (h ++ U) p) fun w => oW (iaS 1 w (.int .i64 (i : Int))) fun q => oW (ldW false 1 (h ++ U) q) K)
    {Q : Value → Heap → Prop} (hq : Q (bools (setL n S)) h) : acall Try.prog F_cycles_table_bool_own [v] h Q := by
  apply W_cycles_table_bool_own_ok
  unfold W_cycles_table_bool_own
  rw [hlen, oW_some]
  refine ⟨OwI v n S h, n, gcL_same ⟨0, .slice none 0 0, [], rfl, by simp, by simpa using Acc.nil, rfl, by omega⟩, ?_⟩
  rintro k5 x6 x7 x8 x9 h10 ⟨i, x, g, hv, rfl, acc, hk, hi⟩
  simp only [List.cons.injEq, and_true] at hv
  obtain ⟨rfl, rfl, rfl, rfl⟩ := hv
  rw [n_lss, oW_some, bW_dec]
  constructor
  · intro hlt
    have hi' : i < n := by omega
    refine hget g i _ hi' ?_
    have hl : (((setL n S).take i).map Value.bool).length ≤ n := by simp; omega
    refine Acc.push rfl acc (by omega) bool_len1 (e := .bool (decide (S i))) rfl rfl rfl rfl (by omega) (by omega) fun v' g' a2 _ _ _ => ?_
    rw [n_add (by omega), oW_some]
    refine ⟨n - (i + 1), by omega, gcL_same ⟨i + 1, v', g', rfl, rfl, ?_, rfl, by omega⟩⟩
    rw [setL_take hi', List.map_append]; exact a2
  · intro hge
    rw [List.take_of_length_le (by simp; omega)] at acc
    exact Acc.done rfl ⟨[], by simp⟩ acc (by omega) bool_len1 bool_cl1 hq
/-- .. of a table in memory. -/
theorem own_tab {n n0 : Nat} {h : Heap} {v : Value} {ms : List Nat} {T : List (List Bool)} (ta : TabAt n n0 h v ms T) (sq : T.length = n) (hn : n ≤ 1000000) {Q : Value → Heap → Prop} (hq : Q (bools (setL n fun i => onT T i i)) h) : acall Try.prog F_cycles_table_bool_own [v] h Q := by
  classical
  refine own_spec (S := fun i => onT T i i) hn (by rw [ta.lenS, sq]) (fun U i K hi k => ?_) hq
  have hml := ta.len
  refine ta.app.get (x := (i : Int)) (by unfold inR; omega) fun p => ?_
  simp only [Int.toNat_natCast]
  refine ta.app.cell (by omega) (t := (i : Int)) (by unfold inR; omega) ?_
  simp only [Int.toNat_natCast]
  exact (congrArg K (congrArg Value.bool (decide_eq_decide.2 Iff.rfl))).mpr k
/-- .. of a frozen one. -/
theorem ix_rowsB {T : List (List Bool)} {i : Nat} (hi : i < T.length) {h : Heap} {K : Value → Prop} (k : K (bools T[i])) : oW (iaS 1 (lit (T.map bools)) (.int .i64 (i : Int))) fun v => oW (ldW false 1 h v) K :=
  ix_lit hi rfl (by rw [cellsOf_func, ld_plit1, oW_some]; exact k)
theorem own_lit {n : Nat} {R : Nat → Nat → Prop} {h : Heap} (hn : n ≤ 1000000) {Q : Value → Heap → Prop} (hq : Q (bools (setL n fun i => R i i)) h) : acall Try.prog F_cycles_table_bool_own [lit ((tabS n R).map bools)] h Q := by
  classical
  refine own_spec (S := fun i => R i i) hn (by rw [lenS_lit, List.length_map, tabS_len]) (fun U i K hi k => ?_) hq
  refine ix_rowsB (by rw [tabS_len]; exact hi) ?_
  rw [tabS_row]
  refine ix_bool (n := n) (by simp) (by unfold inR; omega) ?_
  rw [Int.toNat_natCast]
  have : decide (onL (setL n (R i)) i) = decide (R i i) := by rw [decide_eq_decide, setL_on]; exact ⟨fun q => q.2, fun q => ⟨hi, q⟩⟩
  rw [this]; exact k

theorem calone_spec {g : Gr} (ok : g.ok) {h : Heap} {Q : Value → Heap → Prop} (hq : Q (lit (g.aloneT.map bools)) h) : acall Try.prog F_cycles_Alone [g.enc] h Q := by
  have hnn := ok.nn
  apply W_cycles_Alone_ok
  unfold W_cycles_Alone
  rw [box_gr, hW_some, GAt.ld .box, oW_some]
  refine callW_plain.2 (cright_spec ok ?_)
  rw [u_not, oW_some, bW_bool]
  refine ⟨(fun q => by cases q), fun _ => ?_⟩
  rw [GAt.ld .box, oW_some]
  refine callW_plain.2 (alone_spec ok fun n0 U v ms T hn0 ta sq hT => callW_plain.2 (closeT_spec ta sq (by omega) fun H' T' ta' sq' hT' low len => ?_))
  obtain ⟨X, rfl⟩ := ext_low (B := h ++ [grow g]) ⟨U, rfl⟩ low hn0 len
  have e : T' = g.aloneT := eq_tabS sq' ta'.wid fun i j _ _ => by
    rw [hT']
    exact ⟨Plus.mono fun a b q => (hT a b).1 q, Plus.mono fun a b q => (hT a b).2 q⟩
  subst e
  rw [List.append_assoc] at ta' ⊢
  refine gcV_end (v2 := lit (g.aloneT.map bools)) (ta'.gv (h0 := h) ?_) hq
  simp at hn0; omega
theorem cyclic_spec {g : Gr} (ok : g.ok) {h : Heap} {Q : Value → Heap → Prop} (hq : Q (bools g.cycL) h) : acall Try.prog F_cycles_Cyclic [g.enc] h Q := by
  have hnn := ok.nn
  apply W_cycles_Cyclic_ok
  unfold W_cycles_Cyclic
  rw [box_gr, hW_some, GAt.ld .box, oW_some]
  refine callW_plain.2 (calone_spec ok (callW_plain.2 (own_lit (by omega) ?_)))
  exact gcV_box cl_bl hq
theorem left_spec {g : Gr} (ok : g.ok) {h : Heap} {Q : Value → Heap → Prop} (hq : Q (bools g.leftL) h) : acall Try.prog F_cycles_Left [g.enc] h Q := by
  have hnn := ok.nn
  apply W_cycles_Left_ok
  unfold W_cycles_Left
  rw [box_gr, hW_some, GAt.ld .box, oW_some]
  refine callW_plain.2 (cright_spec ok ?_)
  rw [u_not, oW_some, bW_bool]
  refine ⟨(fun q => by cases q), fun _ => ?_⟩
  rw [GAt.ld .box, oW_some]
  refine callW_plain.2 (firstS_spec (m := 0) ok (by omega) fun n0 U v ms T hn0 ta sq hT => callW_plain.2 (closeT_spec ta sq (by omega) fun H' T' ta' sq' hT' low len => callW_plain.2 (own_tab ta' sq' (by omega) ?_)))
  obtain ⟨X, rfl⟩ := ext_low (B := h ++ [grow g]) ⟨U, rfl⟩ low hn0 len
  have e : setL g.n (fun i => onT T' i i) = g.leftL := by
    unfold Gr.leftL
    congr 1
    funext i
    rw [hT']
    exact propext ⟨Plus.mono fun a b q => (hT a b).1 q, Plus.mono fun a b q => (hT a b).2 q⟩
  rw [e, List.append_assoc]
  exact gcV_box cl_bl hq

end Go.Ax

namespace Go.Ax
open Go Go.Proofs Go.RowKit

/-- Two tables as one: with a step of the second one over. -/
def hidE (n : Nat) (F D : Nat → Nat → Prop) (a b : Nat) : Prop := ∃ i j, i < n ∧ j < n ∧ ((a = i ∧ b = j ∧ F i j) ∨ (a = n + i ∧ b = n + j ∧ F i j) ∨ (a = i ∧ b = n + j ∧ D i j))
def hidS (F D : Nat → Nat → Prop) (a b : Nat) : Prop := ∃ i j, D i j ∧ (i = a ∨ Plus F a i) ∧ (j = b ∨ Plus F j b)
theorem hidE_plus {n : Nat} {F D : Nat → Nat → Prop} {a b : Nat} (h : Plus (hidE n F D) a b) :
    (a < n ∧ b < n ∧ Plus F a b) ∨ (n ≤ a ∧ n ≤ b ∧ Plus F (a - n) (b - n)) ∨ (a < n ∧ n ≤ b ∧ hidS F D a (b - n)) := by
  refine Plus.least (S := fun a b => (a < n ∧ b < n ∧ Plus F a b) ∨ (n ≤ a ∧ n ≤ b ∧ Plus F (a - n) (b - n)) ∨ (a < n ∧ n ≤ b ∧ hidS F D a (b - n))) ?_ ?_ h
  · rintro a b ⟨i, j, hi, hj, ⟨rfl, rfl, q⟩ | ⟨rfl, rfl, q⟩ | ⟨rfl, rfl, q⟩⟩
    · exact .inl ⟨hi, hj, .one q⟩
    · refine .inr (.inl ⟨by omega, by omega, ?_⟩)
      rw [Nat.add_sub_cancel_left, Nat.add_sub_cancel_left]; exact .one q
    · refine .inr (.inr ⟨hi, by omega, a, j, q, .inl rfl, .inl ?_⟩)
      omega
  · rintro a b c (⟨h1, h2, h3⟩ | ⟨h1, h2, h3⟩ | ⟨h1, h2, i, j, d, h4, h5⟩) (⟨k1, k2, k3⟩ | ⟨k1, k2, k3⟩ | ⟨k1, k2, i', j', d', k4, k5⟩)
    · exact .inl ⟨h1, k2, h3.trans k3⟩
    · omega
    · exact .inr (.inr ⟨h1, k2, i', j', d', .inr (k4.elim (fun e => by rw [e]; exact h3) fun q => h3.trans q), k5⟩)
    · omega
    · exact .inr (.inl ⟨h1, k2, h3.trans k3⟩)
    · omega
    · omega
    · exact .inr (.inr ⟨h1, k2, i, j, d, h4, .inr (h5.elim (fun e => by rw [e]; exact k3) fun q => q.trans k3)⟩)
    · omega
theorem hidE_of {n : Nat} {F D : Nat → Nat → Prop} (hF : ∀ a b, F a b → a < n ∧ b < n) (hD : ∀ a b, D a b → a < n ∧ b < n) {a b : Nat} (h : hidS F D a b) : Plus (hidE n F D) a (n + b) := by
  obtain ⟨i, j, d, h1, h2⟩ := h
  have low : ∀ {x y : Nat}, Plus F x y → Plus (hidE n F D) x y := fun q => Plus.mono (fun x y z => ⟨x, y, (hF _ _ z).1, (hF _ _ z).2, .inl ⟨rfl, rfl, z⟩⟩) q
  have high : ∀ {x y : Nat}, Plus F x y → Plus (hidE n F D) (n + x) (n + y) := fun {x y} q => by
    induction q with
    | one z => exact .one ⟨_, _, (hF _ _ z).1, (hF _ _ z).2, .inr (.inl ⟨rfl, rfl, z⟩)⟩
    | cons z _ ih => exact .cons ⟨_, _, (hF _ _ z).1, (hF _ _ z).2, .inr (.inl ⟨rfl, rfl, z⟩)⟩ ih
  have mid : Plus (hidE n F D) i (n + j) := .one ⟨i, j, (hD _ _ d).1, (hD _ _ d).2, .inr (.inr ⟨rfl, rfl, d⟩)⟩
  have m2 : Plus (hidE n F D) a (n + j) := h1.elim (fun e => by rw [← e]; exact mid) fun q => (low q).trans mid
  exact h2.elim (fun e => by rw [← e]; exact m2) fun q => m2.trans (high q)

/-- What is filled in, up to a place. -/
def hidP (n : Nat) (To Th : List (List Bool)) (i j : Nat) (a b : Nat) : Prop := ∃ i' j', j' < n ∧ (i' < i ∨ i' = i ∧ j' < j) ∧ ((a = i' ∧ b = j' ∧ onT To i' j') ∨ (a = n + i' ∧ b = n + j' ∧ onT To i' j') ∨ (a = i' ∧ b = n + j' ∧ onT Th i' j'))
theorem hidP_succ {n : Nat} {To Th : List (List Bool)} {i j a b : Nat} (hj : j < n) : hidP n To Th i (j + 1) a b ↔ hidP n To Th i j a b ∨ ((a = i ∧ b = j ∧ onT To i j) ∨ (a = n + i ∧ b = n + j ∧ onT To i j) ∨ (a = i ∧ b = n + j ∧ onT Th i j)) := by
  constructor
  · rintro ⟨i', j', h1, h2, h3⟩
    by_cases e : i' = i ∧ j' = j
    · obtain ⟨rfl, rfl⟩ := e; exact .inr h3
    · exact .inl ⟨i', j', h1, by omega, h3⟩
  · rintro (⟨i', j', h1, h2, h3⟩ | h3)
    · exact ⟨i', j', h1, by omega, h3⟩
    · exact ⟨i, j, hj, by omega, h3⟩
theorem hidP_step {n : Nat} {To Th : List (List Bool)} {i j a b : Nat} (hi : i < n) (hj : j < n) {P : Prop} (hP : P ↔ hidP n To Th i j a b) :
    (if a = i ∧ b = n + j then decide (onT Th i j) = true else if a = n + i ∧ b = n + j then decide (onT To i j) = true else if a = i ∧ b = j then decide (onT To i j) = true else P) ↔ hidP n To Th i (j + 1) a b := by
  rw [hidP_succ hj]
  have no : (a = i ∧ b = n + j) ∨ (a = n + i ∧ b = n + j) ∨ (a = i ∧ b = j) → ¬ hidP n To Th i j a b := by
    rintro h ⟨i', j', h1, h2, h3⟩
    rcases h3 with ⟨e1, e2, _⟩ | ⟨e1, e2, _⟩ | ⟨e1, e2, _⟩ <;> omega
  split
  · rename_i e
    have := no (.inl e)
    rw [decide_eq_true_eq]
    exact ⟨fun q => .inr (.inr (.inr ⟨e.1, e.2, q⟩)), fun q => (q.resolve_left this).elim (fun z => by omega) fun z => z.elim (fun z => by omega) fun z => z.2.2⟩
  · split
    · rename_i e
      have := no (.inr (.inl e))
      rw [decide_eq_true_eq]
      exact ⟨fun q => .inr (.inr (.inl ⟨e.1, e.2, q⟩)), fun q => (q.resolve_left this).elim (fun z => by omega) fun z => z.elim (fun z => z.2.2) fun z => by omega⟩
    · split
      · rename_i e
        have := no (.inr (.inr e))
        rw [decide_eq_true_eq]
        exact ⟨fun q => .inr (.inl ⟨e.1, e.2, q⟩), fun q => (q.resolve_left this).elim (fun z => z.2.2) fun z => z.elim (fun z => by omega) fun z => by omega⟩
      · rename_i e1 e2 e3
        rw [hP]
        exact ⟨.inl, fun q => q.elim id fun z => z.elim (fun z => absurd ⟨z.1, z.2.1⟩ e3) fun z => z.elim (fun z => absurd ⟨z.1, z.2.1⟩ e2) fun z => absurd ⟨z.1, z.2.1⟩ e1⟩
def HiI (n : Nat) (B : Heap) (vo vh vt : Value) (mt : List Nat) (To Th : List (List Bool)) (m : Nat) (vs : List Value) (H : Heap) : Prop :=
  ∃ (i : Nat) (T : List (List Bool)), vs = [.int .i64 (n : Int), vo, vh, vt, .int .i64 (n : Int), .int .i64 (i : Int)] ∧ (∃ U, H = B ++ U) ∧ TabAt (2 * n) B.length H vt mt T ∧ T.length = 2 * n ∧ (∀ a b, onT T a b ↔ hidP n To Th i 0 a b) ∧ m = n - i ∧ i ≤ n
def HiJ (n : Nat) (B : Heap) (vo vh vt : Value) (mt : List Nat) (To Th : List (List Bool)) (i : Nat) (m : Nat) (vs : List Value) (H : Heap) : Prop :=
  ∃ (j : Nat) (T : List (List Bool)), vs = [.int .i64 (n : Int), vo, vh, vt, .int .i64 (i : Int), .int .i64 (n : Int), .int .i64 (i : Int), .int .i64 (n : Int), .int .i64 (j : Int)] ∧ (∃ U, H = B ++ U) ∧ TabAt (2 * n) B.length H vt mt T ∧ T.length = 2 * n ∧ (∀ a b, onT T a b ↔ hidP n To Th i j a b) ∧ m = n - j ∧ j ≤ n
def HiO (n : Nat) (B : Heap) (vt : Value) (S : Nat → Prop) (m : Nat) (vs : List Value) (H : Heap) : Prop :=
  ∃ (i : Nat) (x : Value) (g : Heap), vs = [.int .i64 (n : Int), vt, x, .int .i64 (n : Int), .int .i64 (i : Int)] ∧ H = B ++ g ∧ Acc 1 B.length H x (((setL n S).take i ++ List.replicate (n - i) false).map .bool) ∧ m = n - i ∧ i ≤ n

theorem hidden_spec {g : Gr} (ok : g.ok) {h : Heap} {Q : Value → Heap → Prop} (hq : Q (bools g.hidL) h) : acall Try.prog F_cycles_Hidden [g.enc] h Q := by
  classical
  have hnn := ok.nn
  apply W_cycles_Hidden_ok
  unfold W_cycles_Hidden
  rw [box_gr, hW_some, GAt.ld .box, oW_some]
  refine callW_plain.2 (cright_spec ok ?_)
  rw [u_not, oW_some, bW_bool]
  refine ⟨(fun q => by cases q), fun _ => ?_⟩
  refine GAt.names .box ?_
  rw [lenN, oW_some, GAt.ld .box, oW_some, oW_some]
  have ga : GAt (h ++ [grow g]) h.length g := GAt.box
  refine callW_plain.2 (firstS_spec (m := 0) ok (by omega) fun no Uo vo mo To hno tao sqo hTo => ?_)
  refine ⟨fun w hw r e => ?_, ?_⟩
  · simp only [List.mem_cons, List.not_mem_nil, or_false] at hw
    rcases hw with rfl | rfl <;> simp [ptrId] at e <;> subst e <;> rw [List.getElem?_append_left (by simp)]
  refine callW_plain.2 (firstS_spec (m := 1) ok (by omega) fun nh Uh vh mh Th hnh tah sqh hTh => ?_)
  refine ⟨fun w hw r e => ?_, ?_⟩
  · simp only [List.mem_cons, List.not_mem_nil, or_false] at hw
    rcases hw with rfl | rfl <;> simp [ptrId] at e <;> subst e <;> rw [List.getElem?_append_left (by simp)]
  show oW (binN .mul (.int .i64 2) (.int .i64 (g.n : Int))) _
  have em : binN .mul (.int .i64 2) (.int .i64 (g.n : Int)) = some (.int .i64 ((2 * g.n : Nat) : Int)) := by
    rw [n_mul (by omega)]; congr 2
  rw [em, oW_some]
  refine callW_plain.2 (blank_spec (n := 2 * g.n) (by omega) fun Ut vt mt tat => ?_)
  have tao' : TabAt g.n no (h ++ [grow g] ++ Uo ++ Uh) vo mo To := tao.app
  have eB : ∃ X, h ++ [grow g] ++ Uo ++ Uh = h ++ X := ⟨[grow g] ++ (Uo ++ Uh), by simp⟩
  clear tao
  generalize h ++ [grow g] ++ Uo ++ Uh = B at *
  refine ⟨HiI g.n B vo vh vt mt To Th, g.n, gcL_same ⟨0, _, rfl, ⟨Ut, rfl⟩, tat, by simp, fun a b => ⟨fun q => absurd q not_blank, fun ⟨i', j', _, q, _⟩ => by omega⟩, by omega, by omega⟩, ?_⟩
  clear tat
  rintro k22 x23 x24 x25 x26 x27 x28 h29 ⟨i, T, hv, hU, ta, sq, hT, hk, hi⟩
  simp only [List.cons.injEq, and_true] at hv
  obtain ⟨rfl, rfl, rfl, rfl, rfl, rfl⟩ := hv
  rw [n_lss, oW_some, bW_dec]
  constructor
  · intro hlt
    have hi' : i < g.n := by omega
    refine ⟨HiJ g.n B x24 x25 x26 mt To Th i, g.n, gcL_same ⟨0, T, rfl, hU, ta, sq, hT, by omega, by omega⟩, ?_⟩
    clear ta sq hT hU
    rintro k34 x35 x36 x37 x38 x39 x40 x41 x42 x43 h44 ⟨j, T, hv, hU, ta, sq, hT, hk2, hj⟩
    simp only [List.cons.injEq, and_true] at hv
    obtain ⟨rfl, rfl, rfl, rfl, rfl, rfl, rfl, rfl, rfl⟩ := hv
    rw [n_lss, oW_some, bW_dec]
    constructor
    · intro hlt2
      have hj' : j < g.n := by omega
      obtain ⟨U, rfl⟩ := hU
      have mtl := ta.len
      have mol := tao'.len
      have mhl := tah.len
      refine ta.get (x := (i : Int)) (by unfold inR; omega) fun p => ?_
      simp only [Int.toNat_natCast]
      refine tao'.app.get (x := (i : Int)) (by unfold inR; omega) fun p => ?_
      simp only [Int.toNat_natCast]
      refine tao'.app.cell (by omega) (t := (j : Int)) (by unfold inR; omega) ?_
      simp only [Int.toNat_natCast]
      refine ta.put (by omega) (t := (j : Int)) (by unfold inR; omega) fun H1 T1 ta1 l1 on1 low1 len1 => ?_
      simp only [Int.toNat_natCast] at on1
      obtain ⟨U1, rfl⟩ := ext_low (B := B) ⟨U, rfl⟩ low1 (Nat.le_refl _) len1
      rw [n_add (by omega), oW_some, show (g.n : Int) + (i : Int) = ((g.n + i : Nat) : Int) by omega]
      refine ta1.get (x := ((g.n + i : Nat) : Int)) (by unfold inR; omega) fun p => ?_
      simp only [Int.toNat_natCast]
      rw [n_add (by omega), oW_some, show (g.n : Int) + (j : Int) = ((g.n + j : Nat) : Int) by omega]
      refine tao'.app.get (x := (i : Int)) (by unfold inR; omega) fun p => ?_
      simp only [Int.toNat_natCast]
      refine tao'.app.cell (by omega) (t := (j : Int)) (by unfold inR; omega) ?_
      simp only [Int.toNat_natCast]
      refine ta1.put (by omega) (t := ((g.n + j : Nat) : Int)) (by unfold inR; omega) fun H2 T2 ta2 l2 on2 low2 len2 => ?_
      simp only [Int.toNat_natCast] at on2
      obtain ⟨U2, rfl⟩ := ext_low (B := B) ⟨U1, rfl⟩ low2 (Nat.le_refl _) len2
      refine ta2.get (x := (i : Int)) (by unfold inR; omega) fun p => ?_
      simp only [Int.toNat_natCast]
      rw [oW_some]
      refine tah.app.get (x := (i : Int)) (by unfold inR; omega) fun p => ?_
      simp only [Int.toNat_natCast]
      refine tah.app.cell (by omega) (t := (j : Int)) (by unfold inR; omega) ?_
      simp only [Int.toNat_natCast]
      refine ta2.put (by omega) (t := ((g.n + j : Nat) : Int)) (by unfold inR; omega) fun H3 T3 ta3 l3 on3 low3 len3 => ?_
      simp only [Int.toNat_natCast] at on3
      rw [n_add (by omega), oW_some]
      refine ⟨g.n - (j + 1), by omega, gcL_same ⟨j + 1, T3, rfl, ext_low ⟨U2, rfl⟩ low3 (Nat.le_refl _) len3, ta3, by omega, fun a b => ?_, rfl, by omega⟩⟩
      rw [on3, on2, on1]
      exact hidP_step hi' hj' (hT a b)
    · intro hge
      rw [n_add (by omega), oW_some]
      refine ⟨g.n - (i + 1), by omega, gcL_same ⟨i + 1, T, rfl, hU, ta, sq, fun a b => ?_, rfl, by omega⟩⟩
      rw [hT]
      constructor
      · rintro ⟨i', j', h1, h2, h3⟩; exact ⟨i', j', h1, by omega, h3⟩
      · rintro ⟨i', j', h1, h2, h3⟩; exact ⟨i', j', h1, by omega, h3⟩
  intro hge
  have hie : i = g.n := by omega
  subst hie
  obtain ⟨U, rfl⟩ := hU
  refine callW_plain.2 (closeT_spec ta sq (by omega) fun H' T' ta' sq' hT' low len => ?_)
  obtain ⟨U', rfl⟩ := ext_low (B := B) ⟨U, rfl⟩ low (Nat.le_refl _) len
  refine ⟨_, _, by
    simp only [mksW]
    rw [if_pos (by omega)], ?_⟩
  simp only [Int.toNat_natCast]
  have hrel : ∀ a b, onT T a b ↔ hidE g.n (g.ahead 0) (g.ahead 1) a b := fun a b => by
    rw [hT]
    constructor
    · rintro ⟨i', j', h1, h2, h3⟩
      exact ⟨i', j', by omega, h1, by rwa [hTo, hTh] at h3⟩
    · rintro ⟨i', j', h1, h2, h3⟩
      exact ⟨i', j', h2, by omega, by rwa [hTo, hTh]⟩
  have hfin : ∀ i, i < g.n → (onT T' i (g.n + i) ↔ g.hid i) := fun i hi2 => by
    rw [hT', show Plus (onT T) i (g.n + i) ↔ Plus (hidE g.n (g.ahead 0) (g.ahead 1)) i (g.n + i) from ⟨Plus.mono fun a b q => (hrel a b).1 q, Plus.mono fun a b q => (hrel a b).2 q⟩]
    constructor
    · intro q
      rcases hidE_plus q with z | z | z
      · omega
      · omega
      · rw [Nat.add_sub_cancel_left] at z; exact z.2.2
    · exact fun q => hidE_of (fun a b => stepR_lt ok) (fun a b => stepR_lt ok) q
  clear hT hT' hrel
  have eB2 : ∃ X, B ++ U' = h ++ X := by obtain ⟨X, rfl⟩ := eB; exact ⟨_, List.append_assoc ..⟩
  generalize B ++ U' = B2 at *
  rw [repA_one, show lenS (.slice (some ⟨B2.length, 0, none⟩) g.n g.n) = some (.int .i64 (g.n : Int)) by simp, oW_some]
  refine ⟨HiO g.n B2 x26 g.hid, g.n, gcL_same ⟨0, _, [.row (List.replicate g.n (.bool false)) .exact], rfl, rfl, ?_, rfl, by omega⟩, ?_⟩
  · have := Acc.made (sz := 1) (n := B2.length) (H := B2) (l := (List.replicate g.n false).map Value.bool) bool_len1 (Nat.le_refl _)
    have fl : ((List.replicate g.n false).map Value.bool).flatMap cellsOf = (List.replicate g.n false).map Value.bool := flat_one fun e he => by
      obtain ⟨b, _, rfl⟩ := List.mem_map.1 he; rfl
    rw [fl] at this
    simpa using this
  rintro k83 x84 x85 x86 x87 x88 h89 ⟨i, x, gg, hv, rfl, acc, hk3, hi3⟩
  simp only [List.cons.injEq, and_true] at hv
  obtain ⟨rfl, rfl, rfl, rfl, rfl⟩ := hv
  rw [n_lss, oW_some, bW_dec]
  constructor
  · intro hlt
    have hi' : i < g.n := by omega
    have hml := ta'.len
    refine ta'.app.get (x := (i : Int)) (by unfold inR; omega) fun p => ?_
    simp only [Int.toNat_natCast]
    rw [n_add (by omega), oW_some, show (g.n : Int) + (i : Int) = ((g.n + i : Nat) : Int) by omega]
    refine ta'.app.cell (by omega) (t := ((g.n + i : Nat) : Int)) (by unfold inR; omega) ?_
    simp only [Int.toNat_natCast]
    have hle : ((setL g.n g.hid).take i).length = i := by simp; omega
    refine Acc.set rfl acc (by omega) bool_len1 (e := .bool (decide (onT T' i (g.n + i)))) rfl rfl rfl (by simp; omega) fun g' a2 _ => ?_
    rw [n_add (by omega), oW_some]
    refine ⟨g.n - (i + 1), by omega, gcL_same ⟨i + 1, x86, g', rfl, rfl, ?_, rfl, by omega⟩⟩
    have e : (((setL g.n g.hid).take i ++ List.replicate (g.n - i) false).map Value.bool).set i (.bool (decide (onT T' i (g.n + i)))) = ((setL g.n g.hid).take (i + 1) ++ List.replicate (g.n - (i + 1)) false).map .bool := by
      rw [← List.map_set, setL_take hi', List.set_append_right _ _ (by omega), hle, Nat.sub_self, show g.n - i = (g.n - (i + 1)) + 1 by omega, List.replicate_succ, List.set_cons_zero, List.append_assoc]
      have : decide (onT T' i (g.n + i)) = decide (g.hid i) := decide_eq_decide.2 (hfin i hi')
      rw [this]; rfl
    rw [e] at a2; exact a2
  · intro hge2
    have hie : i = g.n := by omega
    subst hie
    rw [Nat.sub_self, List.replicate_zero, List.append_nil, List.take_of_length_le (by simp)] at acc
    exact Acc.done rfl eB2 acc (by omega) bool_len1 bool_cl1 hq

end Go.Ax

