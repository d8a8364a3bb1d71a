/- CyclesTell: the example, the walk. -/
import Derived.Test.YthhknneomcleoaaY2
namespace Go.Ax
open Go Go.Proofs Go.RowKit

/-- Frozen, if it is a row. -/
def roO : AObj → AObj
  | .row c _ => .row c .ro
  | o => o
def isRow (o : AObj) : Prop := ∃ c m, o = .row c m
/-- All that is past some objects, rows all of it, is frozen. -/
theorem gh_roT {h t : Heap} (ht : ∀ o ∈ t, isRow o) : Gh (h ++ t) (fun i => h.length ≤ i) (idR (h ++ t)) (h ++ t) (h ++ t.map roO) := by
  have hl : (h ++ t.map roO).length = (h ++ t).length := by simp
  have low : ∀ j, j < h.length → (h ++ t.map roO)[j]? = (h ++ t)[j]? := fun j hj => by rw [List.getElem?_append_left hj, List.getElem?_append_left hj]
  have high : ∀ j o2, h.length ≤ j → (h ++ t.map roO)[j]? = some o2 → ∃ c m, (h ++ t)[j]? = some (.row c m) ∧ o2 = .row c .ro := fun j o2 hj he => by
    rw [List.getElem?_append_right hj, List.getElem?_map] at he
    rw [List.getElem?_append_right hj]
    cases ho : t[j - h.length]? with
    | none => rw [ho] at he; cases he
    | some o =>
      rw [ho] at he
      obtain ⟨c, m, rfl⟩ := ht o (List.mem_of_getElem? ho)
      cases he
      exact ⟨c, m, rfl, rfl⟩
  refine ⟨fun j hj => idR_lt hj, by rw [hl]; exact Nat.le_refl _, fun j i e => by rw [hl]; exact (idR_of e).1, fun j c2 m2 hj => ?_, fun j es hj => ?_, fun j k i hj hk _ _ => by rw [← (idR_of hj).2, ← (idR_of hk).2]⟩
  · have hlt : j < (h ++ t).length := by rw [← hl]; exact (List.getElem?_eq_some_iff.1 hj).1
    by_cases q : j < h.length
    · rw [low j q] at hj
      exact ⟨j, c2, m2, idR_lt hlt, hj, rfl, .inr ⟨rfl, m2, hj⟩, .inl rfl, fun z => absurd z (by omega)⟩
    · obtain ⟨c, m, h1, h2⟩ := high j _ (by omega) hj
      cases h2
      exact ⟨j, c2, m, idR_lt hlt, h1, rfl, .inr ⟨rfl, m, h1⟩, .inr rfl, fun _ => by simp [onL]⟩
  · have hlt : j < (h ++ t).length := by rw [← hl]; exact (List.getElem?_eq_some_iff.1 hj).1
    by_cases q : j < h.length
    · rw [low j q] at hj
      exact ⟨j, es, idR_lt hlt, by omega, hj, rfl, .inr ⟨rfl, hj⟩⟩
    · obtain ⟨c, m, h1, h2⟩ := high j _ (by omega) hj
      cases h2

theorem gv_ints {H : Heap} {fr : Nat → Prop} {r : Nat → Option Nat} {i : Nat} {l : List Int} {m : Md} {n : Nat} (hf : fr i) (hi : H[i]? = some (.row (l.map fun n => .int .i64 n) m)) (hn : n = l.length) : Gv fr r H (ints l) (.slice (some ⟨i, 0, none⟩) n n) :=
  Gv.frz1 hf hi (by rw [hn]; simp) fun e he => by obtain ⟨b, _, rfl⟩ := List.mem_map.1 he; exact ⟨rfl, .int _ _⟩
theorem gv_bools {H : Heap} {fr : Nat → Prop} {r : Nat → Option Nat} {i : Nat} {l : List Bool} {m : Md} {n : Nat} (hf : fr i) (hi : H[i]? = some (.row (l.map .bool) m)) (hn : n = l.length) : Gv fr r H (bools l) (.slice (some ⟨i, 0, none⟩) n n) :=
  Gv.frz1 hf hi (by rw [hn]; simp) fun e he => by obtain ⟨b, _, rfl⟩ := List.mem_map.1 he; exact ⟨rfl, .bool _⟩

/-- The example's grammar. -/
def cyG : Gr := ⟨[⟨#[97]⟩, ⟨#[83]⟩, ⟨#[84]⟩], 1, [0], [[1, 1], [1, 2, 0], [2]], 1⟩
theorem cy_rule {r : List Int} (hr : r ∈ cyG.rules) : r = [1, 1] ∨ r = [1, 2, 0] ∨ r = [2] := by simpa [cyG] using hr
theorem cyG_ok : cyG.ok := by
  refine ⟨by decide, by decide, by decide, by decide, by decide, by decide, by decide, fun r hr => ?_, fun s h1 h2 => ?_⟩
  · rcases cy_rule hr with rfl | rfl | rfl <;> decide
  · have h1' : (1 : Int) ≤ s := h1
    have h2' : s < 3 := h2
    have : s = 1 ∨ s = 2 := by omega
    rcases this with rfl | rfl
    · exact ⟨[1, 1], by simp [cyG], rfl⟩
    · exact ⟨[2], by simp [cyG], rfl⟩
theorem cy_r0 : ([1, 1] : List Int) ∈ cyG.rules := by simp [cyG]
theorem cy_r1 : ([1, 2, 0] : List Int) ∈ cyG.rules := by simp [cyG]
theorem cy_r2 : ([2] : List Int) ∈ cyG.rules := by simp [cyG]
theorem cy_null2 : cyG.null 2 := .mk (ps := []) ⟨[2], cy_r2, rfl⟩ (by simp)
theorem cy_null {i : Nat} (h : cyG.null i) : i = 2 := h.least (S := fun i => i = 2) fun x ps hc hp => by
  obtain ⟨r, hr, e⟩ := hc
  cases e
  rcases cy_rule hr with rfl | rfl | rfl
  · have := hp 1 (by simp [rhs]); omega
  · have := hp 0 (by simp [rhs]); omega
  · rfl
theorem cy_on {i : Nat} : onL cyG.nullL i ↔ i = 2 := by
  unfold Gr.nullL
  rw [setL_on]
  exact ⟨fun q => cy_null q.2, fun q => by subst q; exact ⟨by decide, cy_null2⟩⟩
theorem cy_split {r a b : List Int} {x : Int} (hr : r ∈ cyG.rules) (e : r.drop 1 = a ++ x :: b) : lhs r = 1 ∧ ((a = [] ∧ x = 1 ∧ b = []) ∨ (a = [] ∧ x = 2 ∧ b = [0]) ∨ (a = [2] ∧ x = 0 ∧ b = [])) := by
  rcases cy_rule hr with rfl | rfl | rfl
  · refine ⟨rfl, .inl ?_⟩
    match a, e with
    | [], e => cases e; exact ⟨rfl, rfl, rfl⟩
    | _ :: a, e => simp at e
  · refine ⟨rfl, .inr ?_⟩
    match a, e with
    | [], e => cases e; exact .inl ⟨rfl, rfl, rfl⟩
    | [_], e => cases e; exact .inr ⟨rfl, rfl, rfl⟩
    | _ :: _ :: a, e => simp at e
  · simp at e
theorem cy_empty0 : ¬ emptyR cyG [0] := fun h => by have := cy_on.1 (h 0 (by simp)); cases this
theorem cy_alone {i j : Nat} (h : cyG.alone i j) : i = 1 ∧ (j = 1 ∨ j = 0) := by
  obtain ⟨r, hr, a, x, b, e, ⟨h1, h2⟩, rfl, rfl⟩ := h
  obtain ⟨hl, ⟨rfl, rfl, rfl⟩ | ⟨rfl, rfl, rfl⟩ | ⟨rfl, rfl, rfl⟩⟩ := cy_split hr e
  · exact ⟨hl, .inl rfl⟩
  · exact absurd h2 cy_empty0
  · exact ⟨hl, .inr rfl⟩
theorem cy_alone11 : cyG.alone 1 1 := ⟨_, cy_r0, [], 1, [], rfl, ⟨by simp [emptyR], by simp [emptyR]⟩, rfl, rfl⟩
theorem cy_ahead {m i j : Nat} (h : cyG.ahead m i j) : i = 1 ∧ (1 ≤ m → j = 0) := by
  obtain ⟨r, hr, a, x, b, e, ⟨h1, h2⟩, rfl, rfl⟩ := h
  obtain ⟨hl, ⟨rfl, rfl, rfl⟩ | ⟨rfl, rfl, rfl⟩ | ⟨rfl, rfl, rfl⟩⟩ := cy_split hr e
  · exact ⟨hl, fun q => by simp at h1; omega⟩
  · exact ⟨hl, fun q => by simp at h1; omega⟩
  · exact ⟨hl, fun _ => rfl⟩
theorem cy_ahead11 : cyG.ahead 0 1 1 := ⟨_, cy_r0, [], 1, [], rfl, ⟨by simp, by simp [emptyR]⟩, rfl, rfl⟩
theorem plus_fst {R : Nat → Nat → Prop} {P : Nat → Prop} (h : ∀ a b, R a b → P a) {a b : Nat} (q : Plus R a b) : P a := by
  cases q with
  | one z => exact h _ _ z
  | cons z _ => exact h _ _ z
theorem plus_snd {R : Nat → Nat → Prop} {P : Nat → Prop} (h : ∀ a b, R a b → P b) {a b : Nat} (q : Plus R a b) : P b := by
  induction q with
  | one z => exact h _ _ z
  | cons _ _ ih => exact ih
theorem allThree {P : Nat → Prop} (h0 : P 0) (h1 : P 1) (h2 : P 2) : ∀ i, i < 3 → P i := fun i hi => by
  match i, hi with
  | 0, _ => exact h0
  | 1, _ => exact h1
  | 2, _ => exact h2
theorem cy_cycL : cyG.cycL = [false, true, false] := (eq_setL (n := 3) rfl (allThree ⟨fun q => by simp [onL] at q, fun q => by have := plus_fst (P := fun i => i = 1) (fun a b z => (cy_alone z).1) q; omega⟩ ⟨fun _ => .one cy_alone11, fun _ => by simp [onL]⟩ ⟨fun q => by simp [onL] at q, fun q => by have := plus_fst (P := fun i => i = 1) (fun a b z => (cy_alone z).1) q; omega⟩)).symm
theorem cy_leftL : cyG.leftL = [false, true, false] := (eq_setL (n := 3) rfl (allThree ⟨fun q => by simp [onL] at q, fun q => by have := plus_fst (P := fun i => i = 1) (fun a b z => (cy_ahead z).1) q; omega⟩ ⟨fun _ => .one cy_ahead11, fun _ => by simp [onL]⟩ ⟨fun q => by simp [onL] at q, fun q => by have := plus_fst (P := fun i => i = 1) (fun a b z => (cy_ahead z).1) q; omega⟩)).symm
theorem cy_hid {s : Nat} : ¬ cyG.hid s := by
  rintro ⟨i, j, hd, h1, h2⟩
  obtain ⟨rfl, hj⟩ := cy_ahead hd
  have hj0 := hj (Nat.le_refl _)
  subst hj0
  have hs : s = 1 := h1.elim (fun e => e.symm) fun q => plus_fst (P := fun i => i = 1) (fun a b z => (cy_ahead z).1) q
  rcases h2 with e | q
  · omega
  · have := plus_fst (P := fun i => i = 1) (fun a b z => (cy_ahead z).1) q; omega
theorem cy_hidL : cyG.hidL = [false, false, false] := (eq_setL (n := 3) rfl (allThree ⟨fun q => by simp [onL] at q, fun q => absurd q cy_hid⟩ ⟨fun q => by simp [onL] at q, fun q => absurd q cy_hid⟩ ⟨fun q => by simp [onL] at q, fun q => absurd q cy_hid⟩)).symm

abbrev cyT (h : Heap) (m : Md) : Heap := [.row [.string ⟨#[97]⟩, .string ⟨#[83]⟩, .string ⟨#[84]⟩] m, .row [.int .i64 0] m, .row [.int .i64 1, .int .i64 1] m, .row [.int .i64 1, .int .i64 2, .int .i64 0] m, .row [.int .i64 2] m, .row [.slice (some ⟨h.length + 2, 0, none⟩) 2 2, .slice (some ⟨h.length + 3, 0, none⟩) 3 3, .slice (some ⟨h.length + 4, 0, none⟩) 1 1] m,
  .row [.slice (some ⟨h.length, 0, none⟩) 3 3, .int .i64 1, .slice (some ⟨h.length + 1, 0, none⟩) 1 1, .slice (some ⟨h.length + 5, 0, none⟩) 3 3, .int .i64 1] m]
abbrev cyR (h : Heap) : Value := .agg #[.slice (some ⟨h.length, 0, none⟩) 3 3, .int .i64 1, .slice (some ⟨h.length + 1, 0, none⟩) 1 1, .slice (some ⟨h.length + 5, 0, none⟩) 3 3, .int .i64 1]
theorem cyT_row {h : Heap} {m : Md} : ∀ o ∈ cyT h m, isRow o := by
  intro o ho
  simp only [cyT, List.mem_cons, List.not_mem_nil, or_false] at ho
  rcases ho with rfl | rfl | rfl | rfl | rfl | rfl | rfl <;> exact ⟨_, _, rfl⟩
theorem cyR_gv {h X : Heap} {m : Md} : Gv (fun i => h.length ≤ i) (idR (h ++ (cyT h m ++ X))) (h ++ (cyT h m ++ X)) cyG.enc (cyR h) := by
  have at_ : ∀ k o, (cyT h m)[k]? = some o → (h ++ (cyT h m ++ X))[h.length + k]? = some o := fun k o he => by
    rw [List.getElem?_append_right (by omega), Nat.add_sub_cancel_left, List.getElem?_append_left (List.getElem?_eq_some_iff.1 he).1]; exact he
  refine .agg _ _ rfl fun i p q => ?_
  match i, p with
  | 0, _ =>
    refine Gv.frz1 (es := [.string ⟨#[97]⟩, .string ⟨#[83]⟩, .string ⟨#[84]⟩]) (by simp) (at_ 0 _ rfl) rfl fun e he => ?_
    simp at he
    rcases he with rfl | rfl | rfl <;> exact ⟨rfl, .str _⟩
  | 1, _ => exact .cl (.int _ _)
  | 2, _ => exact gv_ints (l := [0]) (by simp) (at_ 1 _ rfl) rfl
  | 3, _ =>
    have g0 : Gv (fun i => h.length ≤ i) (idR (h ++ (cyT h m ++ X))) (h ++ (cyT h m ++ X)) (ints [1, 1]) (.slice (some ⟨h.length + 2, 0, none⟩) 2 2) := gv_ints (by simp) (at_ 2 _ rfl) rfl
    have g1 : Gv (fun i => h.length ≤ i) (idR (h ++ (cyT h m ++ X))) (h ++ (cyT h m ++ X)) (ints [1, 2, 0]) (.slice (some ⟨h.length + 3, 0, none⟩) 3 3) := gv_ints (by simp) (at_ 3 _ rfl) rfl
    have g2 : Gv (fun i => h.length ≤ i) (idR (h ++ (cyT h m ++ X))) (h ++ (cyT h m ++ X)) (ints [2]) (.slice (some ⟨h.length + 4, 0, none⟩) 1 1) := gv_ints (by simp) (at_ 4 _ rfl) rfl
    refine .frzS #[ints [1, 1], ints [1, 2, 0], ints [2]] (h.length + 5) 0 1 3 _ m (by simp) (at_ 5 _ rfl) (by omega) (fun k p => ?_) (by simp) fun k j p p2 p3 => ?_
    · match k, p with
      | 0, _ => rfl
      | 1, _ => rfl
      | 2, _ => rfl
    · match k, j, p, p2 with
      | 0, 0, _, _ => exact g0
      | 1, 0, _, _ => exact g1
      | 2, 0, _, _ => exact g2
      | 0, _ + 1, _, p2 => simp at p2
      | 1, _ + 1, _, p2 => simp at p2
      | 2, _ + 1, _, p2 => simp at p2
  | 4, _ => exact .cl (.int _ _)

/-- What awake has made: the grammar's rows, and other rows. -/
def CyH (h H : Heap) : Prop := ∃ X m, H = h ++ (cyT h m ++ X) ∧ ∀ o ∈ X, isRow o
theorem CyH.call {h H : Heap} (a : CyH h H) {f : FuncId} {args args2 : List Value} {Q : Value → Heap → Prop} (gv : GvL (fun i => h.length ≤ i) (idR H) H args2 args) (k : ∀ H', CyH h H' → acall Try.prog f args2 H' Q) : callW Try.prog (fn f) args H Q := by
  obtain ⟨X, m, rfl, hX⟩ := a
  have ht : ∀ o ∈ cyT h m ++ X, isRow o := fun o ho => by
    rcases List.mem_append.1 ho with q | q
    · exact cyT_row o q
    · exact hX o q
  refine callW_plain.2 (acall_frz (gh_roT ht) gv ?_)
  rw [List.map_append]
  refine k _ ⟨X.map roO, .ro, rfl, fun o ho => ?_⟩
  obtain ⟨o', ho', rfl⟩ := List.mem_map.1 ho
  obtain ⟨c, m', rfl⟩ := hX o' ho'
  exact ⟨c, .ro, rfl⟩
theorem CyH.le {h H : Heap} (a : CyH h H) : h.length ≤ H.length := by
  obtain ⟨X, m, rfl, _⟩ := a; simp
theorem CyH.row {h H : Heap} (a : CyH h H) {c : List Value} {m : Md} : CyH h (H ++ [.row c m]) := by
  obtain ⟨X, m', rfl, hX⟩ := a
  refine ⟨X ++ [.row c m], m', by simp, fun o ho => ?_⟩
  rcases List.mem_append.1 ho with q | q
  · exact hX o q
  · simp at q; subst q; exact ⟨c, m, rfl⟩
theorem CyH.gv {h H : Heap} (a : CyH h H) : Gv (fun i => h.length ≤ i) (idR H) H cyG.enc (cyR h) := by
  obtain ⟨X, m, rfl, _⟩ := a; exact cyR_gv
theorem CyH.ld {h H : Heap} (a : CyH h H) : ldW true 5 H (.pointer (some ⟨h.length + 6, 0, none⟩)) = some (cyR h) := by
  obtain ⟨X, m, rfl, _⟩ := a
  rw [ldW_agg, row_app]; rfl
theorem CyH.end_ {h H : Heap} (a : CyH h H) {Q : Value → Heap → Prop} {b : Bool} (hq : Q (.bool b) h) : gcV h Q (.bool b) H := by
  obtain ⟨X, m, rfl, _⟩ := a
  exact gcV_box (.bool _) hq
theorem bs3c {H : Heap} {a b c : Bool} : bslW H 3 [(.bool false), (.bool false), (.bool false)] [(0, 1, (.bool a)), (1, 1, (.bool b)), (2, 1, (.bool c))] = some (.slice (some ⟨H.length, 0, none⟩) 3 3, H ++ [.row [.bool a, .bool b, .bool c] .exact]) := by
  simp [bslW, okVal, cellsOf]
theorem atLast {H : Heap} {o : AObj} : (H ++ [o])[H.length]? = some o := by simp
/-- Ask for a row of bools, and compare. -/
theorem cy_bools {h H : Heap} (a : CyH h H) {f : FuncId} {l : List Bool} {x y z : Bool} (hl : l = [x, y, z]) (spec : ∀ (H : Heap) (Q : Value → Heap → Prop), Q (bools l) H → acall Try.prog f [cyG.enc] H Q) {K : Value → Heap → Prop} (k : ∀ H', CyH h H' → K (.bool true) H') :
    oW (ldW true 5 H (.pointer (some ⟨h.length + 6, 0, none⟩))) fun v => callW Try.prog (fn f) [v] H fun w H1 => hW (bslW H1 3 [(.bool false), (.bool false), (.bool false)] [(0, 1, (.bool x)), (1, 1, (.bool y)), (2, 1, (.bool z))]) fun u H2 => callW Try.prog (fn F_homographref17_Bools) [w, u] H2 K := by
  rw [a.ld, oW_some]
  refine a.call (args2 := [cyG.enc]) ⟨a.gv, trivial⟩ fun H1 a1 => spec _ _ ?_
  rw [bs3c, hW_some]
  refine a1.row.call (args2 := [bools l, bools [x, y, z]]) ⟨.cl cl_bl, gv_bools a1.le atLast rfl, trivial⟩ fun H2 a2 => eqBools_spec (by rw [hl]; simp) ?_
  rw [decide_eq_true hl]
  exact k H2 a2
theorem cy_cell {H : Heap} {j : Nat} (hj : j < 3) {K : Value → Prop} (k : ∀ b, (b = true ↔ Plus cyG.alone 1 j) → K (.bool b)) : oW (iaS 1 (lit (cyG.aloneT.map bools)) (.int .i64 1)) fun v => oW (ldW false 1 H v) fun w => oW (iaS 1 w (.int .i64 (j : Int))) fun u => oW (ldW false 1 H u) K := by
  have hl : 1 < cyG.aloneT.length := by unfold Gr.aloneT; rw [tabS_len]; decide
  refine ix_rowsB (i := 1) hl ?_
  have e : cyG.aloneT[1] = setL 3 (Plus cyG.alone 1) := tabS_row hl
  rw [e]
  refine ix_bool (n := 3) (by simp) (by unfold inR; omega) (k _ ?_)
  rw [decide_eq_true_eq, Int.toNat_natCast, setL_on]
  exact ⟨fun q => q.2, fun q => ⟨hj, q⟩⟩

theorem awake18_spec {h : Heap} {Q : Value → Heap → Prop} (hq : Q (.bool true) h) : acall Try.prog F_homographlaw18_awake [] h Q := by
  apply W_homographlaw18_awake_ok
  unfold W_homographlaw18_awake
  have e1 : bslW h 3 [(.string ⟨#[]⟩), (.string ⟨#[]⟩), (.string ⟨#[]⟩)] [(0, 1, (.string ⟨#[97]⟩)), (1, 1, (.string ⟨#[83]⟩)), (2, 1, (.string ⟨#[84]⟩))] = some (.slice (some ⟨h.length, 0, none⟩) 3 3, h ++ [.row [.string ⟨#[97]⟩, .string ⟨#[83]⟩, .string ⟨#[84]⟩] .exact]) := by simp [bslW, okVal, cellsOf]
  rw [e1, hW_some, bs1n, hW_some]
  generalize hX2 : h ++ [AObj.row [.string ⟨#[97]⟩, .string ⟨#[83]⟩, .string ⟨#[84]⟩] .exact] = X2
  have l2 : X2.length = h.length + 1 := by rw [← hX2]; simp
  generalize hX4 : X2 ++ [AObj.row [.int .i64 0] .exact] = X4
  have l4 : X4.length = h.length + 2 := by rw [← hX4]; simp [l2]
  have e2 : bslW X4 2 [(.int .i64 0), (.int .i64 0)] [(0, 1, (.int .i64 1)), (1, 1, (.int .i64 1))] = some (.slice (some ⟨X4.length, 0, none⟩) 2 2, X4 ++ [.row [.int .i64 1, .int .i64 1] .exact]) := by simp [bslW, okVal, cellsOf]
  rw [e2, hW_some]
  generalize hX5 : X4 ++ [AObj.row [.int .i64 1, .int .i64 1] .exact] = X5
  have l5 : X5.length = h.length + 3 := by rw [← hX5]; simp [l4]
  have e3 : bslW X5 3 [(.int .i64 0), (.int .i64 0), (.int .i64 0)] [(0, 1, (.int .i64 1)), (1, 1, (.int .i64 2)), (2, 1, (.int .i64 0))] = some (.slice (some ⟨X5.length, 0, none⟩) 3 3, X5 ++ [.row [.int .i64 1, .int .i64 2, .int .i64 0] .exact]) := by simp [bslW, okVal, cellsOf]
  rw [e3, hW_some]
  generalize hX6 : X5 ++ [AObj.row [.int .i64 1, .int .i64 2, .int .i64 0] .exact] = X6
  have l6 : X6.length = h.length + 4 := by rw [← hX6]; simp [l5]
  rw [bs1n, hW_some]
  generalize hX8 : X6 ++ [AObj.row [.int .i64 2] .exact] = X8
  have l8 : X8.length = h.length + 5 := by rw [← hX8]; simp [l6]
  have e4 : bslW X8 3 [(.slice none 0 0), (.slice none 0 0), (.slice none 0 0)] [(0, 1, .slice (some ⟨X4.length, 0, none⟩) 2 2), (1, 1, .slice (some ⟨X5.length, 0, none⟩) 3 3), (2, 1, .slice (some ⟨X6.length, 0, none⟩) 1 1)] = some (.slice (some ⟨X8.length, 0, none⟩) 3 3, X8 ++ [.row [.slice (some ⟨X4.length, 0, none⟩) 2 2, .slice (some ⟨X5.length, 0, none⟩) 3 3, .slice (some ⟨X6.length, 0, none⟩) 1 1] .exact]) := by simp [bslW, okVal, cellsOf]
  rw [e4, hW_some]
  generalize hX10 : X8 ++ [AObj.row _ .exact] = X10
  have l10 : X10.length = h.length + 6 := by rw [← hX10]; simp [l8]
  rw [show bldW [(.slice none 0 0), (.int .i64 0), (.slice none 0 0), (.slice none 0 0), (.int .i64 0)] [(0, 1, (.slice (some ⟨h.length, 0, none⟩) 3 3)), (1, 1, (.int .i64 1)), (2, 1, (.slice (some ⟨X2.length, 0, none⟩) 1 1)), (3, 1, (.slice (some ⟨X8.length, 0, none⟩) 3 3)), (4, 1, (.int .i64 1))] =
    some (.agg #[.slice (some ⟨h.length, 0, none⟩) 3 3, .int .i64 1, .slice (some ⟨X2.length, 0, none⟩) 1 1, .slice (some ⟨X8.length, 0, none⟩) 3 3, .int .i64 1]) from rfl, oW_some, letH_eq]
  have st5 : stW 5 (X10 ++ [zg]) (.pointer (some ⟨X10.length, 0, none⟩)) (.agg #[.slice (some ⟨h.length, 0, none⟩) 3 3, .int .i64 1, .slice (some ⟨X2.length, 0, none⟩) 1 1, .slice (some ⟨X8.length, 0, none⟩) 3 3, .int .i64 1]) = some (h ++ (cyT h .exact ++ [])) := by
    rw [stW_agg, row_app0]
    show (some (_, Md.exact)).bind _ = _
    rw [Option.bind_some, if_pos (by simp [okCell]), set_app0, ← hX10, l4, l5, l6, ← hX8, ← hX6, ← hX5, ← hX4, ← hX2]
    simp
  rw [st5, sW_some, l10]
  have a0 : CyH h (h ++ (cyT h .exact ++ [])) := ⟨[], .exact, rfl, by simp⟩
  generalize h ++ (cyT h .exact ++ []) = H0 at a0
  refine cy_bools a0 cy_cycL (fun H Q q => cyclic_spec cyG_ok q) fun H1 a1 => ?_
  rw [bW_true]
  refine cy_bools a1 cy_leftL (fun H Q q => left_spec cyG_ok q) fun H2 a2 => ?_
  rw [bW_true]
  refine cy_bools a2 cy_hidL (fun H Q q => hidden_spec cyG_ok q) fun H3 a3 => ?_
  rw [bW_true, a3.ld, oW_some]
  refine a3.call (args2 := [cyG.enc, .int .i64 1]) ⟨a3.gv, .cl (.int _ _), trivial⟩ fun H4 a4 => chain_spec (s := 1) cyG_ok (by decide) (.inl cy_alone11) (fun k hk hl hh => ?_) (fun q => absurd cy_alone11 (q 1))
  have hk0 : k = 0 := by
    have hk3 : k < 3 := hk
    match k, hk3 with
    | 0, _ => rfl
    | 1, _ =>
      obtain ⟨a, b, e, _⟩ := hh
      have := cy_split cy_r1 e
      have e2 : ([2, 0] : List Int) = a ++ 1 :: b := e
      rcases this.2 with ⟨rfl, _, rfl⟩ | ⟨_, z, _⟩ | ⟨_, z, _⟩
      · simp at e2
      · cases z
      · cases z
    | 2, _ => cases hl
  subst hk0
  rw [bs1n, hW_some]
  refine a4.row.call (args2 := [ints [0], ints [0]]) ⟨.cl cl_il, gv_ints a4.le atLast rfl, trivial⟩ fun H5 a5 => same_spec (by simp) (by simp) ?_
  rw [decide_eq_true rfl, bW_true, a5.ld, oW_some]
  have no2 : ∀ j, ¬ cyG.alone 2 j := fun j q => by have := (cy_alone q).1; omega
  refine a5.call (args2 := [cyG.enc, .int .i64 2]) ⟨a5.gv, .cl (.int _ _), trivial⟩ fun H6 a6 => chain_spec (s := 2) cyG_ok (by decide) (.inr no2) (fun k hk hl hh => ?_) (fun _ => ?_)
  · have e : cyG.rules.getD k [] = cyG.rules[k] := by rw [List.getD_eq_getElem?_getD, List.getElem?_eq_getElem hk]; rfl
    rw [e] at hl hh
    exact absurd (hit_alone ⟨_, List.getElem_mem hk, hl, hh⟩) (no2 _)
  rw [show lenS (.slice none 0 0) = some (.int .i64 (0 : Int)) from rfl, oW_some, n_eql, oW_some, decide_eq_true rfl, bW_true, a6.ld, oW_some]
  refine a6.call (args2 := [cyG.enc]) ⟨a6.gv, trivial⟩ fun H7 a7 => calone_spec cyG_ok ?_
  refine cy_cell (j := 1) (by omega) fun b hb => ?_
  have hb1 : b = true := hb.2 (.one cy_alone11)
  subst hb1
  rw [bW_true, a7.ld, oW_some]
  refine a7.call (args2 := [cyG.enc]) ⟨a7.gv, trivial⟩ fun H8 a8 => calone_spec cyG_ok ?_
  refine cy_cell (j := 2) (by omega) fun b hb => ?_
  have hb2 : b = false := by
    cases b with
    | false => rfl
    | true =>
      have := plus_snd (P := fun j => j = 1 ∨ j = 0) (fun a b z => (cy_alone z).2) (hb.1 rfl)
      omega
  subst hb2
  rw [u_not, oW_some]
  exact a8.end_ hq

end Go.Ax

namespace Go.Ax
open Go Go.Proofs Go.RowKit

theorem boxG {H : Heap} {g : Gr} {K : Heap → Prop} (k : K (H ++ [grow g])) : sW (stW 5 (H ++ [.row [(.slice none 0 0), (.int .i64 0), (.slice none 0 0), (.slice none 0 0), (.int .i64 0)] .exact]) (.pointer (some ⟨H.length, 0, none⟩)) g.enc) K := by
  rw [stW_agg, row_app0]
  refine ⟨H ++ [grow g], ?_, k⟩
  show (some (_, Md.exact)).bind _ = _
  rw [Option.bind_some, if_pos (by simp [okCell]), set_app0]; rfl
theorem made18_spec {s : ByteArray} (hs : s.size ≤ 1000) {h : Heap} {Q : Value → Heap → Prop} (hq : Q (mkG (bytesN s)).enc h) : acall Try.prog F_homographlaw18_made [.string s] h Q := by
  apply W_homographlaw18_made_ok
  unfold W_homographlaw18_made
  rw [letH_eq]
  refine callW_plain.2 (make16_spec hs ?_)
  generalize mkG (bytesN s) = g at *
  rw [letH_eq]
  refine boxG ?_
  have L1 : (h ++ [zg]).length = h.length + 1 := by simp
  have ga : GAt (h ++ [zg] ++ [grow g]) (h ++ [zg]).length g := GAt.box
  refine ga.names (ga.terms (ga.tokens (ga.rules (ga.start ?_))))
  rw [show bldW [(.slice none 0 0), (.int .i64 0), (.slice none 0 0), (.slice none 0 0), (.int .i64 0)] [(0, 1, lit (g.names.map .string)), (1, 1, .int .i64 g.terms), (2, 1, ints g.tokens), (3, 1, lit (g.rules.map ints)), (4, 1, .int .i64 g.start)] = some g.enc from rfl, oW_some]
  have e2 : stW 5 (h ++ [zg] ++ [grow g]) (.pointer (some ⟨h.length, 0, none⟩)) g.enc = some (h ++ [grow g, grow g]) := by
    rw [stW_agg, List.append_assoc, row_app0]
    show (some (_, Md.exact)).bind _ = _
    rw [Option.bind_some, if_pos (by simp [okCell]), set_app0]; rfl
  rw [e2, sW_some, ldP_agg, row_app0]
  show oW (some g.enc) _
  rw [oW_some]
  refine gcV_box ?_ hq
  refine .agg _ fun x hx => ?_
  simp at hx
  rcases hx with rfl | rfl | rfl | rfl | rfl
  · exact Cl.lit' fun e he x hx => by
      obtain ⟨b, _, rfl⟩ := List.mem_map.1 he
      simp at hx; subst hx; exact .str _
  · exact .int _ _
  · exact cl_il
  · exact cl_rows
  · exact .int _ _

theorem cyclesTell_walk {code : ByteArray} (hcs : code.size ≤ 1000000000000000) {h : Heap} :
    acall Try.prog F_homographlaw18_CyclesTell [.string code] h fun v _ => v = .bool true := by
  apply W_homographlaw18_CyclesTell_ok
  unfold W_homographlaw18_CyclesTell
  refine callW_plain.2 (awake18_spec ?_)
  rw [u_not, oW_some, bW_bool]
  refine ⟨(fun q => by cases q), fun _ => ?_⟩
  rw [lenStr_str, oW_some, n_gtr, oW_some, bW_dec]
  constructor
  · intro _
    exact gcV_same rfl
  intro hc
  refine callW_plain.2 (made18_spec (by omega) ?_)
  have ok := mkG_ok (bs := bytesN code)
  rw [letH_eq]
  refine boxG ?_
  refine callW_plain.2 (make16_spec (by omega) ?_)
  generalize mkG (bytesN code) = g at *
  rw [letH_eq]
  refine boxG ?_
  have hn := ok.nn
  have g1 : GAt (h ++ [grow g] ++ [grow g]) h.length g := GAt.box.app
  have g2 : GAt (h ++ [grow g] ++ [grow g]) (h ++ [grow g]).length g := GAt.box
  generalize h ++ [grow g] ++ [grow g] = H at *
  have cmp : ∀ {l : List Bool} {K : Value → Heap → Prop}, l.length = g.n → K (.bool true) H → callW Try.prog (fn F_homographref17_Bools) [bools l, bools l] H K := fun hl k => callW_plain.2 (eqBools_spec (by omega) (by rw [decide_eq_true rfl]; exact k))
  rw [g1.ld, oW_some, g2.ld, oW_some]
  refine callW_plain.2 (calone_spec ok ⟨kept_same, callW_plain.2 (refAlone_spec ok ⟨kept_same, callW_plain.2 (sameB_spec (by unfold Gr.aloneT; rw [tabS_len]; omega) (fun r hr => by have := tabS_wid r hr; omega) ⟨kept_same, ?_⟩)⟩)⟩)
  rw [bW_true, g1.ld, oW_some, g2.ld, oW_some]
  refine callW_plain.2 (cyclic_spec ok ⟨kept_same, callW_plain.2 (refCyclic_spec ok ⟨kept_same, cmp (by unfold Gr.cycL; simp) ⟨kept_same, ?_⟩⟩)⟩)
  rw [bW_true, g1.ld, oW_some, g2.ld, oW_some]
  refine callW_plain.2 (left_spec ok ⟨kept_same, callW_plain.2 (refLeft_spec ok ⟨kept_same, cmp (by unfold Gr.leftL; simp) ⟨kept_same, ?_⟩⟩)⟩)
  rw [bW_true, g1.ld, oW_some, g2.ld, oW_some]
  refine callW_plain.2 (hidden_spec ok ⟨kept_same, callW_plain.2 (refHidden_spec ok ⟨kept_same, cmp (by unfold Gr.hidL; simp) ⟨kept_same, ?_⟩⟩)⟩)
  exact gcV_same rfl

end Go.Ax

