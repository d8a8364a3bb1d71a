/- Cycles: the reference's answers; Chain. -/
import Derived.Test.YthhknneomcleoaaY1
namespace Go.Ax
open Go Go.Proofs Go.RowKit

/-- What stands ahead of a place of a rule, and behind. -/
def aheadP (g : Gr) (r : List Int) (at_ i : Nat) : Prop := ∀ k, 1 ≤ k → k < i → k < at_ → onL g.nullL (r.getD k 0).toNat
def behindP (g : Gr) (r : List Int) (at_ i : Nat) : Prop := ∀ k, 1 ≤ k → k < i → at_ < k → onL g.nullL (r.getD k 0).toNat
theorem aheadP_all {g : Gr} {r : List Int} {a b : List Int} {x : Int} (hr : 0 < r.length) (e : r.drop 1 = a ++ x :: b) : aheadP g r (a.length + 1) r.length ↔ emptyR g a := by
  have hk : ∀ k, 1 ≤ k → k < a.length + 1 → r.getD k 0 = a.getD (k - 1) 0 := fun k h1 h2 => by
    have : r.getD k 0 = (r.drop 1).getD (k - 1) 0 := by
      rw [List.getD_eq_getElem?_getD, List.getD_eq_getElem?_getD, List.getElem?_drop]; congr 2; omega
    rw [this, e, List.getD_eq_getElem?_getD, List.getElem?_append_left (by omega), ← List.getD_eq_getElem?_getD]
  have hl := congrArg List.length e
  simp at hl
  constructor
  · intro h y hy
    obtain ⟨i, hi, rfl⟩ := List.mem_iff_getElem.1 hy
    have := h (i + 1) (by omega) (by omega) (by omega)
    rw [hk _ (by omega) (by omega), Nat.add_sub_cancel, List.getD_eq_getElem?_getD, List.getElem?_eq_getElem hi] at this
    exact this
  · intro h k h1 h2 h3
    have h4 : k - 1 < a.length := by omega
    rw [hk k h1 h3, List.getD_eq_getElem?_getD, List.getElem?_eq_getElem h4]
    exact h _ (List.getElem_mem h4)
theorem behindP_all {g : Gr} {r : List Int} {a b : List Int} {x : Int} (hr : 0 < r.length) (e : r.drop 1 = a ++ x :: b) : behindP g r (a.length + 1) r.length ↔ emptyR g b := by
  have hk : ∀ k, a.length + 1 < k → r.getD k 0 = b.getD (k - a.length - 2) 0 := fun k h1 => by
    have : r.getD k 0 = (r.drop 1).getD (k - 1) 0 := by
      rw [List.getD_eq_getElem?_getD, List.getD_eq_getElem?_getD, List.getElem?_drop]; congr 2; omega
    rw [this, e, List.getD_eq_getElem?_getD, List.getElem?_append_right (by omega), show k - 1 - a.length = (k - a.length - 2) + 1 by omega, List.getElem?_cons_succ, ← List.getD_eq_getElem?_getD]
  have hl := congrArg List.length e
  simp at hl
  constructor
  · intro h y hy
    obtain ⟨i, hi, rfl⟩ := List.mem_iff_getElem.1 hy
    have := h (i + a.length + 2) (by omega) (by omega) (by omega)
    rw [hk _ (by omega), show i + a.length + 2 - a.length - 2 = i by omega, List.getD_eq_getElem?_getD, List.getElem?_eq_getElem hi] at this
    exact this
  · intro h k h1 h2 h3
    have h4 : k - a.length - 2 < b.length := by omega
    rw [hk k h3, List.getD_eq_getElem?_getD, List.getElem?_eq_getElem h4]
    exact h _ (List.getElem_mem h4)
open Classical in
noncomputable def LeI (g : Gr) (r : List Int) (at_ : Nat) (h : Heap) (m : Nat) (vs : List Value) (H : Heap) : Prop :=
  ∃ i : Nat, vs = [ints r, bools g.nullL, .int .i64 (at_ : Int), .bool (decide (aheadP g r at_ i)), .bool (decide (behindP g r at_ i)), .int .i64 (i : Int)] ∧ H = h ∧ m = r.length - i ∧ 1 ≤ i ∧ i ≤ r.length
open Classical in
theorem leads_spec {g : Gr} {r : List Int} (h0 : 0 < r.length) (h9 : r.length ≤ 9) (hin : ∀ x ∈ r.drop 1, inR g.n x) {at_ : Nat} {h : Heap} {Q : Value → Heap → Prop}
    (hq : Q (.tuple #[.bool (decide (behindP g r at_ r.length ∧ aheadP g r at_ r.length)), .bool (decide (aheadP g r at_ r.length)), .bool (decide (aheadP g r at_ r.length ∧ 1 < at_))]) h) : acall Try.prog F_homographref18_leads [ints r, bools g.nullL, .int .i64 (at_ : Int)] h Q := by
  apply W_homographref18_leads_ok
  unfold W_homographref18_leads
  refine ⟨LeI g r at_ h, r.length - 1, gcL_same ⟨1, ?_, rfl, rfl, by omega, by omega⟩, ?_⟩
  · rw [decide_eq_true (show aheadP g r at_ 1 from fun k _ _ _ => by omega), decide_eq_true (show behindP g r at_ 1 from fun k _ _ _ => by omega)]; rfl
  rintro k4 x5 x6 x7 x8 x9 x10 h11 ⟨i, hv, rfl, hk, h1, hi⟩
  simp only [List.cons.injEq, and_true] at hv
  obtain ⟨rfl, rfl, rfl, rfl, rfl, rfl⟩ := hv
  rw [lenI, oW_some, n_lss, oW_some, bW_dec]
  constructor
  · intro hlt
    have hi' : i < r.length := by omega
    have hx : inR g.n r[i] := hin _ (by
      rw [List.mem_iff_getElem]
      exact ⟨i - 1, by simp; omega, by rw [List.getElem_drop]; congr 1; omega⟩)
    have hgd : r.getD i 0 = r[i] := by rw [List.getD_eq_getElem?_getD, List.getElem?_eq_getElem hi']; rfl
    have nln : g.nullL.length = g.n := by unfold Gr.nullL; simp
    have next : ∀ (A B : Bool), A = decide (aheadP g r at_ (i + 1)) → B = decide (behindP g r at_ (i + 1)) → ∃ m3, m3 < k4 ∧ gcL h11 (LeI g r at_ h11 m3) [ints r, bools g.nullL, .int .i64 (at_ : Int), .bool A, .bool B, .int .i64 ((i : Int) + 1)] h11 := fun A B hA hB =>
      ⟨r.length - (i + 1), by omega, gcL_same ⟨i + 1, by rw [hA, hB]; rfl, rfl, rfl, by omega, by omega⟩⟩
    have asucc : aheadP g r at_ (i + 1) ↔ aheadP g r at_ i ∧ (i < at_ → onL g.nullL r[i].toNat) := by
      rw [← hgd]
      constructor
      · exact fun q => ⟨fun k a b c => q k a (by omega) c, fun z => q i h1 (by omega) z⟩
      · rintro ⟨q1, q2⟩ k a b c
        by_cases e : k = i
        · subst e; exact q2 c
        · exact q1 k a (by omega) c
    have bsucc : behindP g r at_ (i + 1) ↔ behindP g r at_ i ∧ (at_ < i → onL g.nullL r[i].toNat) := by
      rw [← hgd]
      constructor
      · exact fun q => ⟨fun k a b c => q k a (by omega) c, fun z => q i h1 (by omega) z⟩
      · rintro ⟨q1, q2⟩ k a b c
        by_cases e : k = i
        · subst e; exact q2 c
        · exact q1 k a (by omega) c
    rw [n_lss, oW_some, n_gtr, bW_dec]
    constructor
    · intro hlta
      have hB : behindP g r at_ i ↔ behindP g r at_ (i + 1) := by rw [bsucc]; exact ⟨fun q => ⟨q, fun z => by omega⟩, fun q => q.1⟩
      have hgf : decide ((at_ : Int) < (i : Int)) = false := decide_eq_false (by omega)
      rw [bW_dec]
      constructor
      · intro hA
        refine ix_ints hi' (ix_bool nln hx ?_)
        rw [oW_some, hgf, bW_false, n_add (by omega), oW_some]
        exact next _ _ (decide_eq_decide.2 (by rw [asucc]; exact ⟨fun q => ⟨hA, fun _ => q⟩, fun q => q.2 (by omega)⟩)) (decide_eq_decide.2 hB)
      · intro hA
        rw [oW_some, hgf, bW_false, n_add (by omega), oW_some]
        exact next _ _ (decide_eq_false (by rw [asucc]; exact fun q => hA q.1)).symm (decide_eq_decide.2 hB)
    · intro hnl
      have hA : aheadP g r at_ i ↔ aheadP g r at_ (i + 1) := by rw [asucc]; exact ⟨fun q => ⟨q, fun z => by omega⟩, fun q => q.1⟩
      rw [oW_some, bW_dec]
      constructor
      · intro hgt
        rw [bW_dec]
        constructor
        · intro hB
          refine ix_ints hi' (ix_bool nln hx ?_)
          rw [n_add (by omega), oW_some]
          exact next _ _ (decide_eq_decide.2 hA) (decide_eq_decide.2 (by rw [bsucc]; exact ⟨fun q => ⟨hB, fun _ => q⟩, fun q => q.2 (by omega)⟩))
        · intro hB
          rw [n_add (by omega), oW_some]
          exact next _ _ (decide_eq_decide.2 hA) (decide_eq_false (by rw [bsucc]; exact fun q => hB q.1)).symm
      · intro hng
        rw [n_add (by omega), oW_some]
        exact next _ _ (decide_eq_decide.2 hA) (decide_eq_decide.2 (by rw [bsucc]; exact ⟨fun q => ⟨q, fun z => by omega⟩, fun q => q.1⟩))
  · intro hge
    have hie : i = r.length := by omega
    subst hie
    rw [bW_dec]
    constructor
    · intro hA
      rw [bW_dec]
      refine ⟨fun _ => ?_, fun q => absurd hA q⟩
      rw [n_gtr, oW_some]
      have e1 : decide (behindP g r at_ r.length ∧ aheadP g r at_ r.length) = decide (behindP g r at_ r.length) := decide_eq_decide.2 ⟨fun q => q.1, fun q => ⟨q, hA⟩⟩
      have e2 : decide (aheadP g r at_ r.length ∧ 1 < at_) = decide ((1 : Int) < (at_ : Int)) := decide_eq_decide.2 ⟨fun q => by omega, fun q => ⟨hA, by omega⟩⟩
      rw [e1, e2] at hq
      exact gcV_same hq
    · intro hA
      rw [bW_dec]
      refine ⟨fun q => absurd q hA, fun _ => ?_⟩
      rw [decide_eq_false (fun q => hA q.2), decide_eq_false (fun q : aheadP g r at_ r.length ∧ 1 < at_ => hA q.1)] at hq
      exact gcV_same hq

end Go.Ax

namespace Go.Ax
open Go Go.Proofs Go.RowKit

/-- A step of a kind. -/
def kP (g : Gr) (kind : Int) (a b : List Int) : Prop := if kind = 0 then emptyR g b ∧ emptyR g a else if kind = 1 then emptyR g a else emptyR g a ∧ 1 < a.length + 1
def RtSet (I46 : Nat → List Value → Heap → Prop) (k49 : Nat) (x50 x51 x52 x53 x54 x55 x56 : Value) (h61 h : Heap) : Prop :=
  (oW (iaS 1 x55 (.int .i64 0)) fun v66 => (oW (ldW false 1 h61 v66) fun v67 => (oW (iaS 1 x53 v67) fun v68 => (oW (ldW false 1 h61 v68) fun v69 => (oW (iaS 1 x55 x56) fun v70 => (oW (ldW false 1 h61 v70) fun v71 => (oW (iaS 1 v69 v71) fun v72 =>
    (sW (stW 1 h61 v72 (.bool true)) fun h73 => (oW (binN .add x56 (.int .i64 1)) fun v74 => (∃ m48, m48 < k49 ∧ gcL h (I46 m48) [x50, x51, x52, x53, x54, x55, v74] h73))))))))))
def RtSkip (I46 : Nat → List Value → Heap → Prop) (k49 : Nat) (x50 x51 x52 x53 x54 x55 x56 : Value) (h61 h : Heap) : Prop :=
  (oW (binN .add x56 (.int .i64 1)) fun v75 => (∃ m48, m48 < k49 ∧ gcL h (I46 m48) [x50, x51, x52, x53, x54, x55, v75] h61))
def RtI1 (g : Gr) (kind : Int) (h : Heap) (m : Nat) (vs : List Value) (H : Heap) : Prop :=
  ∃ (i : Nat) (v : Value) (U : Heap) (ms : List Nat), vs = [.int .i64 kind, .pointer (some ⟨h.length, 0, none⟩), bools g.nullL, .int .i64 (g.n : Int), v, .int .i64 (i : Int)] ∧ H = h ++ [grow g] ++ U ∧ TabAt g.n (h.length + 1) H v ms (List.replicate i (List.replicate g.n false)) ∧ m = g.n - i ∧ i ≤ g.n
def RtI2 (g : Gr) (kind : Int) (h : Heap) (m : Nat) (vs : List Value) (H : Heap) : Prop :=
  ∃ (k : Nat) (v : Value) (U : Heap) (ms : List Nat) (T : List (List Bool)), vs = [.int .i64 kind, .pointer (some ⟨h.length, 0, none⟩), bools g.nullL, v, .int .i64 (k : Int)] ∧ H = h ++ [grow g] ++ U ∧ TabAt g.n (h.length + 1) H v ms T ∧ T.length = g.n ∧ (∀ i j, onT T i j ↔ stepL (g.rules.take k) (kP g kind) i j) ∧ m = g.rules.length - k ∧ k ≤ g.rules.length
def RtI3 (g : Gr) (kind : Int) (h : Heap) (k : Nat) (r : List Int) (m : Nat) (vs : List Value) (H : Heap) : Prop :=
  ∃ (q : Nat) (v : Value) (U : Heap) (ms : List Nat) (T : List (List Bool)), vs = [.int .i64 kind, .pointer (some ⟨h.length, 0, none⟩), bools g.nullL, v, .int .i64 (k : Int), ints r, .int .i64 ((q + 1 : Nat) : Int)] ∧ H = h ++ [grow g] ++ U ∧ TabAt g.n (h.length + 1) H v ms T ∧ T.length = g.n ∧
    (∀ i j, onT T i j ↔ stepL (g.rules.take k) (kP g kind) i j ∨ ∃ a x b, r.drop 1 = a ++ x :: b ∧ a.length < q ∧ kP g kind a b ∧ i = lhs r ∧ j = x.toNat) ∧ m = (r.drop 1).length - q ∧ q ≤ (r.drop 1).length

theorem table18_spec {g : Gr} (ok : g.ok) {kind : Int} (hkd : kind = 0 ∨ kind = 1 ∨ kind = 2) {h : Heap} {Q : Value → Heap → Prop}
    (hq : ∀ U v ms T, TabAt g.n (h.length + 1) (h ++ U) v ms T → T.length = g.n → (∀ i j, onT T i j ↔ stepR g (kP g kind) i j) → Q v (h ++ U)) : acall Try.prog F_homographref18_table [g.enc, .int .i64 kind] h Q := by
  classical
  have hnn := ok.nn
  have hrr := ok.rr
  apply W_homographref18_table_ok
  unfold W_homographref18_table
  rw [box_gr, hW_some, GAt.ld .box, oW_some]
  refine callW_plain.2 (refNullable_spec ok.fin ?_)
  rw [resOk ok]
  refine GAt.names .box ?_
  rw [lenN, oW_some]
  have hB : (h ++ [grow g]).length = h.length + 1 := by simp
  have ga : ∀ U, GAt (h ++ [grow g] ++ U) h.length g := fun U => GAt.box.app
  refine ⟨RtI1 g kind h, g.n, gcL_same ⟨0, _, [], [], rfl, by simp, .nil, by omega, by omega⟩, ?_⟩
  rintro k12 x13 x14 x15 x16 x17 x18 h19 ⟨i, v, U, ms, hv, rfl, ta, hk, hi⟩
  simp only [List.cons.injEq, and_true] at hv
  obtain ⟨rfl, rfl, rfl, rfl, rfl, rfl⟩ := hv
  rw [n_lss, oW_some, bW_dec]
  constructor
  · intro hlt
    refine mks_row (by omega) ?_
    generalize hid : (h ++ [grow g] ++ U).length = id
    have hge : h.length + 1 ≤ id := by rw [← hid, List.length_append, hB]; omega
    have hgr : getRow (h ++ [grow g] ++ U ++ [brow (List.replicate g.n false)]) id = some ((List.replicate g.n false).map .bool, .exact) := by rw [← hid, row_app0]; rfl
    have ta' : TabAt g.n (h.length + 1) (h ++ [grow g] ++ U ++ [brow (List.replicate g.n false)]) x17 ms (List.replicate i (List.replicate g.n false)) := ta.app
    rw [List.append_assoc (h ++ [grow g])] at hgr ta' ⊢
    refine TabAt.push hB ta' hgr (by simp) hge (fun z => ?_) (fun z => ?_) (by simp; omega) fun v' g' ta2 => ?_
    · obtain ⟨w, hw, e⟩ := List.mem_iff_getElem.1 z
      have := getRow_lt (ta.row w hw (by rw [← ta.len]; exact hw))
      omega
    · have := ta.acc.lt z
      omega
    rw [n_add (by omega), oW_some]
    exact ⟨g.n - (i + 1), by omega, gcL_same ⟨i + 1, v', g', _, rfl, rfl, by rw [List.replicate_succ']; exact ta2, rfl, by omega⟩⟩
  intro hge
  have hin : i = g.n := by omega
  refine ⟨RtI2 g kind h, g.rules.length, gcL_same ⟨0, x17, U, ms, _, rfl, rfl, ta, by simp [hin], fun i j => ⟨fun q => absurd q not_blank, fun ⟨r, hr, _⟩ => by simp at hr⟩, rfl, by omega⟩, ?_⟩
  clear ta
  rintro k31 x32 x33 x34 x35 x36 h37 ⟨k, v, U, ms, T, hv, rfl, ta, sq, hT, hk2, hkl⟩
  simp only [List.cons.injEq, and_true] at hv
  obtain ⟨rfl, rfl, rfl, rfl, rfl⟩ := hv
  refine (ga U).rules ?_
  rw [lenR, oW_some, n_lss, oW_some, bW_dec]
  constructor
  rotate_left
  · intro hge2
    have hke : k = g.rules.length := by omega
    rw [hke, List.take_length] at hT
    rw [List.append_assoc] at ta ⊢
    exact gcV_same (hq _ _ ms T ta sq hT)
  intro hlt
  have hk' : k < g.rules.length := by omega
  refine (ga U).rules (ix_rules hk' ?_)
  have hr : g.rules[k] ∈ g.rules := List.getElem_mem hk'
  have hfit := ok.fit _ hr
  have hsucc := fun {i j} => stepL_succ (p := kP g kind) hk' (i := i) (j := j)
  have hlr := lhs_lt ok hr
  generalize g.rules[k] = r at *
  have hdl : (r.drop 1).length = r.length - 1 := by simp
  have h0 := hfit.1
  have h9 := hfit.2.1
  refine ⟨RtI3 g kind h k r, (r.drop 1).length, gcL_same ⟨0, x35, U, ms, T, rfl, rfl, ta, sq, fun i j => by rw [hT]; exact ⟨.inl, fun q => q.resolve_right (by rintro ⟨a, x, b, _, z, _⟩; omega)⟩, rfl, by omega⟩, ?_⟩
  clear ta sq hT
  rintro k49 x50 x51 x52 x53 x54 x55 x56 h57 ⟨q, v, U, ms, T, hv, rfl, ta, sq, hT, hk3, hql⟩
  simp only [List.cons.injEq, and_true] at hv
  obtain ⟨rfl, rfl, rfl, rfl, rfl, rfl, rfl⟩ := hv
  rw [lenI, oW_some, n_lss, oW_some, bW_dec]
  constructor
  rotate_left
  · intro hge2
    rw [n_add (by omega), oW_some]
    refine ⟨g.rules.length - (k + 1), by omega, gcL_same ⟨k + 1, x53, U, ms, T, rfl, rfl, ta, sq, fun i j => ?_, rfl, by omega⟩⟩
    rw [hT, hsucc]
    refine or_congr Iff.rfl ⟨fun ⟨a, x, b, e, _, z⟩ => ⟨a, x, b, e, z⟩, fun ⟨a, x, b, e, z⟩ => ⟨a, x, b, e, ?_, z⟩⟩
    have := congrArg List.length e
    rw [List.length_append, List.length_cons] at this; omega
  intro hlt2
  have hq' : q < (r.drop 1).length := by omega
  have hsp := drop1_split hq'
  have hal : ((r.take (q + 1)).drop 1).length = q := by simp; omega
  have hx : inR g.n (r.drop 1)[q] := hfit.2.2.2 _ (List.getElem_mem hq')
  have hxr : r[q + 1]'(by omega) = (r.drop 1)[q] := by rw [List.getElem_drop]; congr 1; omega
  obtain ⟨x, ex⟩ : ∃ x, (r.drop 1)[q] = x := ⟨_, rfl⟩
  obtain ⟨a, ea⟩ : ∃ a, (r.take (q + 1)).drop 1 = a := ⟨_, rfl⟩
  obtain ⟨b, eb⟩ : ∃ b, r.drop (q + 2) = b := ⟨_, rfl⟩
  rw [ex] at hx hxr hsp
  rw [ea] at hal hsp
  rw [eb] at hsp
  clear ex ea eb
  have hA := aheadP_all (g := g) h0 hsp
  have hBh := behindP_all (g := g) h0 hsp
  rw [hal] at hA hBh
  have uniq : ∀ a' x' b', r.drop 1 = a' ++ x' :: b' → a'.length = q → a' = a ∧ x' = x ∧ b' = b := fun a' x' b' e hl => by
    rw [hsp] at e
    have := List.append_inj e (by omega)
    simp only [List.cons.injEq] at this
    exact ⟨this.1.symm, this.2.1.symm, this.2.2.symm⟩
  have ext : ∀ (i j : Nat), (stepL (g.rules.take k) (kP g kind) i j ∨ ∃ a x b, r.drop 1 = a ++ x :: b ∧ a.length < q + 1 ∧ kP g kind a b ∧ i = lhs r ∧ j = x.toNat) ↔ (onT T i j ∨ kP g kind a b ∧ i = lhs r ∧ j = x.toNat) := fun i j => by
    rw [hT]
    constructor
    · rintro (z | ⟨a', x', b', e, hl, z⟩)
      · exact .inl (.inl z)
      · by_cases hlq : a'.length < q
        · exact .inl (.inr ⟨a', x', b', e, hlq, z⟩)
        · obtain ⟨rfl, rfl, rfl⟩ := uniq a' x' b' e (by omega)
          exact .inr z
    · rintro ((z | ⟨a', x', b', e, hl, z⟩) | z)
      · exact .inl z
      · exact .inr ⟨a', x', b', e, by omega, z⟩
      · exact .inr ⟨a, x, b, hsp, by omega, z⟩
  have set : kP g kind a b → RtSet (RtI3 g kind h k r) k49 (.int .i64 kind) (.pointer (some ⟨h.length, 0, none⟩)) (bools g.nullL) x53 (.int .i64 (k : Int)) (ints r) (.int .i64 ((q + 1 : Nat) : Int)) (h ++ [grow g] ++ U) h := fun hp => by
    unfold RtSet
    refine ix0 h0 ?_
    have hl0 : r.getD 0 0 = (lhs r : Int) := by
      have := hfit.2.2.1
      have := ok.t0
      unfold Gr.made inR at *
      unfold lhs; omega
    rw [hl0]
    have hml := ta.len
    refine ta.get (x := (lhs r : Int)) (by unfold inR; omega) fun pp => ?_
    simp only [Int.toNat_natCast]
    refine ix_ints (n := q + 1) (by omega) ?_
    rw [hxr]
    refine ta.put (by omega) hx fun H' T' ta' hl' hon hlow hlen => ?_
    obtain ⟨U', rfl⟩ := ext_low (B := h ++ [grow g]) ⟨U, rfl⟩ hlow (by omega) hlen
    rw [n_add (by omega), oW_some]
    refine ⟨(r.drop 1).length - (q + 1), by omega, gcL_same ⟨q + 1, x53, U', ms, T', by rw [show ((q + 1 : Nat) : Int) + 1 = ((q + 1 + 1 : Nat) : Int) by omega], rfl, ta', by rw [hl', sq], fun i j => ?_, rfl, by omega⟩⟩
    rw [ext, hon]
    by_cases z : i = lhs r ∧ j = x.toNat
    · rw [if_pos z]; simp [hp, z]
    · rw [if_neg z]; exact ⟨.inl, fun w => w.resolve_right fun w => z w.2⟩
  have skip : ¬ kP g kind a b → RtSkip (RtI3 g kind h k r) k49 (.int .i64 kind) (.pointer (some ⟨h.length, 0, none⟩)) (bools g.nullL) x53 (.int .i64 (k : Int)) (ints r) (.int .i64 ((q + 1 : Nat) : Int)) (h ++ [grow g] ++ U) h := fun hp => by
    unfold RtSkip
    rw [n_add (by omega), oW_some]
    refine ⟨(r.drop 1).length - (q + 1), by omega, gcL_same ⟨q + 1, x53, U, ms, T, by rw [show ((q + 1 : Nat) : Int) + 1 = ((q + 1 + 1 : Nat) : Int) by omega], rfl, ta, sq, fun i j => ?_, rfl, by omega⟩⟩
    rw [ext]
    exact ⟨.inl, fun w => w.resolve_right fun w => hp w.1⟩
  refine callW_plain.2 (leads_spec h0 h9 hfit.2.2.2 ?_)
  rw [show ∀ a b c : Value, extractA (.tuple #[a, b, c]) 0 = some a from fun _ _ _ => rfl, oW_some, show ∀ a b c : Value, extractA (.tuple #[a, b, c]) 1 = some b from fun _ _ _ => rfl, oW_some, show ∀ a b c : Value, extractA (.tuple #[a, b, c]) 2 = some c from fun _ _ _ => rfl, oW_some]
  rcases hkd with rfl | rfl | rfl
  · have e : kP g 0 a b ↔ behindP g r (q + 1) r.length ∧ aheadP g r (q + 1) r.length := by rw [hA, hBh]; unfold kP; rw [if_pos rfl]
    simp only [n_eql, oW_some, eq_self, Int.reduceEq, decide_true, decide_false, bW_true, bW_false]
    rw [bW_dec]
    exact ⟨fun z => set (e.2 z), fun z => skip fun w => z (e.1 w)⟩
  · have e : kP g 1 a b ↔ aheadP g r (q + 1) r.length := by rw [hA]; unfold kP; rw [if_neg (by decide), if_pos rfl]
    simp only [n_eql, oW_some, eq_self, Int.reduceEq, decide_true, decide_false, bW_true, bW_false]
    rw [bW_dec]
    exact ⟨fun z => set (e.2 z), fun z => skip fun w => z (e.1 w)⟩
  · have e : kP g 2 a b ↔ aheadP g r (q + 1) r.length ∧ 1 < q + 1 := by rw [hA]; unfold kP; rw [if_neg (by decide), if_neg (by decide), hal]
    simp only [n_eql, oW_some, eq_self, Int.reduceEq, decide_true, decide_false, bW_true, bW_false]
    rw [bW_dec]
    exact ⟨fun z => set (e.2 z), fun z => skip fun w => z (e.1 w)⟩

end Go.Ax

namespace Go.Ax
open Go Go.Proofs Go.RowKit

def WaB (T0 T : List (List Bool)) (k i j : Nat) : Prop := ∀ i' j', (i' < i ∨ i' = i ∧ j' < j) → onT T0 i' k → onT T0 k j' → onT T i' j'
def WaI1 (c n0 : Nat) (v : Value) (ms : List Nat) (h : Heap) (R : Nat → Nat → Prop) (m : Nat) (vs : List Value) (H : Heap) : Prop :=
  ∃ (T : List (List Bool)) (k : Nat), vs = [v, .int .i64 (c : Int), .int .i64 (k : Int)] ∧ ClS c n0 v ms h R T H ∧ (∀ a b, Via R k a b → onT T a b) ∧ m = c - k ∧ k ≤ c
def WaI2 (c n0 : Nat) (v : Value) (ms : List Nat) (h : Heap) (R : Nat → Nat → Prop) (T0 : List (List Bool)) (k : Nat) (m : Nat) (vs : List Value) (H : Heap) : Prop :=
  ∃ (T : List (List Bool)) (i : Nat), vs = [v, .int .i64 (c : Int), .int .i64 (k : Int), .int .i64 (i : Int)] ∧ ClS c n0 v ms h R T H ∧ (∀ a b, onT T0 a b → onT T a b) ∧ WaB T0 T k i 0 ∧ m = c - i ∧ i ≤ c
def WaI3 (c n0 : Nat) (v : Value) (ms : List Nat) (h : Heap) (R : Nat → Nat → Prop) (T0 : List (List Bool)) (k i : Nat) (m : Nat) (vs : List Value) (H : Heap) : Prop :=
  ∃ (T : List (List Bool)) (j : Nat), vs = [v, .int .i64 (c : Int), .int .i64 (k : Int), .int .i64 (i : Int), .int .i64 (j : Int)] ∧ ClS c n0 v ms h R T H ∧ (∀ a b, onT T0 a b → onT T a b) ∧ WaB T0 T k i j ∧ m = c - j ∧ j ≤ c

theorem closed_spec {c n0 : Nat} {h : Heap} {v : Value} {ms : List Nat} {T : List (List Bool)} (ta : TabAt c n0 h v ms T) (sq : T.length = c) (hc : c ≤ 1000000) {Q : Value → Heap → Prop}
    (hq : ∀ H' T', TabAt c n0 H' v ms T' → T'.length = c → (∀ i j, onT T' i j ↔ Plus (onT T) i j) → (∀ j, j < n0 → H'[j]? = h[j]?) → H'.length = h.length → Q v H') :
    acall Try.prog F_homographref18_closed [v] h Q := by
  apply W_homographref18_closed_ok
  unfold W_homographref18_closed
  rw [ta.lenS, oW_some, sq]
  have hlt : ∀ a b, onT T a b → b < c := fun a b q => (onT_lt2 ta.wid q).2
  refine ⟨WaI1 c n0 v ms h (onT T), c, gcL_same ⟨T, 0, rfl, ⟨ta, sq, fun _ _ => rfl, rfl, fun _ _ q => q, fun _ _ q => .one q⟩, fun a b q => q.zero, rfl, by omega⟩, ?_⟩
  generalize hR : onT T = R at hq hlt
  clear hR ta sq
  rintro k5 x6 x7 x8 h9 ⟨T0, k, hv, st, hvia, hk, hkc⟩
  simp only [List.cons.injEq, and_true] at hv
  obtain ⟨rfl, rfl, rfl⟩ := hv
  rw [n_lss, oW_some, bW_dec]
  constructor
  rotate_left
  · intro hge
    have hkc' : k = c := by omega
    subst hkc'
    exact gcV_same (hq h9 T0 st.tab st.sq (fun i j => ⟨st.snd i j, fun q => hvia _ _ (Via.of_plus hlt q)⟩) st.low st.len)
  intro hltk
  have hk' : k < c := by omega
  refine ⟨WaI2 c n0 x6 ms h R T0 k, c, gcL_same ⟨T0, 0, rfl, st, fun _ _ q => q, fun _ _ q => by omega, rfl, by omega⟩, ?_⟩
  have st0 := st
  clear st
  rintro k14 x15 x16 x17 x18 h19 ⟨T1, i, hv, st, hup, hb, hk2, hic⟩
  simp only [List.cons.injEq, and_true] at hv
  obtain ⟨rfl, rfl, rfl, rfl⟩ := hv
  rw [n_lss, oW_some, bW_dec]
  constructor
  rotate_left
  · intro hge
    have hic' : i = c := by omega
    subst hic'
    rw [n_add (by omega), oW_some]
    refine ⟨i - (k + 1), by omega, gcL_same ⟨T1, k + 1, rfl, st, fun a b q => ?_, rfl, by omega⟩⟩
    rcases q.split with z | ⟨z1, z2⟩
    · exact hup _ _ (hvia _ _ z)
    · have h1 := hvia _ _ z1
      have h2 := onT_lt2 st0.tab.wid h1
      exact hb a b (.inl (by have := st0.sq; omega)) h1 (hvia _ _ z2)
  intro hlti
  have hi' : i < c := by omega
  refine ⟨WaI3 c n0 x15 ms h R T0 k i, c, gcL_same ⟨T1, 0, rfl, st, hup, hb, rfl, by omega⟩, ?_⟩
  clear st hup hb
  rintro k24 x25 x26 x27 x28 x29 h30 ⟨T2, j, hv, st, hup, hb, hk3, hjc⟩
  simp only [List.cons.injEq, and_true] at hv
  obtain ⟨rfl, rfl, rfl, rfl, rfl⟩ := hv
  rw [n_lss, oW_some, bW_dec]
  constructor
  rotate_left
  · intro hge
    rw [n_add (by omega), oW_some]
    refine ⟨c - (i + 1), by omega, gcL_same ⟨T2, i + 1, rfl, st, hup, fun i' j' hlt2 h1 h2 => ?_, rfl, by omega⟩⟩
    have := onT_lt2 st0.tab.wid h2
    exact hb i' j' (by omega) h1 h2
  intro hltj
  have hj' : j < c := by omega
  have hsq := st.sq
  have hml := st.tab.len
  have next : ∀ (T' : List (List Bool)) (H' : Heap) (b : Bool), TabAt c n0 H' x25 ms T' → T'.length = T2.length → (∀ s u, onT T' s u ↔ if s = i ∧ u = j then b = true else onT T2 s u) → (∀ q, q < n0 → H'[q]? = h30[q]?) → H'.length = h30.length →
      (onT T2 i j → b = true) → (b = true → Plus R i j) → (onT T2 i k → onT T2 k j → b = true) →
      oW (binN .add (.int .i64 (j : Int)) (.int .i64 1)) fun v => ∃ m23, m23 < k24 ∧ gcL h (WaI3 c n0 x25 ms h R T0 k i m23) [x25, .int .i64 (c : Int), .int .i64 (k : Int), .int .i64 (i : Int), v] H' := fun T' H' b ta' hl' hon hlow hlen g1 g2 g3 => by
    have up : ∀ a b, onT T2 a b → onT T' a b := fun a b q => by
      rw [hon]
      split
      · rename_i z
        obtain ⟨rfl, rfl⟩ := z
        exact g1 q
      · exact q
    rw [n_add (by omega), oW_some]
    refine ⟨c - (j + 1), by omega, gcL_same ⟨T', j + 1, rfl, ⟨ta', by rw [hl', hsq], fun q hq2 => (hlow q hq2).trans (st.low q hq2), hlen.trans st.len, fun a b q => up a b (st.all a b q), fun a b q => ?_⟩, fun a b q => up a b (hup a b q), fun i' j' hlt2 h1 h2 => ?_, rfl, by omega⟩⟩
    · rw [hon] at q
      split at q
      · rename_i z
        obtain ⟨rfl, rfl⟩ := z
        exact g2 q
      · exact st.snd a b q
    · by_cases z : i' = i ∧ j' = j
      · obtain ⟨rfl, rfl⟩ := z
        rw [hon, if_pos ⟨rfl, rfl⟩]
        exact g3 (hup _ _ h1) (hup _ _ h2)
      · exact up _ _ (hb i' j' (by omega) h1 h2)
  refine st.tab.get (x := (i : Int)) (by unfold inR; omega) fun p => ?_
  simp only [Int.toNat_natCast]
  refine st.tab.get (x := (i : Int)) (by unfold inR; omega) fun p => ?_
  simp only [Int.toNat_natCast]
  refine st.tab.cell (by omega) (t := (j : Int)) (by unfold inR; omega) ?_
  simp only [Int.toNat_natCast]
  rw [bW_dec]
  constructor
  · intro hij
    refine st.tab.put (by omega) (t := (j : Int)) (by unfold inR; omega) fun H' T' ta' hl' hon hlow hlen => ?_
    simp only [Int.toNat_natCast] at hon
    exact next T' H' true ta' hl' (fun s u => by rw [hon s u]; simp) hlow hlen (fun _ => rfl) (fun _ => st.snd _ _ hij) fun _ _ => rfl
  intro hij
  refine st.tab.get (x := (i : Int)) (by unfold inR; omega) fun p => ?_
  simp only [Int.toNat_natCast]
  refine st.tab.cell (by omega) (t := (k : Int)) (by unfold inR; omega) ?_
  simp only [Int.toNat_natCast]
  rw [bW_dec]
  constructor
  · intro hik
    refine st.tab.get (x := (k : Int)) (by unfold inR; omega) fun p => ?_
    simp only [Int.toNat_natCast]
    refine st.tab.cell (by omega) (t := (j : Int)) (by unfold inR; omega) ?_
    simp only [Int.toNat_natCast]
    refine st.tab.put (by omega) (t := (j : Int)) (by unfold inR; omega) fun H' T' ta' hl' hon hlow hlen => ?_
    simp only [Int.toNat_natCast] at hon
    exact next T' H' _ ta' hl' hon hlow hlen (fun q => absurd q hij) (fun q => (st.snd _ _ hik).trans (st.snd _ _ (of_decide_eq_true q))) fun _ q => decide_eq_true q
  · intro hik
    refine st.tab.put (by omega) (t := (j : Int)) (by unfold inR; omega) fun H' T' ta' hl' hon hlow hlen => ?_
    simp only [Int.toNat_natCast] at hon
    exact next T' H' false ta' hl' hon hlow hlen (fun q => absurd q hij) (fun q => by cases q) fun q => absurd q hik

/-- Which are tied to themselves. -/
def RoI (v : Value) (n : Nat) (S : Nat → Prop) (h : Heap) (m : Nat) (vs : List Value) (H : Heap) : Prop :=
  ∃ (i : Nat) (x : Value) (g : Heap), vs = [v, x, .int .i64 (i : Int)] ∧ H = h ++ g ∧ Acc 1 h.length H x (((setL n S).take i).map .bool) ∧ m = n - i ∧ i ≤ n
open Classical in
theorem rown_spec {v : Value} {n : Nat} {S : Nat → Prop} {h : Heap} (hn : n ≤ 1000000) (hlen : lenS v = some (.int .i64 (n : Int)))
    (hget : ∀ U (i : Nat) (K : Value → Prop), i < n → K (.bool (decide (S i))) → oW (iaS 1 v (.int .i64 (i : Int))) fun p => oW (ldW false 1 (h ++ U) p) fun w => oW (iaS 1 w (.int .i64 (i : Int))) fun q => oW (ldW false 1 (h ++ U) q) K)
    {Q : Value → Heap → Prop} (hq : Q (bools (setL n S)) h) : acall Try.prog F_homographref18_own [v] h Q := by
  apply W_homographref18_own_ok
  unfold W_homographref18_own
  refine ⟨RoI v n S h, n, gcL_same ⟨0, .slice none 0 0, [], rfl, by simp, by simpa using Acc.nil, rfl, by omega⟩, ?_⟩
  rintro k5 x6 x7 x9 h10 ⟨i, x, g, hv, rfl, acc, hk, hi⟩
  simp only [List.cons.injEq, and_true] at hv
  obtain ⟨rfl, rfl, rfl⟩ := hv
  rw [hlen, oW_some, n_lss, oW_some, bW_dec]
  constructor
  · intro hlt
    have hi' : i < n := by omega
    refine hget g i _ hi' ?_
    have hl : (((setL n S).take i).map Value.bool).length ≤ n := by simp; omega
    refine Acc.push rfl acc (by omega) bool_len1 (e := .bool (decide (S i))) rfl rfl rfl rfl (by omega) (by omega) fun v' g' a2 _ _ _ => ?_
    rw [n_add (by omega), oW_some]
    refine ⟨n - (i + 1), by omega, gcL_same ⟨i + 1, v', g', rfl, rfl, ?_, rfl, by omega⟩⟩
    rw [setL_take hi', List.map_append]; exact a2
  · intro hge
    rw [List.take_of_length_le (by simp; omega)] at acc
    exact Acc.done rfl ⟨[], by simp⟩ acc (by omega) bool_len1 bool_cl1 hq
theorem rown_tab {n n0 : Nat} {h : Heap} {v : Value} {ms : List Nat} {T : List (List Bool)} (ta : TabAt n n0 h v ms T) (sq : T.length = n) (hn : n ≤ 1000000) {Q : Value → Heap → Prop} (hq : Q (bools (setL n fun i => onT T i i)) h) : acall Try.prog F_homographref18_own [v] h Q := by
  classical
  refine rown_spec (S := fun i => onT T i i) hn (by rw [ta.lenS, sq]) (fun U i K hi k => ?_) hq
  have hml := ta.len
  refine ta.app.get (x := (i : Int)) (by unfold inR; omega) fun p => ?_
  simp only [Int.toNat_natCast]
  refine ta.app.cell (by omega) (t := (i : Int)) (by unfold inR; omega) ?_
  simp only [Int.toNat_natCast]
  exact (congrArg K (congrArg Value.bool (decide_eq_decide.2 Iff.rfl))).mpr k
theorem rown_lit {n : Nat} {R : Nat → Nat → Prop} {h : Heap} (hn : n ≤ 1000000) {Q : Value → Heap → Prop} (hq : Q (bools (setL n fun i => R i i)) h) : acall Try.prog F_homographref18_own [lit ((tabS n R).map bools)] h Q := by
  classical
  refine rown_spec (S := fun i => R i i) hn (by rw [lenS_lit, List.length_map, tabS_len]) (fun U i K hi k => ?_) hq
  refine ix_rowsB (by rw [tabS_len]; exact hi) ?_
  rw [tabS_row]
  refine ix_bool (n := n) (by simp) (by unfold inR; omega) ?_
  rw [Int.toNat_natCast]
  have : decide (onL (setL n (R i)) i) = decide (R i i) := by rw [decide_eq_decide, setL_on]; exact ⟨fun q => q.2, fun q => ⟨hi, q⟩⟩
  rw [this]; exact k
theorem kP0 {g : Gr} {i j : Nat} : stepR g (kP g 0) i j ↔ g.alone i j := by
  unfold Gr.alone stepR
  have : ∀ a b, kP g 0 a b ↔ (emptyR g a ∧ emptyR g b) := fun a b => by unfold kP; rw [if_pos rfl]; exact And.comm
  simp only [this]
theorem kP1 {g : Gr} {i j : Nat} : stepR g (kP g 1) i j ↔ g.ahead 0 i j := by
  unfold Gr.ahead stepR
  have : ∀ a b, kP g 1 a b ↔ (0 ≤ a.length ∧ emptyR g a) := fun a b => by unfold kP; rw [if_neg (by decide), if_pos rfl]; exact ⟨fun q => ⟨by omega, q⟩, fun q => q.2⟩
  simp only [this]
theorem kP2 {g : Gr} {i j : Nat} : stepR g (kP g 2) i j ↔ g.ahead 1 i j := by
  unfold Gr.ahead stepR
  have : ∀ a b, kP g 2 a b ↔ (1 ≤ a.length ∧ emptyR g a) := fun a b => by unfold kP; rw [if_neg (by decide), if_neg (by decide)]; exact ⟨fun q => ⟨by omega, q.1⟩, fun q => ⟨q.2, by omega⟩⟩
  simp only [this]
theorem chkOk {g : Gr} (ok : g.ok) : g.chk = 0 := by unfold Gr.chk; rw [if_pos ok]
theorem refAlone_spec {g : Gr} (ok : g.ok) {h : Heap} {Q : Value → Heap → Prop} (hq : Q (lit (g.aloneT.map bools)) h) : acall Try.prog F_homographref18_Alone [g.enc] h Q := by
  have hnn := ok.nn
  apply W_homographref18_Alone_ok
  unfold W_homographref18_Alone
  rw [box_gr, hW_some, GAt.ld .box, oW_some]
  refine callW_plain.2 (refCheck_spec ok.fin ?_)
  rw [chkOk ok, n_neq, oW_some, bW_dec]
  refine ⟨fun q => absurd rfl q, fun _ => ?_⟩
  rw [GAt.ld .box, oW_some]
  refine callW_plain.2 (table18_spec ok (.inl rfl) fun U v ms T ta sq hT => callW_plain.2 (closed_spec ta sq (by omega) fun H' T' ta' sq' hT' low len => ?_))
  obtain ⟨X, rfl⟩ := ext_low (B := h ++ [grow g]) ⟨U, rfl⟩ low (by omega) len
  have e : T' = g.aloneT := eq_tabS sq' ta'.wid fun i j _ _ => by
    rw [hT']
    exact ⟨Plus.mono fun a b q => kP0.1 ((hT a b).1 q), Plus.mono fun a b q => (hT a b).2 (kP0.2 q)⟩
  subst e
  rw [List.append_assoc] at ta' ⊢
  refine gcV_end (v2 := lit (g.aloneT.map bools)) (ta'.gv (h0 := h) ?_) hq
  simp; omega
theorem refCyclic_spec {g : Gr} (ok : g.ok) {h : Heap} {Q : Value → Heap → Prop} (hq : Q (bools g.cycL) h) : acall Try.prog F_homographref18_Cyclic [g.enc] h Q := by
  have hnn := ok.nn
  apply W_homographref18_Cyclic_ok
  unfold W_homographref18_Cyclic
  rw [box_gr, hW_some, GAt.ld .box, oW_some]
  refine callW_plain.2 (refAlone_spec ok (callW_plain.2 (rown_lit (by omega) ?_)))
  exact gcV_box cl_bl hq
theorem refLeft_spec {g : Gr} (ok : g.ok) {h : Heap} {Q : Value → Heap → Prop} (hq : Q (bools g.leftL) h) : acall Try.prog F_homographref18_Left [g.enc] h Q := by
  have hnn := ok.nn
  apply W_homographref18_Left_ok
  unfold W_homographref18_Left
  rw [box_gr, hW_some, GAt.ld .box, oW_some]
  refine callW_plain.2 (refCheck_spec ok.fin ?_)
  rw [chkOk ok, n_neq, oW_some, bW_dec]
  refine ⟨fun q => absurd rfl q, fun _ => ?_⟩
  rw [GAt.ld .box, oW_some]
  refine callW_plain.2 (table18_spec ok (.inr (.inl rfl)) fun U v ms T ta sq hT => callW_plain.2 (closed_spec ta sq (by omega) fun H' T' ta' sq' hT' low len => callW_plain.2 (rown_tab ta' sq' (by omega) ?_)))
  obtain ⟨X, rfl⟩ := ext_low (B := h ++ [grow g]) ⟨U, rfl⟩ low (by omega) len
  have e : setL g.n (fun i => onT T' i i) = g.leftL := by
    unfold Gr.leftL
    congr 1
    funext i
    rw [hT']
    exact propext ⟨Plus.mono fun a b q => kP1.1 ((hT a b).1 q), Plus.mono fun a b q => (hT a b).2 (kP1.2 q)⟩
  rw [e, List.append_assoc]
  exact gcV_box cl_bl hq

/-- Rows of rows of bools, compared: alike. -/
theorem sameB_spec {T : List (List Bool)} (hl : T.length ≤ 1000000) (hw : ∀ r ∈ T, r.length ≤ 1000000) {h : Heap} {Q : Value → Heap → Prop} (hq : Q (.bool true) h) : acall Try.prog F_homographref18_Same [lit (T.map bools), lit (T.map bools)] h Q := by
  apply W_homographref18_Same_ok
  unfold W_homographref18_Same
  have lt : lenS (lit (T.map bools)) = some (.int .i64 (T.length : Int)) := by rw [lenS_lit, List.length_map]
  rw [lt, oW_some, oW_some, n_neq, oW_some, bW_dec]
  refine ⟨fun q => absurd rfl q, fun _ => ?_⟩
  refine ⟨fun k vs g => ∃ i : Nat, vs = [lit (T.map bools), lit (T.map bools), .int .i64 (i : Int)] ∧ g = h ∧ k = T.length - i ∧ i ≤ T.length, T.length, gcL_same ⟨0, rfl, rfl, by omega, by omega⟩, ?_⟩
  rintro k x8 x9 x10 g ⟨i, hv, rfl, hk, hi⟩
  simp only [List.cons.injEq, and_true] at hv
  obtain ⟨rfl, rfl, rfl⟩ := hv
  rw [lt, oW_some, n_lss, oW_some, bW_dec]
  constructor
  · intro hlt
    have h1 : i < T.length := by omega
    refine ix_rowsB h1 (ix_rowsB h1 ?_)
    refine callW_plain.2 (eqBools_spec (by have := hw _ (List.getElem_mem h1); omega) ?_)
    rw [decide_eq_true rfl, u_not, oW_some, bW_bool]
    refine ⟨(fun q => by cases q), fun _ => ?_⟩
    rw [n_add (by omega), oW_some]
    exact ⟨T.length - (i + 1), by omega, gcL_same ⟨i + 1, rfl, rfl, rfl, by omega⟩⟩
  · intro _
    exact gcV_same hq

end Go.Ax

namespace Go.Ax
open Go Go.Proofs Go.RowKit

def hidC (Tf Td : List (List Bool)) (s i j : Nat) : Prop := onT Td i j ∧ (i = s ∨ onT Tf s i) ∧ (j = s ∨ onT Tf j s)
/-- What is marked, up to a place. -/
def hidM (n : Nat) (Tf Td : List (List Bool)) (s i j : Nat) (t : Nat) : Prop := ∃ i' j', i' < n ∧ j' < n ∧ (t < s ∨ t = s ∧ (i' < i ∨ i' = i ∧ j' < j)) ∧ hidC Tf Td t i' j'
def RhS (n : Nat) (B : Heap) (x : Value) (Tf Td : List (List Bool)) (s i j : Nat) (H : Heap) : Prop :=
  ∃ (gg : Heap) (L : List Bool), H = B ++ gg ∧ Acc 1 B.length H x (L.map .bool) ∧ L.length = n ∧ ∀ t, onL L t ↔ t < n ∧ hidM n Tf Td s i j t
def RhI1 (n : Nat) (B : Heap) (vf vd : Value) (Tf Td : List (List Bool)) (m : Nat) (vs : List Value) (H : Heap) : Prop :=
  ∃ (x : Value) (s : Nat), vs = [vf, vd, .int .i64 (n : Int), x, .int .i64 (s : Int)] ∧ RhS n B x Tf Td s 0 0 H ∧ m = n - s ∧ s ≤ n
def RhI2 (n : Nat) (B : Heap) (vf vd : Value) (Tf Td : List (List Bool)) (x : Value) (s : Nat) (m : Nat) (vs : List Value) (H : Heap) : Prop :=
  ∃ (i : Nat), vs = [vf, vd, .int .i64 (n : Int), x, .int .i64 (s : Int), .int .i64 (i : Int)] ∧ RhS n B x Tf Td s i 0 H ∧ m = n - i ∧ i ≤ n
def RhI3 (n : Nat) (B : Heap) (vf vd : Value) (Tf Td : List (List Bool)) (x : Value) (s i : Nat) (m : Nat) (vs : List Value) (H : Heap) : Prop :=
  ∃ (j : Nat), vs = [vf, vd, .int .i64 (n : Int), x, .int .i64 (s : Int), .int .i64 (i : Int), .int .i64 (j : Int)] ∧ RhS n B x Tf Td s i j H ∧ m = n - j ∧ j ≤ n
def RhSet (I43 : Nat → List Value → Heap → Prop) (k46 : Nat) (x47 x48 x49 x50 x51 x52 x53 : Value) (h54 h : Heap) : Prop :=
  (oW (iaS 1 x50 x51) fun v62 => (sW (stW 1 h54 v62 (.bool true)) fun h63 => (oW (binN .add x53 (.int .i64 1)) fun v64 => (∃ m45, m45 < k46 ∧ gcL h (I43 m45) [x47, x48, x49, x50, x51, x52, v64] h63))))
def RhSkip (I43 : Nat → List Value → Heap → Prop) (k46 : Nat) (x47 x48 x49 x50 x51 x52 x53 : Value) (h54 h : Heap) : Prop :=
  (oW (binN .add x53 (.int .i64 1)) fun v65 => (∃ m45, m45 < k46 ∧ gcL h (I43 m45) [x47, x48, x49, x50, x51, x52, v65] h54))
theorem hidM_succ {n : Nat} {Tf Td : List (List Bool)} {s i j t : Nat} (hi : i < n) (hj : j < n) : hidM n Tf Td s i (j + 1) t ↔ hidM n Tf Td s i j t ∨ t = s ∧ hidC Tf Td s i j := by
  constructor
  · rintro ⟨i', j', h1, h2, h3, h4⟩
    by_cases e : t = s ∧ i' = i ∧ j' = j
    · obtain ⟨rfl, rfl, rfl⟩ := e; exact .inr ⟨rfl, h4⟩
    · exact .inl ⟨i', j', h1, h2, by omega, h4⟩
  · rintro (⟨i', j', h1, h2, h3, h4⟩ | ⟨rfl, h⟩)
    · exact ⟨i', j', h1, h2, by omega, h4⟩
    · exact ⟨i, j, hi, hj, by omega, h⟩

theorem refHidden_spec {g : Gr} (ok : g.ok) {h : Heap} {Q : Value → Heap → Prop} (hq : Q (bools g.hidL) h) : acall Try.prog F_homographref18_Hidden [g.enc] h Q := by
  classical
  have hnn := ok.nn
  apply W_homographref18_Hidden_ok
  unfold W_homographref18_Hidden
  rw [box_gr, hW_some, GAt.ld .box, oW_some]
  refine callW_plain.2 (refCheck_spec ok.fin ?_)
  rw [chkOk ok, n_neq, oW_some, bW_dec]
  refine ⟨fun q => absurd rfl q, fun _ => ?_⟩
  rw [GAt.ld .box, oW_some]
  refine callW_plain.2 (table18_spec ok (.inr (.inl rfl)) fun U v ms T ta sq hT => callW_plain.2 (closed_spec ta sq (by omega) fun H' Tf taf sqf hTf low len => ?_))
  obtain ⟨X, rfl⟩ := ext_low (B := h ++ [grow g]) ⟨U, rfl⟩ low (by omega) len
  have ga : GAt (h ++ [grow g] ++ X) h.length g := GAt.box.app
  rw [ga.ld, oW_some]
  refine callW_plain.2 (table18_spec ok (.inr (.inr rfl)) fun U2 vd md Td tad sqd hTd => ?_)
  refine ga.app.names ?_
  rw [lenN, oW_some]
  have taf' : TabAt g.n ((h ++ [grow g]).length + 1) (h ++ [grow g] ++ X ++ U2) v ms Tf := taf.app
  have eB : ∃ Y, h ++ [grow g] ++ X ++ U2 = h ++ Y := ⟨[grow g] ++ (X ++ U2), by simp⟩
  clear taf ga len low
  generalize h ++ [grow g] ++ X ++ U2 = B at *
  refine mks_row (n := g.n) (by omega) ?_
  have hF : ∀ a b, onT Tf a b ↔ Plus (g.ahead 0) a b := fun a b => by
    rw [hTf]
    exact ⟨Plus.mono fun a b q => kP1.1 ((hT a b).1 q), Plus.mono fun a b q => (hT a b).2 (kP1.2 q)⟩
  have hD : ∀ a b, onT Td a b ↔ g.ahead 1 a b := fun a b => by rw [hTd, kP2]
  refine ⟨RhI1 g.n B v vd Tf Td, g.n, gcL_same ⟨_, 0, rfl, ⟨[brow (List.replicate g.n false)], List.replicate g.n false, rfl, ?_, by simp, fun t => ?_⟩, rfl, by omega⟩, ?_⟩
  · have := Acc.made (sz := 1) (n := B.length) (H := B) (l := (List.replicate g.n false).map Value.bool) bool_len1 (Nat.le_refl _)
    have fl : ((List.replicate g.n false).map Value.bool).flatMap cellsOf = (List.replicate g.n false).map Value.bool := flat_one fun e he => by
      obtain ⟨b, _, rfl⟩ := List.mem_map.1 he; rfl
    rw [fl] at this
    simpa [brow] using this
  · exact ⟨fun q => absurd q on_fls, fun ⟨_, i', j', _, _, q, _⟩ => by omega⟩
  rintro k23 x24 x25 x26 x27 x28 h29 ⟨x, s, hv, st, hk, hs⟩
  simp only [List.cons.injEq, and_true] at hv
  obtain ⟨rfl, rfl, rfl, rfl, rfl⟩ := hv
  rw [n_lss, oW_some, bW_dec]
  constructor
  rotate_left
  · intro hge
    have hse : s = g.n := by omega
    obtain ⟨gg, L, rfl, acc, hL, hon⟩ := st
    have e : L = g.hidL := by
      unfold Gr.hidL
      refine eq_setL hL fun t ht => ?_
      rw [hon]
      unfold Gr.hid
      constructor
      · rintro ⟨_, i', j', _, _, _, c1, c2, c3⟩
        rw [hD] at c1; rw [hF] at c2 c3
        exact ⟨i', j', c1, c2, c3⟩
      · rintro ⟨i', j', c1, c2, c3⟩
        have := stepR_lt ok c1
        exact ⟨ht, i', j', this.1, this.2, .inl (by omega), (hD _ _).2 c1, by rwa [hF], by rwa [hF]⟩
    rw [e] at acc
    exact Acc.done rfl eB acc (by omega) bool_len1 bool_cl1 hq
  intro hlts
  have hs' : s < g.n := by omega
  refine ⟨RhI2 g.n B x24 x25 Tf Td x27 s, g.n, gcL_same ⟨0, rfl, st, rfl, by omega⟩, ?_⟩
  clear st
  rintro k34 x35 x36 x37 x38 x39 x40 h41 ⟨i, hv, st, hk2, hi⟩
  simp only [List.cons.injEq, and_true] at hv
  obtain ⟨rfl, rfl, rfl, rfl, rfl, rfl⟩ := hv
  rw [n_lss, oW_some, bW_dec]
  constructor
  rotate_left
  · intro hge
    rw [n_add (by omega), oW_some]
    obtain ⟨gg, L, rfl, acc, hL, hon⟩ := st
    refine ⟨g.n - (s + 1), by omega, gcL_same ⟨_, s + 1, rfl, ⟨gg, L, rfl, acc, hL, fun t => ?_⟩, rfl, by omega⟩⟩
    rw [hon]
    refine and_congr Iff.rfl ⟨?_, ?_⟩
    · rintro ⟨i', j', h1, h2, h3, h4⟩; exact ⟨i', j', h1, h2, by omega, h4⟩
    · rintro ⟨i', j', h1, h2, h3, h4⟩; exact ⟨i', j', h1, h2, by omega, h4⟩
  intro hlti
  have hi' : i < g.n := by omega
  refine ⟨RhI3 g.n B x35 x36 Tf Td x38 s i, g.n, gcL_same ⟨0, rfl, st, rfl, by omega⟩, ?_⟩
  clear st
  rintro k46 x47 x48 x49 x50 x51 x52 x53 h54 ⟨j, hv, st, hk3, hj⟩
  simp only [List.cons.injEq, and_true] at hv
  obtain ⟨rfl, rfl, rfl, rfl, rfl, rfl, rfl⟩ := hv
  rw [n_lss, oW_some, bW_dec]
  constructor
  rotate_left
  · intro hge
    rw [n_add (by omega), oW_some]
    obtain ⟨gg, L, rfl, acc, hL, hon⟩ := st
    refine ⟨g.n - (i + 1), by omega, gcL_same ⟨i + 1, rfl, ⟨gg, L, rfl, acc, hL, fun t => ?_⟩, rfl, by omega⟩⟩
    rw [hon]
    refine and_congr Iff.rfl ⟨?_, ?_⟩
    · rintro ⟨i', j', h1, h2, h3, h4⟩; exact ⟨i', j', h1, h2, by omega, h4⟩
    · rintro ⟨i', j', h1, h2, h3, h4⟩; exact ⟨i', j', h1, h2, by omega, h4⟩
  intro hltj
  have hj' : j < g.n := by omega
  obtain ⟨gg, L, rfl, acc, hL, hon⟩ := st
  have mfl := taf'.len
  have mdl := tad.len
  have set : hidC Tf Td s i j → RhSet (RhI3 g.n B x47 x48 Tf Td x50 s i) k46 x47 x48 (.int .i64 (g.n : Int)) x50 (.int .i64 (s : Int)) (.int .i64 (i : Int)) (.int .i64 (j : Int)) (B ++ gg) h := fun hc => by
    unfold RhSet
    refine Acc.set rfl acc (by omega) bool_len1 (e := .bool true) rfl rfl rfl (by simp; omega) fun g' a2 _ => ?_
    rw [n_add (by omega), oW_some]
    refine ⟨g.n - (j + 1), by omega, gcL_same ⟨j + 1, rfl, ⟨g', markL L s, rfl, ?_, by simp [hL], fun t => ?_⟩, rfl, by omega⟩⟩
    · rw [← List.map_set] at a2; exact a2
    · rw [mark_on (by omega), hon, hidM_succ hi' hj']
      constructor
      · rintro (rfl | ⟨z1, z2⟩)
        · exact ⟨hs', .inr ⟨rfl, hc⟩⟩
        · exact ⟨z1, .inl z2⟩
      · rintro ⟨z1, z2 | ⟨rfl, _⟩⟩
        · exact .inr ⟨z1, z2⟩
        · exact .inl rfl
  have skip : ¬ hidC Tf Td s i j → RhSkip (RhI3 g.n B x47 x48 Tf Td x50 s i) k46 x47 x48 (.int .i64 (g.n : Int)) x50 (.int .i64 (s : Int)) (.int .i64 (i : Int)) (.int .i64 (j : Int)) (B ++ gg) h := fun hc => by
    unfold RhSkip
    rw [n_add (by omega), oW_some]
    refine ⟨g.n - (j + 1), by omega, gcL_same ⟨j + 1, rfl, ⟨gg, L, rfl, acc, hL, fun t => ?_⟩, rfl, by omega⟩⟩
    rw [hon, hidM_succ hi' hj']
    exact and_congr Iff.rfl ⟨.inl, fun z => z.resolve_right fun z => hc z.2⟩
  refine tad.app.get (x := (i : Int)) (by unfold inR; omega) fun p => ?_
  simp only [Int.toNat_natCast]
  refine tad.app.cell (by omega) (t := (j : Int)) (by unfold inR; omega) ?_
  simp only [Int.toNat_natCast]
  rw [bW_dec]
  constructor
  rotate_left
  · intro hd
    rw [bW_false]
    exact skip fun z => hd z.1
  intro hd
  rw [n_eql, oW_some, bW_dec]
  constructor
  · intro his
    rw [bW_true, n_eql, oW_some, bW_dec]
    constructor
    · intro hjs
      rw [bW_true]
      exact set ⟨hd, .inl (by omega), .inl (by omega)⟩
    · intro hjs
      refine taf'.app.get (x := (j : Int)) (by unfold inR; omega) fun p => ?_
      simp only [Int.toNat_natCast]
      refine taf'.app.cell (by omega) (t := (s : Int)) (by unfold inR; omega) ?_
      simp only [Int.toNat_natCast]
      rw [bW_dec]
      exact ⟨fun z => set ⟨hd, .inl (by omega), .inr z⟩, fun z => skip fun w => w.2.2.elim (fun w => hjs (by omega)) z⟩
  · intro his
    refine taf'.app.get (x := (s : Int)) (by unfold inR; omega) fun p => ?_
    simp only [Int.toNat_natCast]
    refine taf'.app.cell (by omega) (t := (i : Int)) (by unfold inR; omega) ?_
    simp only [Int.toNat_natCast]
    rw [bW_dec]
    constructor
    · intro hsi
      rw [n_eql, oW_some, bW_dec]
      constructor
      · intro hjs
        rw [bW_true]
        exact set ⟨hd, .inr hsi, .inl (by omega)⟩
      · intro hjs
        refine taf'.app.get (x := (j : Int)) (by unfold inR; omega) fun p => ?_
        simp only [Int.toNat_natCast]
        refine taf'.app.cell (by omega) (t := (s : Int)) (by unfold inR; omega) ?_
        simp only [Int.toNat_natCast]
        rw [bW_dec]
        exact ⟨fun z => set ⟨hd, .inr hsi, .inr z⟩, fun z => skip fun w => w.2.2.elim (fun w => hjs (by omega)) z⟩
    · intro hsi
      rw [bW_false]
      exact skip fun w => w.2.1.elim (fun w => his (by omega)) hsi

end Go.Ax

namespace Go.Proofs
open Go.RowKit Go.Maps Go.Sort Go.Shelf
def Try.keysC_ren : Go.Shelf.Ren := ⟨fun | 7 => 121 | 10 => 142 | n => n, fun | 23 => 89 | 26 => 3 | 3 => 22 | 28 => 97 | 0 => 0 | 27 => 96 | 33 => 94 | 4 => 4 | n => n, fun | n => n⟩
theorem Try.keysC : Go.Proofs.SlLaysZI.n7 Try.prog Try.keysC_ren := {
  mixed := by kernel_rfl
  f7 := ⟨Try.f121.name, by decide, Try.func121.trans (congrArg some (by kernel_rfl))⟩
  f10 := ⟨Try.f142.name, by decide, Try.func142.trans (congrArg some (by kernel_rfl))⟩
  t0 := Try.underlying0
  a0 := Try.isAgg0
  z0 := Try.sizeOf0
  v0 := Try.zeroValue0
  t4 := Try.underlying4
  a4 := Try.isAgg4
  z4 := Try.sizeOf4
  v4 := Try.zeroValue4
  t23 := Try.underlying89
  a23 := Try.isAgg89
  z23 := Try.sizeOf89
  v23 := Try.zeroValue89
  t26 := Try.underlying3
  a26 := Try.isAgg3
  z26 := Try.sizeOf3
  v26 := Try.zeroValue3
  t27 := Try.underlying96
  a27 := Try.isAgg96
  z27 := Try.sizeOf96
  v27 := Try.zeroValue96
  t28 := Try.underlying97
  a28 := Try.isAgg97
  z28 := Try.sizeOf97
  v28 := Try.zeroValue97
  t33 := Try.underlying94
  a33 := Try.isAgg94
  z33 := Try.sizeOf94
  v33 := Try.zeroValue94 }

/-- slices.Sorted at an iterator over a map's keys. -/
theorem Try.sorted_atC {H : Type} (Bm b nn : Nat) (D0 : DataW H) (R : Value → Option (DataW H × List MemPlace)) (w : World) (hBm : Bm < w.heap.size) (hm : w.cell? ⟨Bm, 0, none⟩ = some (.map (some b))) (hown : w.ownsMap Try.prog 3 R b nn D0) (hmax : Maps.size D0 ≤ maxLen) (hbytes : Maps.size D0 * 8 ≤ 140737488355328) :
    Calls Try.prog 64 #[.func (.func 142) #[] #[.pointer (some ⟨Bm, 0, none⟩)]] w fun e w' => ∃ (v : Value) (ss : List Int), e = .returned v ∧ ss.Perm (intKeys D0) ∧
      w'.ownsRow w.heap.size 3 1 v ss.length ((ss.mergeSort (fun x y => decide (x ≤ y))).map encZ) ∧ (v = .slice none 0 0 ↔ ss = []) ∧ Below w.heap.size w w' := by
  refine (callsIn_wide (n := 5)).1 ?_
  have hseq : SeqGives Fence.wide 2 Try.prog 142 #[.pointer (some ⟨Bm, 0, none⟩)] encZ (fun ss => ss.Perm (intKeys D0)) (Maps.size D0) w :=
    AnyZI.keys_gives (ρ := Try.keysC_ren) { Try.keysC with } Fence.wide _ trivial rfl (by omega) Bm b nn D0 _ hBm hm hown
  have cS := AnyZI.sorted_in Try.sortedA Fence.wide 5 trivial trivial trivial trivial rfl (by omega) (Try.sortsA _) (enters_of Try.func107 (by kernel_rfl) rfl) 142 #[.pointer (some ⟨Bm, 0, none⟩)] trivial (enters_of Try.func142 (by kernel_rfl) rfl) _ _ hmax hbytes w hseq
  change CallsIn _ _ Try.prog 64 _ _ _ at cS
  exact cS.mono fun e w' h => h

def Try.copyB_ren : Go.Shelf.Ren := ⟨fun | 5 => 120 | n => n, fun | 23 => 89 | 24 => 89 | 26 => 3 | 27 => 22 | 0 => 0 | 4 => 4 | n => n, fun | n => n⟩
theorem Try.copyB : Go.Proofs.SlLaysX.n5 Try.prog Try.copyB_ren := {
  mixed := by kernel_rfl
  f5 := ⟨Try.f120.name, by decide, Try.func120.trans (congrArg some (by kernel_rfl))⟩
  t0 := Try.underlying0
  a0 := Try.isAgg0
  z0 := Try.sizeOf0
  v0 := Try.zeroValue0
  t4 := Try.underlying4
  a4 := Try.isAgg4
  z4 := Try.sizeOf4
  v4 := Try.zeroValue4
  t23 := Try.underlying89
  a23 := Try.isAgg89
  z23 := Try.sizeOf89
  v23 := Try.zeroValue89
  t24 := Try.underlying89
  a24 := Try.isAgg89
  z24 := Try.sizeOf89
  v24 := Try.zeroValue89
  a26 := Try.isAgg3
  z26 := Try.sizeOf3
  a27 := Try.isAgg22
  z27 := Try.sizeOf22 }

variable {P : Program} {ρ : Go.Shelf.Ren}
set_option maxHeartbeats 4000000 in
set_option maxRecDepth 100000 in
/-- maps.Copy of a map without elements: nothing turns. -/
theorem copy_none (L : SlLaysX.n5 P ρ) (K : Keyed P (ρ.t 26)) (a b n : Nat) (D : DataW Unit) (hD : ∀ kl, Maps.has D kl = false) (w : World) (hd : w.ownsMap P (ρ.t 26) rTrue b n D) :
    Calls P (ρ.f 5) #[.map (some a), .map (some b)] w fun e w' => e = .returned (.tuple #[]) ∧ w.grownBy w' none := by
  have mixed := L.mixed; have t0 := L.t0; have a0 := L.a0; have z0 := L.z0; have v0 := L.v0; have t4 := L.t4; have a4 := L.a4; have z4 := L.z4; have v4 := L.v4; have t23 := L.t23; have a23 := L.a23; have z23 := L.z23; have v23 := L.v23; have t24 := L.t24; have a24 := L.a24; have z24 := L.z24; have v24 := L.v24; have a26 := L.a26; have z26 := L.z26; have a27 := L.a27; have z27 := L.z27
  have hbd := hd.lt
  obtain ⟨_, _, FG⟩ := L.f5
  go_enter FG, SlBodyX.n5_ntmps ρ
  go_wp2_with (first
    | (at_range; refine wpList_range_own _ rfl _ (ρ.t 24) rfl (ρ.t 26) (ρ.t 27) K L.t24 rTrue b n _ rfl hd ?_; intro w0 hrg0 hg0 hs0)
    | go_in)
  go_frame
  go_loopw [8] (fun _ wr => ∃ (left : Lit → Bool) (cnt : Nat), wr.ranges P (ρ.t 26) rTrue b w.heap.size n D left cnt ∧ (∀ kl, left kl = true → Maps.has D kl = true) ∧ w.grownBy wr none)
    (fun _ wr => wr.rangeLeft b w.heap.size)
  case atStart =>
    exact ⟨_, _, hrg0, fun _ h => h, hg0⟩
  case round =>
    obtain ⟨left, cnt, hrg, hleft, hgw⟩ := hrel
    go_wp2_with (first
      | (at_next; refine wpList_next_ranges _ rfl _ rfl (ρ.t 26) K rTrue id (fun _ : Unit => Value.bool true) (fun key _ _ => ⟨key, rfl⟩) (fun v _ hv => ⟨(), (rTrue_inv hv).1⟩) b w.heap.size n _ _ _ rfl hrg ?_ ?_)
      | go_in)
    · intro hc0 hl0
      go_wp2
      go_end0
      exact ⟨rfl, hgw⟩
    · intro x c kl y w1 cnt1 hkey hlx
      have := hleft _ hlx
      rw [hD] at this; cases this

end Go.Proofs

namespace Go.Ax
open Go Go.Proofs Go.RowKit Go.Maps
/-- slices.Sorted at an iterator over the keys of a set of ints. -/
theorem sorted_specC {H : Heap} {i j : Nat} {ks : List Int} {E : List (Int × Value)} (hi : H[i]? = some (.row [.map (some j)] .exact)) (hm : getMap H j = some (encE E)) (hk : E.map (·.1) = ks) (hn : ks.Nodup) (hin : ∀ k ∈ ks, inI k) (hl : ks.length ≤ 1000000000000)
    {Q : Value → Heap → Prop} (hq : ∀ l : List Int, l.Pairwise (· < ·) → (∀ x, x ∈ l ↔ x ∈ ks) → Q (ints l) H) :
    acall Try.prog 64 [.func (.func 142) #[] #[.pointer (some ⟨i, 0, none⟩)]] H Q := by
  refine ⟨⟨_, Try.func64, rfl, rfl⟩, fun B w0 ρ w args' s hr => ?_⟩
  obtain ⟨hlen, hrel⟩ := hr
  have ha : ∃ v', args' = #[v'] := by
    obtain ⟨l⟩ := args'
    match l, hlen with
    | [v'], _ => exact ⟨v', rfl⟩
  obtain ⟨v', rfl⟩ := ha
  have h0 := hrel 0 _ v' rfl rfl
  cases h0 with
  | func fn xs xs' cs cs' hf h1 h2 h3 h4 =>
  have hxs : xs' = #[] := Array.size_eq_zero_iff.1 h1.symm
  subst hxs
  have hcs : ∃ y, cs' = #[y] := by
    obtain ⟨l⟩ := cs'
    match l, h2 with
    | [y], _ => exact ⟨y, rfl⟩
  obtain ⟨y, rfl⟩ := hcs
  have h5 := h4 0 (by simp) (by simp)
  simp only [List.getElem_toArray, List.getElem_cons_zero] at h5
  cases h5 with
  | ptr i off b hb =>
  obtain ⟨b2, hb2, hrow⟩ := s.row i _ _ hi
  rw [hb] at hb2; cases hb2
  have hz := hrow.zero rfl
  obtain ⟨cc, el, fr, l1, l2, l3, l4⟩ := hrow.lies
  obtain ⟨y2, hy2, hr2⟩ := l3 0 (.map (some j)) rfl
  cases hr2 with
  | map j bj hbj =>
  obtain ⟨bj2, hbj2, hmap⟩ := s.map j _ (getMap_eq hm)
  rw [hbj] at hbj2; cases hbj2
  obtain ⟨ents, clock, m1, m2, m3⟩ := hmap.lies
  have hks : ents.toList.map (·.key) = ks.map (Value.int .i64) := by
    apply List.ext_getElem?
    intro q
    rw [List.getElem?_map, List.getElem?_map, ← hk, List.getElem?_map]
    cases he : E[q]? with
    | none =>
      have : E.length ≤ q := List.getElem?_eq_none_iff.1 he
      have h6 : ents.toList[q]? = none := List.getElem?_eq_none (by simp at m2 ⊢; omega)
      rw [h6]; rfl
    | some p =>
      obtain ⟨e, he2, he3, _⟩ := m3 q (.int .i64 p.1, p.2) (by rw [List.getElem?_map, he]; rfl)
      have h6 : ents.toList[q]? = some e := by simpa using he2
      rw [h6]; simp [he3]
  obtain ⟨D0, hown, hperm, hsize⟩ := owns_map (P := Try.prog) (t := 3) Try.underlying3 m1 (hmap.stamp _ _ m1) hks hin hl
  have hcell : w.cell? ⟨b.block, 0, none⟩ = some (.map (some bj.block)) := by
    rw [cell_of l1]; rw [hz] at hy2; exact hy2
  have hlt : b.block < w.heap.size := (s.dom _ _ hb).2.1
  have hc := Try.sorted_atC b.block bj.block ents.size D0 _ w hlt hcell hown (by rw [hsize]; unfold maxLen; omega) (by rw [hsize]; omega)
  have e0 : b.base + 0 = 0 := by omega
  rw [e0]
  refine hc.mono ?_
  rintro e w' ⟨v, ss, rfl, hp, hrw, hnil, hbel⟩
  have hkept : Kept ⟨w.heap.size, fun _ => False⟩ w w' := ⟨hbel.os, hbel.tape, hbel.output, hbel.size, fun k hk => hbel.block k (hk.elim id fun q => q.elim)⟩
  have s' := s.moved hkept
  have hpk : ss.Perm ks := hp.trans hperm
  have hns : ss.Nodup := hpk.nodup_iff.2 hn
  have hsp := List.mergeSort_perm ss fun x y => decide (x ≤ y)
  have hpw : (ss.mergeSort fun x y => decide (x ≤ y)).Pairwise (· < ·) := by
    have h1 : (ss.mergeSort fun x y => decide (x ≤ y)).Pairwise (fun a b => decide (a ≤ b) = true) := List.pairwise_mergeSort (fun a b c h1 h2 => by simp only [decide_eq_true_eq] at *; omega) (fun a b => by simp only [Bool.or_eq_true, decide_eq_true_eq]; omega) ss
    have h2 : (ss.mergeSort fun x y => decide (x ≤ y)).Nodup := hsp.nodup_iff.2 hns
    exact (h1.and h2).imp fun {a b} h => by
      have h3 : a ≤ b := by simpa using h.1
      have := h.2
      omega
  have hQ := hq _ hpw fun x => by rw [hsp.mem_iff, hpk.mem_iff]
  obtain ⟨r1, r2⟩ := hrw
  rcases r2 with ⟨rfl, hz0⟩ | ⟨g, cap, cur, rfl, g1, g2, g3, g4, g5, g6⟩
  · have : ss = [] := List.eq_nil_of_length_eq_zero hz0
    subst this
    refine ⟨ρ, _, _, H, .refl _, rfl, ?_, s', hQ⟩
    rw [show (([] : List Int).mergeSort fun x y => decide (x ≤ y)) = [] by simp]
    exact Rel.lit0 none 0 (fun _ => rfl)
  · have hgn : ρ.frz g = none := by
      cases q : ρ.frz g with
      | none => rfl
      | some c0 => have := s.coldLt q; omega
    refine ⟨ρ.cool g cur, _, _, H, Ren.cool_le hgn, rfl, ?_, s'.cool g2 hgn (fun i b hb q => by have := (s.dom i b hb).2.1; omega) (fun q => by have := s.fle _ q; omega), hQ⟩
    have hsl : (ss.mergeSort fun x y => decide (x ≤ y)).length = ss.length := hsp.length_eq
    have := Rel.litS (ρ := ρ.cool g cur) ((ss.mergeSort fun x y => decide (x ≤ y)).map fun n => Value.int .i64 n).toArray g 0 1 cap cur (by unfold Ren.cool; simp) (by simp [hsl]; omega) (by omega) (fun i p => by simp) (by simp [hsl]; omega) (fun i q p p2 p3 => by
      have hi : i < (ss.mergeSort fun x y => decide (x ≤ y)).length := by simpa using p
      have hq0 : q = 0 := by
        have : (cellsOf ((ss.mergeSort fun x y => decide (x ≤ y)).map fun n => Value.int .i64 n).toArray[i]).length = 1 := by simp
        omega
      subst hq0
      have h7 : cur.toList[i]? = some (.int .i64 (ss.mergeSort fun x y => decide (x ≤ y))[i]) := by
        have h8 : (cur.toList.take (ss.length * 1))[i]? = some (encZ (ss.mergeSort fun x y => decide (x ≤ y))[i]) := by rw [g6]; simp [hi]
        rw [List.getElem?_take] at h8
        split at h8
        · exact h8
        · cases h8
      have h9 : cur[0 + (i * 1 + 0)] = .int .i64 (ss.mergeSort fun x y => decide (x ≤ y))[i] := by
        have h10 : cur[i]? = some (.int .i64 (ss.mergeSort fun x y => decide (x ≤ y))[i]) := by simpa using h7
        have h11 := Array.getElem?_eq_getElem p3
        have e4 : 0 + (i * 1 + 0) = i := by omega
        have h12 : cur[0 + (i * 1 + 0)]? = some (.int .i64 (ss.mergeSort fun x y => decide (x ≤ y))[i]) := by rw [e4]; exact h10
        exact Option.some.inj (h11.symm.trans h12)
      rw [h9]
      simp
      exact .int _ _)
    simp only [List.size_toArray, List.length_map, hsl] at this
    exact this

/-- slices.Sorted of maps.Keys. -/
theorem sortedKeysC_spec {H : Heap} {j : Nat} {E : List (Int × Value)} {s : List Int} {K : Value → Heap → Prop} (hm : getMap H j = some (encE E)) (hk : E.map (·.1) = s) (hn : s.Nodup) (hi : ∀ k ∈ s, inI k) (hl : s.length ≤ 1000000000000)
    (k : ∀ l : List Int, l.Pairwise (· < ·) → (∀ x, x ∈ l ↔ x ∈ s) → ∀ t, K (ints l) (H ++ t)) :
    acall Try.prog F_maps_Keys_map_int_int_int_int [.map (some j)] H fun v h => acall Try.prog F_slices_Sorted_int [v] h K := by
  refine W_maps_Keys_map_int_int_int_int_ok ?_
  unfold W_maps_Keys_map_int_int_int_int
  rw [box_map, hW_some]
  refine gcV_same ?_
  exact sorted_specC (i := H.length) (by simp) (getMap_app hm) hk hn hi hl fun l h1 h2 => k l h1 h2 _

/-- maps.Copy of a map without elements. -/
theorem copyNone_spec {H : Heap} {i j : Nat} {E : List (Value × Value)} (hi : getMap H i = some E) (hj : getMap H j = some []) {Q : Value → Heap → Prop} (hq : Q (.tuple #[]) H) : acall Try.prog 120 [.map (some i), .map (some j)] H Q := by
  refine ⟨⟨_, Try.func120, rfl, rfl⟩, fun B w0 ρ w args' sm hr => ?_⟩
  obtain ⟨hlen, hrel⟩ := hr
  have ha : ∃ u v, args' = #[u, v] := by
    obtain ⟨l⟩ := args'
    match l, hlen with
    | [u, v], _ => exact ⟨u, v, rfl⟩
  obtain ⟨u, v, rfl⟩ := ha
  have r0 := hrel 0 _ u rfl rfl
  have r1 := hrel 1 _ v rfl rfl
  cases r0 with
  | map _ b hb =>
  cases r1 with
  | map _ c hc =>
  obtain ⟨c', hc', ok⟩ := sm.map _ _ (getMap_eq hj)
  rw [hc] at hc'; cases hc'
  obtain ⟨ents, clock, l1, l2, l3⟩ := ok.lies
  have hz : ents = #[] := Array.size_eq_zero_iff.1 (by simpa using l2)
  subst hz
  have own : w.ownsMap Try.prog 3 rTrue c.block 0 (.map []) := ⟨#[], clock, l1, ⟨by unfold maxLen; decide, ok.stamp _ _ l1, fun x hx => by simp at hx⟩, Nat.le_refl _, rfl⟩
  have := copy_none Try.copyB (int_keyed Try.underlying3) b.block c.block 0 (.map []) (fun _ => rfl) w own
  refine this.mono ?_
  rintro e w' ⟨rfl, hg⟩
  have hkept : Kept ⟨w.heap.size, fun _ => False⟩ w w' := ⟨hg.os, hg.tape, hg.output, hg.size, fun k hk => hg.block k (hk.elim id fun q => q.elim) (by simp)⟩
  exact ⟨ρ, _, _, H, .refl _, rfl, Rel.undef ρ, sm.moved hkept, hq⟩

end Go.Ax

namespace Go.Ax
open Go Go.Proofs Go.RowKit

def hitR (g : Gr) (r : List Int) (n : Int) : Prop := ∃ a b, r.drop 1 = a ++ n :: b ∧ emptyR g a ∧ emptyR g b
/-- What was found. -/
def Fnd (g : Gr) (s : Nat) (B : Heap) (D : Int → Prop) (H : Heap) : Prop :=
  ∃ (t : Heap) (E : List (Int × Value)), H = B ++ (.map (encE E) :: t) ∧ (∀ n v, aget E n = some v → ∃ p k m, v = .slice (some ⟨p, 0, none⟩) 1 1 ∧ B.length < p ∧ getRow H p = some ([.int .i64 ((k : Nat) : Int)], m) ∧ k < g.rules.length ∧ lhs (g.rules.getD k []) = s ∧ hitR g (g.rules.getD k []) n) ∧ ∀ n, D n → aget E n ≠ none
def doneB (g : Gr) (by_ : List Int) (q : Nat) (n : Int) : Prop := ∃ q', q' < q ∧ q' < by_.length ∧ hitR g (g.rules.getD (by_.getD q' 0).toNat []) n
def ChTst (I74 : Nat → List Value → Heap → Prop) (k77 : Nat) (M102 : List Value → Heap → Prop) (pre args : List Value) (x85 x80 x94 : Value) (h95 h : Heap) : Prop :=
  (oW (binN .add x94 (.int .i64 1)) fun v105 => (oW (slS 1 h95 x85 (some (.int .i64 1)) (some v105) none) fun v106 => (callW Try.prog x80 [v106] h95 fun v107 h108 => (oW (unA .not v107) fun v109 =>
  (bW v109 (bW (.bool true) (oW (binN .add x94 (.int .i64 1)) fun v110 => (∃ m76, m76 < k77 ∧ gcL h (I74 m76) (pre ++ [v110]) h108)) (gcL h M102 args h108))
  (oW (binN .add x94 (.int .i64 2)) fun v111 => (oW (slS 1 h108 x85 (some v111) none none) fun v112 => (callW Try.prog x80 [v112] h108 fun v113 h114 => (oW (unA .not v113) fun v115 =>
  (bW v115 (oW (binN .add x94 (.int .i64 1)) fun v116 => (∃ m76, m76 < k77 ∧ gcL h (I74 m76) (pre ++ [v116]) h114)) (gcL h M102 args h114)))))))))))
theorem chTst_spec {g : Gr} {I74 : Nat → List Value → Heap → Prop} {k77 : Nat} {M102 : List Value → Heap → Prop} {pre args : List Value} {r : List Int} {f : Value} {j : Nat} {H h : Heap} (va : VoidAt g H f) (h9 : r.length ≤ 9) (hj : j < (r.drop 1).length) (hin : ∀ x ∈ r.drop 1, inR g.n x)
    (skip : ¬ (emptyR g ((r.take (j + 1)).drop 1) ∧ emptyR g (r.drop (j + 2))) → ∃ m76, m76 < k77 ∧ gcL h (I74 m76) (pre ++ [.int .i64 ((j : Int) + 1)]) H) (go : emptyR g ((r.take (j + 1)).drop 1) ∧ emptyR g (r.drop (j + 2)) → gcL h M102 args H) :
    ChTst I74 k77 M102 pre args (ints r) f (.int .i64 (j : Int)) H h := by
  classical
  have hdl : (r.drop 1).length = r.length - 1 := by simp
  have hsp := drop1_split hj
  unfold ChTst
  rw [n_add (by omega), oW_some]
  have es : slS 1 H (ints r) (some (.int .i64 1)) (some (.int .i64 ((j : Int) + 1))) none = some (ints ((r.take (j + 1)).drop 1)) := sl_ints2 (a := 1) (b := j + 1) (by omega) (by omega)
  rw [es, oW_some]
  refine va.call (fun x hx => hin x (by rw [hsp]; exact List.mem_append_left _ hx)) (by rw [List.length_drop, List.length_take]; omega) ?_
  rw [u_not, oW_some, bW_bool]
  constructor
  · intro q
    rw [bW_true, oW_some]
    exact skip fun z => by rw [decide_eq_true z.1] at q; cases q
  · intro q
    have h1 : emptyR g ((r.take (j + 1)).drop 1) := by rw [Bool.not_eq_false'] at q; exact of_decide_eq_true q
    rw [n_add (by omega), oW_some]
    have es2 : slS 1 H (ints r) (some (.int .i64 ((j : Int) + 2))) none none = some (ints (r.drop (j + 2))) := sl_ints (n := j + 2) (by omega)
    rw [es2, oW_some]
    refine va.call (fun x hx => hin x (by rw [hsp]; exact List.mem_append_right _ (List.mem_cons_of_mem _ hx))) (by rw [List.length_drop]; omega) ?_
    rw [u_not, oW_some, bW_bool]
    constructor
    · intro q2
      rw [oW_some]
      exact skip fun z => by rw [decide_eq_true z.2] at q2; cases q2
    · intro q2
      rw [Bool.not_eq_false'] at q2
      exact go ⟨h1, of_decide_eq_true q2⟩
theorem clone_nil {H : Heap} {Q : Value → Heap → Prop} (hq : Q (.slice none 0 0) H) : acall Try.prog F_slices_Clone_int_int [.slice none 0 0] H Q := by
  apply W_slices_Clone_int_int_ok
  unfold W_slices_Clone_int_int
  exact ⟨.bool true, rfl, bW_true.2 (gcV_same hq)⟩
theorem cmp_spec {a b : Int} {H : Heap} {Q : Value → Heap → Prop} (hq : ∀ c : Int, Q (.int .i64 c) H) : acall Try.prog F_cmp_Compare_int [.int .i64 a, .int .i64 b] H Q := by
  apply W_cmp_Compare_int_ok
  unfold W_cmp_Compare_int
  have nan : ∀ {x : Int} {K : Value → Heap → Prop}, K (.bool false) H → callW Try.prog (fn F_cmp_isNaN_int) [.int .i64 x] H K := fun {x K} k => by
    refine callW_plain.2 ?_
    apply W_cmp_isNaN_int_ok
    unfold W_cmp_isNaN_int
    rw [n_neq, oW_some, decide_eq_false (fun q => q rfl)]
    exact gcV_same k
  refine nan (nan ?_)
  rw [bW_false, bW_false, n_lss, oW_some, bW_dec]
  refine ⟨fun _ => gcV_same (hq _), fun _ => ?_⟩
  rw [n_gtr, oW_some, bW_dec]
  exact ⟨fun _ => gcV_same (hq _), fun _ => gcV_same (hq _)⟩
/-- slices.Compare of rows of one. -/
theorem compare1_spec {p q : Nat} {a b : Int} {m m' : Md} {H : Heap} (hp : getRow H p = some ([.int .i64 a], m)) (hb : getRow H q = some ([.int .i64 b], m')) {Q : Value → Heap → Prop} (hq : ∀ c : Int, Q (.int .i64 c) H) :
    acall Try.prog F_slices_Compare_int_int [.slice (some ⟨p, 0, none⟩) 1 1, .slice (some ⟨q, 0, none⟩) 1 1] H Q := by
  apply W_slices_Compare_int_int_ok
  unfold W_slices_Compare_int_int
  have l1 : ∀ p, lenS (.slice (some ⟨p, 0, none⟩) 1 1) = some (.int .i64 (1 : Int)) := fun p => by simp
  rw [l1, oW_some]
  refine ⟨fun m vs A => ∃ i : Nat, vs = [.slice (some ⟨p, 0, none⟩) 1 1, .slice (some ⟨q, 0, none⟩) 1 1, .slice (some ⟨p, 0, none⟩) 1 1, .int .i64 1, .int .i64 (i : Int)] ∧ A = H ∧ m = 1 - i ∧ i ≤ 1, 1, gcL_same ⟨0, rfl, rfl, by omega, by omega⟩, ?_⟩
  rintro k5 x6 x7 x8 x9 x10 h11 ⟨i, hv, rfl, hk, hi⟩
  simp only [List.cons.injEq, and_true] at hv
  obtain ⟨rfl, rfl, rfl, rfl, rfl⟩ := hv
  rw [n_lss, oW_some, bW_dec]
  constructor
  · intro hlt
    have hi0 : i = 0 := by omega
    subst hi0
    have ld : ∀ {p a m} (K : Value → Prop), getRow h11 p = some ([.int .i64 a], m) → K (.int .i64 a) → oW (iaS 1 (.slice (some ⟨p, 0, none⟩) 1 1) (.int .i64 ((0 : Nat) : Int))) fun v => oW (ldW false 1 h11 v) K := fun {p a m} K e k => by
      refine ⟨_, iaS_slice (by omega), ?_⟩
      show oW (ldW false 1 h11 (.pointer (some ⟨p, 0 + 0 * 1, none⟩))) K
      rw [ldW_one, e]
      exact ⟨_, rfl, k⟩
    refine ld _ hp ?_
    rw [l1, oW_some, n_geq, oW_some, bW_dec]
    refine ⟨fun q => absurd q (by omega), fun _ => ld _ hb ?_⟩
    refine callW_plain.2 (cmp_spec fun c => ?_)
    rw [n_neq, oW_some, bW_dec]
    constructor
    · intro _
      exact gcV_same (hq c)
    · intro _
      rw [n_add (by omega), oW_some]
      exact ⟨0, by omega, gcL_same ⟨1, rfl, rfl, by omega, by omega⟩⟩
  · intro _
    rw [l1, oW_some, l1, oW_some, n_lss, oW_some, bW_dec]
    exact ⟨fun _ => gcV_same (hq _), fun _ => gcV_same (hq _)⟩

end Go.Ax

namespace Go.Ax
open Go Go.Proofs Go.RowKit

theorem exA' {a b : Value} : extractA (.tuple #[a, b]) 0 = some a := rfl
theorem exB' {a b : Value} : extractA (.tuple #[a, b]) 1 = some b := rfl
theorem bs1n {H : Heap} {a : Int} : bslW H 1 [(.int .i64 0)] [(0, 1, (.int .i64 a))] = some (.slice (some ⟨H.length, 0, none⟩) 1 1, H ++ [.row [.int .i64 a] .exact]) := by
  simp [bslW, okVal, cellsOf]
theorem ap_nil1 {H : Heap} {a : Int} {K : Value → Heap → Prop} (k : K (.slice (some ⟨H.length + 1, 0, none⟩) 1 1) (H ++ [.row [.int .i64 a] .exact, .row [.int .i64 a] (.grown 1)])) :
    hW (bslW H 1 [(.int .i64 0)] [(0, 1, .int .i64 a)]) fun v1 h1 => hW (apW 1 8 h1 (.slice none 0 0) v1) K := by
  rw [bs1n, hW_some]
  have hr : getRow (H ++ [.row [.int .i64 a] .exact]) H.length = some ([.int .i64 a], .exact) := by rw [row_app0]; rfl
  have e : apW 1 8 (H ++ [.row [.int .i64 a] .exact]) (.slice none 0 0) (.slice (some ⟨H.length, 0, none⟩) 1 1) = some (.slice (some ⟨H.length + 1, 0, none⟩) 1 1, H ++ [.row [.int .i64 a] .exact, .row [.int .i64 a] (.grown 1)]) := by
    simp [apW, srcA, hr]
  rw [e, hW_some]; exact k
section
variable {g : Gr} {s : Nat} {B t : Heap} {E : List (Int × Value)} {D D' : Int → Prop}
def GoodV (g : Gr) (s : Nat) (B H : Heap) (n : Int) (v : Value) : Prop := ∃ p k m, v = .slice (some ⟨p, 0, none⟩) 1 1 ∧ B.length < p ∧ getRow H p = some ([.int .i64 ((k : Nat) : Int)], m) ∧ k < g.rules.length ∧ lhs (g.rules.getD k []) = s ∧ hitR g (g.rules.getD k []) n
theorem GoodV.more {x : List (Value × Value)} {u : Heap} {n : Int} {v : Value} (h : GoodV g s B (B ++ (.map (encE E) :: t)) n v) : GoodV g s B (B ++ (.map x :: (t ++ u))) n v := by
  obtain ⟨p, k, m, e, hp, hr, h1⟩ := h
  refine ⟨p, k, m, e, hp, ?_, h1⟩
  have hlt := getRow_lt hr
  rw [getRow_same (h' := B ++ (.map x :: (t ++ u))) (h := B ++ (.map (encE E) :: t)) ?_]
  · exact hr
  · rw [List.getElem?_append_right (by omega), List.getElem?_append_right (by omega), show p - B.length = (p - B.length - 1) + 1 by omega, List.getElem?_cons_succ, List.getElem?_cons_succ, List.getElem?_append_left (by simp at hlt; omega)]
end
theorem found_map {B t : Heap} {x : List (Value × Value)} : getMap (B ++ (.map x :: t)) B.length = some x := by unfold getMap; simp
theorem found_set {B t : Heap} {x y : List (Value × Value)} : (B ++ (.map x :: t)).set B.length (.map y) = B ++ (.map y :: t) := by simp
abbrev ChV (h : Heap) (f : Value) (s m1 : Nat) : List Value := [.int .i64 (s : Int), .pointer (some ⟨h.length, 0, none⟩), f, .map (some m1)]
def allHit (g : Gr) (s : Nat) (n : Int) : Prop := ∃ r ∈ g.rules, lhs r = s ∧ hitR g r n
def ChI1 (g : Gr) (h B : Heap) (f : Value) (s m1 w : Nat) (m : Nat) (vs : List Value) (H : Heap) : Prop :=
  (m = 1 ∧ vs = ChV h f s m1 ++ [.slice (some ⟨w, 0, none⟩) 1 1] ∧ H = B) ∨ (m = 0 ∧ vs = ChV h f s m1 ++ [ints []] ∧ (∃ t, H = B ++ t) ∧ ∀ j, ¬ g.alone s j)
def ChI2 (g : Gr) (h B : Heap) (f : Value) (s m1 w : Nat) (m : Nat) (vs : List Value) (H : Heap) : Prop :=
  ∃ i : Nat, vs = ChV h f s m1 ++ [.map (some B.length), .slice (some ⟨w, 0, none⟩) 1 1, .int .i64 1, .int .i64 (i : Int)] ∧ Fnd g s B (fun n => i = 1 ∧ allHit g s n) H ∧ m = 1 - i ∧ i ≤ 1
def ChI3 (g : Gr) (h B : Heap) (f : Value) (s m1 w : Nat) (by_ : List Int) (m : Nat) (vs : List Value) (H : Heap) : Prop :=
  ∃ q : Nat, vs = ChV h f s m1 ++ [.map (some B.length), .int .i64 (s : Int), .slice (some ⟨w, 0, none⟩) 1 1, .int .i64 1, .int .i64 ((0 : Nat) : Int), ints by_, .int .i64 (by_.length : Int), .int .i64 (q : Int)] ∧ Fnd g s B (doneB g by_ q) H ∧ m = by_.length - q ∧ q ≤ by_.length
abbrev ChP (h B : Heap) (f : Value) (s m1 w : Nat) (by_ : List Int) (q : Nat) (r : List Int) (k : Nat) : List Value := ChV h f s m1 ++ [.map (some B.length), .int .i64 (s : Int), .int .i64 (k : Int), ints r, .slice (some ⟨w, 0, none⟩) 1 1, .int .i64 1, .int .i64 ((0 : Nat) : Int), ints by_, .int .i64 (by_.length : Int), .int .i64 (q : Int), ints (r.drop 1), .int .i64 ((r.drop 1).length : Int)]
abbrev ChX (h B : Heap) (f : Value) (s m1 w : Nat) (by_ : List Int) (q : Nat) (r : List Int) (k : Nat) (x : Int) (j : Nat) : List Value := ChV h f s m1 ++ [.map (some B.length), .int .i64 (s : Int), .int .i64 (k : Int), ints r, .int .i64 x, .slice (some ⟨w, 0, none⟩) 1 1, .int .i64 1, .int .i64 ((0 : Nat) : Int), ints by_, .int .i64 (by_.length : Int), .int .i64 (q : Int), ints (r.drop 1), .int .i64 ((r.drop 1).length : Int), .int .i64 (j : Int)]
def ChM (g : Gr) (h B : Heap) (f : Value) (s m1 w : Nat) (by_ : List Int) (q : Nat) (r : List Int) (k : Nat) (x : Int) (j : Nat) (a b : List Int) (H0 : Heap) (vs : List Value) (A : Heap) : Prop := vs = ChX h B f s m1 w by_ q r k x j ∧ A = H0 ∧ emptyR g a ∧ emptyR g b
def ChI4 (g : Gr) (h B : Heap) (f : Value) (s m1 w : Nat) (by_ : List Int) (q : Nat) (r : List Int) (k : Nat) (m : Nat) (vs : List Value) (H : Heap) : Prop :=
  ∃ j : Nat, vs = ChP h B f s m1 w by_ q r k ++ [.int .i64 (j : Int)] ∧ Fnd g s B (fun n => doneB g by_ q n ∨ ∃ a b, r.drop 1 = a ++ n :: b ∧ a.length < j ∧ emptyR g a ∧ emptyR g b) H ∧ m = (r.drop 1).length - j ∧ j ≤ (r.drop 1).length
theorem by_row {g : Gr} (ok : g.ok) {s : Nat} {y : Int} (h : y ∈ g.byL (s : Int)) : ∃ (k : Nat) (hk : k < g.rules.length), y = (k : Int) ∧ g.rules.getD k [] = g.rules[k] ∧ lhs g.rules[k] = s := by
  rw [mem_byL] at h
  obtain ⟨h1, h2⟩ := h
  unfold inR at h1
  have hk : y.toNat < g.rules.length := by omega
  have e : g.rules.getD y.toNat [] = g.rules[y.toNat] := by rw [List.getD_eq_getElem?_getD, List.getElem?_eq_getElem hk]; rfl
  refine ⟨y.toNat, hk, by omega, e, ?_⟩
  rw [e] at h2
  unfold hds at h2
  simp only [decide_eq_true_eq] at h2
  unfold lhs; omega
theorem by_all {g : Gr} (ok : g.ok) {s : Nat} {r : List Int} (hr : r ∈ g.rules) (hl : lhs r = s) {n : Int} (hh : hitR g r n) : doneB g (g.byL (s : Int)) (g.byL (s : Int)).length n := by
  obtain ⟨k, hk, rfl⟩ := List.mem_iff_getElem.1 hr
  have hf := ok.fit _ hr
  have e : g.rules.getD k [] = g.rules[k] := by rw [List.getD_eq_getElem?_getD, List.getElem?_eq_getElem hk]; rfl
  have hm : ((k : Nat) : Int) ∈ g.byL (s : Int) := by
    rw [mem_byL]
    refine ⟨by unfold inR; omega, ?_⟩
    rw [Int.toNat_natCast, e]
    unfold hds
    simp only [decide_eq_true_eq]
    have := hf.2.2.1
    have := ok.t0
    unfold Gr.made inR at *
    unfold lhs at hl
    exact ⟨hf.1, by omega⟩
  obtain ⟨q, hq, eq⟩ := List.mem_iff_getElem.1 hm
  refine ⟨q, hq, hq, ?_⟩
  have e2 : (g.byL (s : Int)).getD q 0 = (k : Int) := by rw [List.getD_eq_getElem?_getD, List.getElem?_eq_getElem hq, eq]; rfl
  rw [e2, Int.toNat_natCast, e]; exact hh
theorem hit_alone {g : Gr} {s : Nat} {n : Int} (h : allHit g s n) : g.alone s n.toNat := by
  obtain ⟨r, hr, hl, a, b, e, h1, h2⟩ := h
  exact ⟨r, hr, a, n, b, e, ⟨h1, h2⟩, hl.symm, rfl⟩
theorem aget_all_none {E : List (Int × Value)} (h : ∀ n, aget E n = none) : E = [] := by
  cases E with
  | nil => rfl
  | cons p E => have := h p.1; simp [aget] at this

theorem new_row {B t : Heap} {y : AObj} {a b : AObj} : (B ++ (y :: (t ++ [a, b])))[B.length + 1 + t.length + 1]? = some b := by
  rw [List.getElem?_append_right (by omega), show B.length + 1 + t.length + 1 - B.length = (t.length + 1) + 1 by omega, List.getElem?_cons_succ, List.getElem?_append_right (by omega)]
  simp
theorem fnd_set {g : Gr} {s : Nat} {B t : Heap} {E : List (Int × Value)} {D D' : Int → Prop} {n : Int} {k : Nat} {a : AObj} {m : Md} (hgd : ∀ n v, aget E n = some v → GoodV g s B (B ++ (.map (encE E) :: t)) n v) (hdn : ∀ n, D n → aget E n ≠ none)
    (hk : k < g.rules.length) (hl : lhs (g.rules.getD k []) = s) (hh : hitR g (g.rules.getD k []) n) (hD : ∀ n', D' n' → D n' ∨ n' = n) : Fnd g s B D' (B ++ (.map (encE (aset E n (.slice (some ⟨B.length + 1 + t.length + 1, 0, none⟩) 1 1))) :: (t ++ [a, .row [.int .i64 (k : Int)] m]))) := by
  refine ⟨_, _, rfl, fun n' v q => ?_, fun n' q => ?_⟩
  · rw [aget_aset] at q
    split at q
    · rename_i e
      subst e
      cases q
      exact ⟨_, k, m, rfl, by omega, by unfold getRow; rw [new_row], hk, hl, hh⟩
    · exact (hgd n' v q).more
  · rw [aget_aset]
    split
    · simp
    · rename_i e
      exact hdn n' ((hD n' q).resolve_right e)
theorem fnd_keep {g : Gr} {s : Nat} {B t u : Heap} {E : List (Int × Value)} {D' : Int → Prop} (hgd : ∀ n v, aget E n = some v → GoodV g s B (B ++ (.map (encE E) :: t)) n v) (hD : ∀ n', D' n' → aget E n' ≠ none) : Fnd g s B D' (B ++ (.map (encE E) :: (t ++ u))) :=
  ⟨_, _, rfl, fun n' v q => (hgd n' v q).more, hD⟩

theorem chain_spec {g : Gr} (ok : g.ok) {s : Nat} (hs : s < g.n) (hc : g.alone s s ∨ ∀ j, ¬ g.alone s j) {h : Heap} {Q : Value → Heap → Prop}
    (hit : ∀ k : Nat, k < g.rules.length → lhs (g.rules.getD k []) = s → hitR g (g.rules.getD k []) (s : Int) → Q (ints [(k : Int)]) h) (miss : (∀ j, ¬ g.alone s j) → Q (.slice none 0 0) h) : acall Try.prog F_cycles_Chain [g.enc, .int .i64 (s : Int)] h Q := by
  have hnn := ok.nn
  have hrr := ok.rr
  apply W_cycles_Chain_ok
  unfold W_cycles_Chain
  rw [box_gr, hW_some, GAt.ld .box, oW_some]
  refine callW_plain.2 (cright_spec ok ?_)
  rw [u_not, oW_some, bW_bool]
  refine ⟨(fun q => by cases q), fun _ => ?_⟩
  rw [GAt.ld .box, oW_some]
  refine callW_plain.2 (void_spec ok fun f va => ?_)
  have ga0 : GAt (h ++ [grow g] ++ [grow g, AObj.row [bools g.nullL] .exact]) h.length g := GAt.box.app
  have e0 : ∃ X, h ++ [grow g] ++ [grow g, AObj.row [bools g.nullL] .exact] = h ++ X := ⟨_, List.append_assoc ..⟩
  generalize h ++ [grow g] ++ [grow g, AObj.row [bools g.nullL] .exact] = H0 at *
  rw [letH_eq]
  have m0 : getMap (H0 ++ [AObj.map []]) H0.length = some (encE []) := found_map
  rw [up_int m0, sW_some]
  have e1 : (H0 ++ [AObj.map []]).set H0.length (AObj.map (encE (aset [] (s : Int) (.slice none 0 0)))) = H0 ++ [AObj.map (encE [((s : Int), .slice none 0 0)])] := found_set
  rw [e1, bs1n, hW_some]
  have mB : getMap (H0 ++ [AObj.map (encE [((s : Int), .slice none 0 0)])] ++ [AObj.row [.int .i64 (s : Int)] .exact]) H0.length = some (encE [((s : Int), .slice none 0 0)]) := getMap_app found_map
  have wB : getRow (H0 ++ [AObj.map (encE [((s : Int), .slice none 0 0)])] ++ [AObj.row [.int .i64 (s : Int)] .exact]) (H0 ++ [AObj.map (encE [((s : Int), .slice none 0 0)])]).length = some ([.int .i64 (s : Int)], .exact) := by rw [row_app0]; rfl
  have gB : GAt (H0 ++ [AObj.map (encE [((s : Int), .slice none 0 0)])] ++ [AObj.row [.int .i64 (s : Int)] .exact]) h.length g := ga0.app.app
  have vB : VoidAt g (H0 ++ [AObj.map (encE [((s : Int), .slice none 0 0)])] ++ [AObj.row [.int .i64 (s : Int)] .exact]) f := va.app.app
  have eB : ∃ X, H0 ++ [AObj.map (encE [((s : Int), .slice none 0 0)])] ++ [AObj.row [.int .i64 (s : Int)] .exact] = h ++ X := by obtain ⟨X, rfl⟩ := e0; exact ⟨X ++ ([AObj.map (encE [((s : Int), .slice none 0 0)])] ++ [AObj.row [.int .i64 (s : Int)] .exact]), by simp⟩
  generalize (H0 ++ [AObj.map (encE [((s : Int), .slice none 0 0)])]).length = w at *
  generalize H0 ++ [AObj.map (encE [((s : Int), .slice none 0 0)])] ++ [AObj.row [.int .i64 (s : Int)] .exact] = B at *
  generalize H0.length = m1 at *
  clear m0 e1 ga0 va e0
  have lw : lenS (.slice (some ⟨w, 0, none⟩) 1 1) = some (.int .i64 (1 : Int)) := by simp
  refine ⟨ChI1 g h B f s m1 w, 1, gcL_same (.inl ⟨rfl, rfl, rfl⟩), ?_⟩
  rintro k17 x18 x19 x20 x21 x22 h23 (⟨rfl, hv, rfl⟩ | ⟨rfl, hv, ⟨t, rfl⟩, hno⟩)
  rotate_left
  · simp only [ChV, List.cons_append, List.nil_append, List.cons.injEq, and_true] at hv
    obtain ⟨rfl, rfl, rfl, rfl, rfl⟩ := hv
    rw [lenI, oW_some, n_gtr, oW_some, bW_dec]
    refine ⟨fun q => absurd q (by simp), fun _ => ?_⟩
    obtain ⟨X, rfl⟩ := eB
    rw [List.append_assoc]
    exact gcV_box .nilS (miss hno)
  simp only [ChV, List.cons_append, List.nil_append, List.cons.injEq, and_true] at hv
  obtain ⟨rfl, rfl, rfl, rfl, rfl⟩ := hv
  rw [lw, oW_some, n_gtr, oW_some, bW_dec]
  refine ⟨fun _ => ?_, fun q => absurd (by omega) q⟩
  rw [letH_eq, oW_some]
  refine ⟨ChI2 g h h23 x20 s m1 w, 1, gcL_same ⟨0, rfl, ⟨[], [], rfl, fun n v q => by simp [aget] at q, fun n q => absurd q.1 (by omega)⟩, rfl, by omega⟩, ?_⟩
  rintro k31 x32 x33 x34 x35 x36 x37 x38 x39 h40 ⟨i, hv, fd, hk, hi⟩
  simp only [ChV, List.cons_append, List.nil_append, List.cons.injEq, and_true] at hv
  obtain ⟨rfl, rfl, rfl, rfl, rfl, rfl, rfl, rfl⟩ := hv
  rw [n_lss, oW_some, bW_dec]
  constructor
  · intro hlt
    have hi0 : i = 0 := by omega
    subst hi0
    obtain ⟨t, E, rfl, hgd, hdn⟩ := fd
    refine ⟨_, iaS_slice (by omega), ?_⟩
    show oW (ldW false 1 _ (.pointer (some ⟨w, 0 + 0 * 1, none⟩))) _
    rw [ldW_one, getRow_app wB]
    show oW (some (.int .i64 (s : Int))) _
    rw [oW_some, gB.app.ld, oW_some]
    refine callW_plain.2 (by_spec (by omega) ?_)
    rw [lenI, oW_some]
    refine ⟨ChI3 g h h23 x34 s m1 w (g.byL (s : Int)), (g.byL (s : Int)).length, gcL_same ⟨0, rfl, ⟨t, E, rfl, hgd, fun n ⟨_, q, _⟩ => by omega⟩, rfl, by omega⟩, ?_⟩
    clear hgd hdn
    have hbl := byTo_len (g := g) (x := (s : Int)) (i := g.rules.length)
    rintro k51 x52 x53 x54 x55 x56 x57 x58 x59 x60 x61 x62 x63 h64 ⟨q, hv, fd, hk2, hq⟩
    simp only [ChV, List.cons_append, List.nil_append, List.cons.injEq, and_true] at hv
    obtain ⟨rfl, rfl, rfl, rfl, rfl, rfl, rfl, rfl, rfl, rfl, rfl, rfl⟩ := hv
    have hbl2 : (g.byL (s : Int)).length ≤ 256 := by unfold Gr.byL; omega
    rw [n_lss, oW_some, bW_dec]
    constructor
    · intro hltq
      have hq' : q < (g.byL (s : Int)).length := by omega
      obtain ⟨k, hkl, ek, eg, hlk⟩ := by_row ok (List.getElem_mem hq')
      refine ix_ints hq' ?_
      rw [ek]
      have hgq : (g.byL (s : Int)).getD q 0 = (k : Int) := by rw [List.getD_eq_getElem?_getD, List.getElem?_eq_getElem hq', ek]; rfl
      have gE : GAt h64 h.length g := by obtain ⟨t, E, rfl, _⟩ := fd; exact gB.app
      refine gE.rules (ix_rules hkl ?_)
      have hr : g.rules[k] ∈ g.rules := List.getElem_mem hkl
      have hfit := ok.fit _ hr
      generalize g.rules[k] = r at *
      have hdl : (r.drop 1).length = r.length - 1 := by simp
      have h0 := hfit.1
      have h9 := hfit.2.1
      rw [sl1 h0, oW_some, lenI, oW_some]
      refine ⟨ChI4 g h h23 x54 s m1 w (g.byL (s : Int)) q r k, (r.drop 1).length, gcL_same ⟨0, rfl, ?_, rfl, by omega⟩, ?_⟩
      · obtain ⟨t, E, e, hgd, hdn⟩ := fd
        exact ⟨t, E, e, hgd, fun n z => hdn n (z.resolve_right fun ⟨_, _, _, z, _⟩ => by omega)⟩
      clear fd gE
      rintro k77 x78 x79 x80 x81 x82 x83 x84 x85 x86 x87 x88 x89 x90 x91 x92 x93 x94 h95 ⟨j, hv, fd, hk3, hj⟩
      simp only [ChP, ChV, List.cons_append, List.nil_append, List.cons.injEq, and_true] at hv
      obtain ⟨rfl, rfl, rfl, rfl, rfl, rfl, rfl, rfl, rfl, rfl, rfl, rfl, rfl, rfl, rfl, rfl, rfl⟩ := hv
      rw [n_lss, oW_some, bW_dec]
      constructor
      · intro hltj
        have hj' : j < (r.drop 1).length := by omega
        have hsp := drop1_split hj'
        have hal : ((r.take (j + 1)).drop 1).length = j := by rw [List.length_drop, List.length_take]; omega
        obtain ⟨x, ex⟩ : ∃ x, (r.drop 1)[j] = x := ⟨_, rfl⟩
        obtain ⟨a, ea⟩ : ∃ a, (r.take (j + 1)).drop 1 = a := ⟨_, rfl⟩
        obtain ⟨b, eb⟩ : ∃ b, r.drop (j + 2) = b := ⟨_, rfl⟩
        have hcomp : ∀ n, (doneB g (g.byL (s : Int)) q n ∨ ∃ a b, r.drop 1 = a ++ n :: b ∧ a.length < j + 1 ∧ emptyR g a ∧ emptyR g b) → (doneB g (g.byL (s : Int)) q n ∨ ∃ a b, r.drop 1 = a ++ n :: b ∧ a.length < j ∧ emptyR g a ∧ emptyR g b) ∨ (n = x ∧ emptyR g a ∧ emptyR g b) := fun n z => by
          rcases z with z | ⟨a', b', e, hl, z1, z2⟩
          · exact .inl (.inl z)
          · by_cases hlj : a'.length < j
            · exact .inl (.inr ⟨a', b', e, hlj, z1, z2⟩)
            · rw [hsp] at e
              have := List.append_inj e (by omega)
              simp only [List.cons.injEq] at this
              obtain ⟨q1, q2, q3⟩ := this
              rw [ea] at q1; rw [ex] at q2; rw [eb] at q3
              subst q1 q2 q3
              exact .inr ⟨rfl, z1, z2⟩
        have hitx : emptyR g a ∧ emptyR g b → hitR g r x := fun z => ⟨a, b, by rw [hsp, ea, ex, eb], z.1, z.2⟩
        refine ix_ints hj' ?_
        rw [ex]
        obtain ⟨t, E, rfl, hgd, hdn⟩ := fd
        have mA : ∀ t, getMap (h23 ++ t) m1 = some (encE [((s : Int), .slice none 0 0)]) := fun t => getMap_app mB
        rw [lk_int2 (mA _), oW_some, exA', oW_some, exB', oW_some]
        have tst := chTst_spec (g := g) (I74 := ChI4 g h h23 x80 s m1 w (g.byL (s : Int)) q r k) (k77 := k77) (M102 := ChM g h h23 x80 s m1 w (g.byL (s : Int)) q r k x j a b (h23 ++ (.map (encE E) :: t)))
          (pre := ChP h h23 x80 s m1 w (g.byL (s : Int)) q r k) (args := ChX h h23 x80 s m1 w (g.byL (s : Int)) q r k x j) (j := j) (H := h23 ++ (.map (encE E) :: t)) (h := h) (r := r) (f := x80)
          vB.app h9 hj' hfit.2.2.2 (fun z => by
            rw [ea, eb] at z
            exact ⟨(r.drop 1).length - (j + 1), by omega, gcL_same ⟨j + 1, rfl, ⟨t, E, rfl, hgd, fun n q => hdn n ((hcomp n q).resolve_right fun q => z q.2)⟩, rfl, by omega⟩⟩) (fun z => by
            rw [ea, eb] at z
            exact gcL_same ⟨rfl, rfl, z.1, z.2⟩)
        refine ⟨ChM g h h23 x80 s m1 w (g.byL (s : Int)) q r k x j a b (h23 ++ (.map (encE E) :: t)), ?_, ?_⟩
        rotate_left
        · rintro x129 x130 x131 x132 x133 x134 x135 x136 x137 x138 x139 x140 x141 x142 x143 x144 x145 x146 h147 ⟨hv, rfl, za, zb⟩
          simp only [ChX, ChV, List.cons_append, List.nil_append, List.cons.injEq, and_true] at hv
          obtain ⟨rfl, rfl, rfl, rfl, rfl, rfl, rfl, rfl, rfl, rfl, rfl, rfl, rfl, rfl, rfl, rfl, rfl, rfl⟩ := hv
          rw [lk_int (mA _), show (aget [((s : Int), Value.slice none 0 0)] (s : Int)).getD (.slice none 0 0) = .slice none 0 0 by simp [aget], oW_some]
          refine callW_plain.2 (clone_nil (ap_nil1 ?_))
          have el : (h23 ++ (AObj.map (encE E) :: t)).length + 1 = h23.length + 1 + t.length + 1 := by simp; omega
          rw [el, List.append_assoc, List.cons_append, lk_int2 found_map, oW_some, exA', oW_some, exB', oW_some]
          have hx' := hitx ⟨za, zb⟩
          have hset : Fnd g s h23 (fun n => doneB g (g.byL (s : Int)) q n ∨ ∃ a b, r.drop 1 = a ++ n :: b ∧ a.length < j + 1 ∧ emptyR g a ∧ emptyR g b) (h23 ++ (.map (encE (aset E x (.slice (some ⟨h23.length + 1 + t.length + 1, 0, none⟩) 1 1))) :: (t ++ [.row [.int .i64 (k : Int)] .exact, .row [.int .i64 (k : Int)] (.grown 1)]))) :=
            fnd_set hgd hdn hkl (by rw [eg]; exact hlk) (by rw [eg]; exact hx') fun n' q => (hcomp n' q).imp id fun z => z.1
          cases eo : aget E x with
          | none =>
            show oW (unA .not (.bool false)) _
            rw [u_not, oW_some]
            show bW (.bool true) _ _
            rw [bW_true, bW_true, up_int found_map, sW_some, found_set, n_add (by omega), oW_some]
            exact ⟨(r.drop 1).length - (j + 1), by omega, gcL_same ⟨j + 1, rfl, hset, rfl, by omega⟩⟩
          | some old =>
            show oW (unA .not (.bool true)) _
            rw [u_not, oW_some]
            show bW (.bool false) _ _
            rw [bW_false]
            obtain ⟨p, k', m', rfl, hp, hrow, _⟩ := GoodV.more (g := g) (s := s) (hgd x old eo) (x := encE E) (u := [.row [.int .i64 (k : Int)] .exact, .row [.int .i64 (k : Int)] (.grown 1)])
            refine callW_plain.2 (compare1_spec (a := (k : Int)) (b := (k' : Int)) (m := .grown 1) (m' := m') (by unfold getRow; rw [new_row]) hrow fun c => ?_)
            rw [n_lss, oW_some, bW_dec]
            constructor
            · intro _
              rw [up_int found_map, sW_some, found_set, n_add (by omega), oW_some]
              exact ⟨(r.drop 1).length - (j + 1), by omega, gcL_same ⟨j + 1, rfl, hset, rfl, by omega⟩⟩
            · intro _
              rw [n_add (by omega), oW_some]
              refine ⟨(r.drop 1).length - (j + 1), by omega, gcL_same ⟨j + 1, rfl, fnd_keep hgd fun n' q => ?_, rfl, by omega⟩⟩
              rcases hcomp n' q with z | ⟨rfl, _⟩
              · exact hdn n' z
              · rw [eo]; simp
        · by_cases exs : x = (s : Int)
          · have : (aget [((s : Int), Value.slice none 0 0)] x).isSome = true := by simp [aget, exs]
            rw [this, bW_true, n_neq, oW_some, decide_eq_false (by simp [exs]), bW_false]
            exact tst
          · have : (aget [((s : Int), Value.slice none 0 0)] x).isSome = false := by simp [aget, Ne.symm exs]
            rw [this, bW_false]
            exact tst
      · intro _
        rw [n_add (by omega), oW_some]
        refine ⟨(g.byL (s : Int)).length - (q + 1), by omega, gcL_same ⟨q + 1, rfl, ?_, rfl, by omega⟩⟩
        obtain ⟨t, E, e, hgd, hdn⟩ := fd
        refine ⟨t, E, e, hgd, fun n ⟨q', z1, z2, z3⟩ => hdn n ?_⟩
        by_cases ez : q' = q
        · subst ez
          rw [hgq, Int.toNat_natCast, eg] at z3
          obtain ⟨a, b, e, h1, h2⟩ := z3
          refine .inr ⟨a, b, e, ?_, h1, h2⟩
          have := congrArg List.length e
          rw [List.length_append, List.length_cons] at this; omega
        · exact .inl ⟨q', by omega, z2, z3⟩
    · intro hge
      have hqe : q = (g.byL (s : Int)).length := by omega
      subst hqe
      rw [n_add (by omega), oW_some]
      refine ⟨0, by omega, gcL_same ⟨1, rfl, ?_, rfl, by omega⟩⟩
      obtain ⟨t, E, e, hgd, hdn⟩ := fd
      exact ⟨t, E, e, hgd, fun n ⟨_, r, hr, hl, hh⟩ => hdn n (by_all ok hr hl hh)⟩
  · intro hge
    have hi1 : i = 1 := by omega
    subst hi1
    obtain ⟨t, E, rfl, hgd, hdn⟩ := fd
    rw [lk_int2 found_map, oW_some, exA', oW_some, exB', oW_some]
    cases ev : aget E (s : Int) with
    | some v =>
      show bW (.bool true) _ _
      rw [bW_true]
      obtain ⟨p, k, m, rfl, hp, hrow, hk1, hk2, hk3⟩ := hgd _ _ ev
      obtain ⟨X, rfl⟩ := eB
      rw [List.append_assoc] at hrow ⊢
      refine gcV_end (v2 := ints [(k : Int)]) (Gv.frz1 (fr := frOf h.length []) (i := p) ⟨by simp at hp; omega, by simp⟩ (getRow_eq hrow) rfl fun e he => ?_) (hit k hk1 hk2 hk3)
      simp at he; subst he; exact ⟨rfl, .int _ _⟩
    | none =>
      show bW (.bool false) _ _
      rw [bW_false]
      have hna : ¬ g.alone s s := fun ⟨r, hr, a, x, b, e, ⟨z1, z2⟩, hl, hx⟩ => by
        have hxr := (ok.fit r hr).2.2.2 x (by rw [e]; simp)
        unfold inR at hxr
        have : x = (s : Int) := by omega
        subst this
        exact hdn _ ⟨rfl, r, hr, hl.symm, a, b, e, z1, z2⟩ ev
      have hno := hc.resolve_left hna
      have hE : E = [] := aget_all_none fun n => by
        cases en : aget E n with
        | none => rfl
        | some v =>
          obtain ⟨p, k, m, _, _, _, hk1, hk2, hk3⟩ := hgd _ _ en
          have e : g.rules.getD k [] = g.rules[k] := by rw [List.getD_eq_getElem?_getD, List.getElem?_eq_getElem hk1]; rfl
          rw [e] at hk2 hk3
          exact absurd (hit_alone ⟨_, List.getElem_mem hk1, hk2, hk3⟩) (hno _)
      subst hE
      refine callW_plain.2 (copyNone_spec (getMap_app mB) found_map ?_)
      refine callW_plain.2 ((sortedKeysC_spec (E := []) (s := []) found_map rfl .nil (by simp) (by simp) fun l _ hl t' => ?_).mono fun v h q => callW_plain.2 q)
      have hl0 : l = [] := List.eq_nil_iff_forall_not_mem.2 fun x hx => by simpa using (hl x).1 hx
      subst hl0
      exact ⟨0, by omega, gcL_same (.inr ⟨rfl, rfl, ⟨_, List.append_assoc ..⟩, hno⟩)⟩
end Go.Ax

