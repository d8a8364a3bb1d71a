/- CyclesAgree: the walk. -/
import Derived.Test.YthhknneomcleoabZ3
namespace Go.Ax
open Go Go.Proofs Go.RowKit

/-! The plain law. -/
theorem alone_ahead {g : Gr} {i j : Nat} (h : g.alone i j) : g.ahead 0 i j := by
  obtain ⟨r, hr, a, x, b, e, ⟨h1, _⟩, z⟩ := h
  exact ⟨r, hr, a, x, b, e, ⟨by omega, h1⟩, z⟩
theorem ahead_ahead {g : Gr} {i j : Nat} (h : g.ahead 1 i j) : g.ahead 0 i j := by
  obtain ⟨r, hr, a, x, b, e, ⟨_, h1⟩, z⟩ := h
  exact ⟨r, hr, a, x, b, e, ⟨by omega, h1⟩, z⟩
theorem hid_left {g : Gr} {s : Nat} (h : g.hid s) : Plus (g.ahead 0) s s := by
  obtain ⟨i, j, d, h1, h2⟩ := h
  have m : Plus (g.ahead 0) i j := .one (ahead_ahead d)
  have m2 : Plus (g.ahead 0) s j := h1.elim (fun e => by rw [← e]; exact m) fun q => q.trans m
  exact h2.elim (fun e => by rw [e] at m2; exact m2) fun q => m2.trans q
theorem plus_first {R : Nat → Nat → Prop} {a b : Nat} (q : Plus R a b) : ∃ c, R a c := by
  cases q with
  | one z => exact ⟨_, z⟩
  | cons z _ => exact ⟨_, z⟩
theorem made_terms {g : Gr} (ok : g.ok) {s : Nat} (h : Plus (g.ahead 0) s s) : g.terms ≤ (s : Int) := by
  obtain ⟨c, r, hr, a, x, b, e, _, rfl, _⟩ := plus_first h
  have := (ok.fit r hr).2.2.1
  unfold Gr.made inR at this
  unfold lhs; omega
def CaThird (I19 : Nat → List Value → Heap → Prop) (k22 : Nat) (x23 x24 x25 x26 x27 : Value) (h28 h : Heap) (Q : Value → Heap → Prop) : Prop :=
  (oW (faW 1 1 x23) fun v45 => (oW (ldW false 1 h28 v45) fun v46 => (oW (binN .lss x27 v46) fun v47 => (bW v47 (oW (iaS 1 x25 x27) fun v48 => (oW (ldW false 1 h28 v48) fun v49 => (bW v49 (gcV h Q (.bool false) h28)
  (oW (binN .add x27 (.int .i64 1)) fun v50 => (∃ m21, m21 < k22 ∧ gcL h (I19 m21) [x23, x24, x25, x26, v50] h28))))) (bW (.bool false) (gcV h Q (.bool false) h28) (oW (binN .add x27 (.int .i64 1)) fun v51 => (∃ m21, m21 < k22 ∧ gcL h (I19 m21) [x23, x24, x25, x26, v51] h28)))))))
def CaI (g : Gr) (h H0 : Heap) (m : Nat) (vs : List Value) (H : Heap) : Prop :=
  ∃ i : Nat, vs = [.pointer (some ⟨h.length, 0, none⟩), bools g.cycL, bools g.leftL, bools g.hidL, .int .i64 (i : Int)] ∧ H = H0 ∧ m = g.n - i ∧ i ≤ g.n

theorem cyclesAgree_walk {code : ByteArray} (hcs : code.size ≤ 1000000000000000) {h : Heap} :
    acall Try.prog F_homographlaw18_CyclesAgree [.string code] h fun v _ => v = .bool true := by
  apply W_homographlaw18_CyclesAgree_ok
  unfold W_homographlaw18_CyclesAgree
  refine callW_plain.2 (awake18_spec ?_)
  rw [u_not, oW_some, bW_bool]
  refine ⟨(fun q => by cases q), fun _ => ?_⟩
  rw [lenStr_str, oW_some, n_gtr, oW_some, bW_dec]
  constructor
  · intro _
    exact gcV_same rfl
  intro hc
  refine callW_plain.2 (made18_spec (by omega) ?_)
  have ok := mkG_ok (bs := bytesN code)
  generalize mkG (bytesN code) = g at *
  have hnn := ok.nn
  rw [letH_eq]
  refine boxG ?_
  have g1 : GAt (h ++ [grow g]) h.length g := GAt.box
  generalize hH : h ++ [grow g] = H at *
  rw [g1.ld, oW_some]
  refine callW_plain.2 (cyclic_spec ok ?_)
  rw [g1.ld, oW_some]
  refine callW_plain.2 (left_spec ok ?_)
  rw [g1.ld, oW_some]
  refine callW_plain.2 (hidden_spec ok ?_)
  have cl : g.cycL.length = g.n := by unfold Gr.cycL; simp
  have ll : g.leftL.length = g.n := by unfold Gr.leftL; simp
  have hl : g.hidL.length = g.n := by unfold Gr.hidL; simp
  have ol : ∀ i, onL g.leftL i ↔ i < g.n ∧ Plus (g.ahead 0) i i := fun i => by unfold Gr.leftL; rw [setL_on]
  refine ⟨CaI g h H, g.n, gcL_same ⟨0, rfl, rfl, by omega, by omega⟩, ?_⟩
  rintro k22 x23 x24 x25 x26 x27 h28 ⟨i, hv, rfl, hk, hi⟩
  simp only [List.cons.injEq, and_true] at hv
  obtain ⟨rfl, rfl, rfl, rfl, rfl⟩ := hv
  refine g1.names ?_
  rw [lenN, oW_some, n_lss, oW_some, bW_dec]
  constructor
  rotate_left
  · intro _
    rw [lenB, oW_some]
    refine g1.names ?_
    rw [lenN, oW_some, n_eql, oW_some, decide_eq_true (by rw [cl])]
    exact gcV_same rfl
  intro hlt
  have hi' : i < g.n := by unfold Gr.n; omega
  have hin : inR g.n (i : Int) := by unfold inR; omega
  have third : CaThird (CaI g h h28) k22 (.pointer (some ⟨h.length, 0, none⟩)) (bools g.cycL) (bools g.leftL) (bools g.hidL) (.int .i64 (i : Int)) h28 h fun v _ => v = .bool true := by
    unfold CaThird
    refine g1.terms ?_
    rw [n_lss, oW_some, bW_dec]
    constructor
    · intro hlt2
      refine ix_bool ll hin ?_
      have no : ¬ onL g.leftL (i : Int).toNat := fun q => by
        have := made_terms ok ((ol _).1 q).2
        omega
      rw [decide_eq_false no, bW_false, n_add (by omega), oW_some]
      exact ⟨g.n - (i + 1), by omega, gcL_same ⟨i + 1, rfl, rfl, rfl, by omega⟩⟩
    · intro _
      rw [bW_false, n_add (by omega), oW_some]
      exact ⟨g.n - (i + 1), by omega, gcL_same ⟨i + 1, rfl, rfl, rfl, by omega⟩⟩
  have left : ∀ {K1 K2 : Prop}, onL g.leftL (i : Int).toNat → K2 → oW (iaS 1 (bools g.leftL) (.int .i64 (i : Int))) fun v => oW (ldW false 1 h28 v) fun w => oW (unA .not w) fun u => bW u K1 K2 := fun ho k => by
    refine ix_bool ll hin ?_
    rw [decide_eq_true ho, u_not, oW_some, bW_bool]
    exact ⟨(fun q => by cases q), fun _ => k⟩
  have hidden : ∀ {P : Prop}, P → (onL g.hidL (i : Int).toNat → onL g.leftL (i : Int).toNat) := fun _ q => by
    unfold Gr.hidL at q
    rw [setL_on] at q
    rw [ol]
    exact ⟨q.1, hid_left q.2⟩
  refine ix_bool cl hin ?_
  rw [bW_dec]
  constructor
  · intro ha
    have hlo : onL g.leftL (i : Int).toNat := by
      unfold Gr.cycL at ha
      rw [setL_on] at ha
      rw [ol]
      exact ⟨ha.1, Plus.mono (fun _ _ => alone_ahead) ha.2⟩
    refine left hlo (ix_bool hl hin ?_)
    rw [bW_dec]
    constructor
    · intro _
      exact left hlo third
    · intro _
      rw [bW_false]
      exact third
  · intro _
    refine ix_bool hl hin ?_
    rw [bW_dec]
    constructor
    · intro hh
      exact left (hidden trivial hh) third
    · intro _
      rw [bW_false]
      exact third

end Go.Ax
