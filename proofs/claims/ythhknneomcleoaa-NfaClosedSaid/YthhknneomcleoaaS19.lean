/- The walks of the laws NfaSteps and NfaClosed. -/
import Derived.Test.YthhknneomcleoaaS18
namespace Go.Ax
open Go Go.Proofs Go.RowKit

/-- What is built of a pattern that may be. -/
theorem built_or {n : Nd} (hn : n.Ok 20) (hw : n.wt ≤ 100000000) : n.built = .tuple #[zeroM.enc, .int .i64 70] ∨
    (n.built = .tuple #[n.mach.enc, .int .i64 0] ∧ n.Good ∧ n.mach.ok ∧ n.mach.eps.length ≤ 1000000000 ∧ n.mach.count ≤ 4096 ∧ n.mach.arcs.length ≤ 100000000) := by
  have h64 := (hn.mono (e := 64) (by omega)).1
  have g := good_of h64 hn.2.1
  have gw := pc_by g bs0
  unfold Bs.grows at gw
  unfold Nd.built
  rw [if_pos ⟨h64, hn.2.1⟩]
  by_cases hf : (n.pc bs0).full = true
  · rw [if_pos hf]; exact .inl rfl
  · rw [if_neg hf]
    have hf' : (n.pc bs0).full = false := by simpa using hf
    have e1 : bs0.eps.length = 0 := rfl
    have e2 : bs0.arcs.length = 0 := rfl
    exact .inr ⟨rfl, g, mach_ok g, by simp only [Nd.mach]; omega, mach_count g hf', by simp only [Nd.mach]; omega⟩

theorem mrow_app {h t : Heap} {m : Mch} : ldW true 5 (h ++ [mrow m] ++ t) (.pointer (some ⟨h.length, 0, none⟩)) = some m.enc := by
  rw [ldW_agg, List.append_assoc, row_app0]; rfl
theorem mrow_end {h : Heap} {m : Mch} : ldW true 5 (h ++ [mrow m]) (.pointer (some ⟨h.length, 0, none⟩)) = some m.enc := by
  rw [ldW_agg, row_app0]; rfl

theorem step_len (m : Mch) (l : List Int) (b : Nat) : (m.step l b).length ≤ m.count := clo_len _ _

theorem nfaSteps_walk {code : ByteArray} {l : List Int} {b : Nat} (hcs : code.size ≤ 1000000000000000) (hi : ∀ x ∈ l, inI x) (hll : l.length ≤ 9223372036854775807) (hb : b < 256) {h : Heap} :
    acall Try.prog F_homographlaw06_NfaSteps [.string code, ints l, byte b] h fun v _ => v = .bool true := by
  apply W_homographlaw06_NfaSteps_ok
  unfold W_homographlaw06_NfaSteps
  refine callW_plain.2 (awake_spec fun t => ?_)
  rw [u_not, oW_some, bW_bool]
  refine ⟨(fun q => by cases q), fun _ => ?_⟩
  rw [lenStr_str, oW_some, n_gtr, oW_some, bW_dec]
  constructor
  · intro _
    rw [bW_true]
    exact gcV_same rfl
  intro hc
  rw [lenS_lit, oW_some, n_gtr, oW_some, bW_dec]
  simp only [List.length_map]
  constructor
  · intro _
    exact gcV_same rfl
  intro hl
  refine callW_plain.2 (plainR_spec (by omega) fun n hn hw => callW_plain.2 (build_spec hn.2.2 (by omega) ?_))
  generalize h ++ t = H
  rcases built_or hn hw with e | ⟨e, g, hok, h1, h2, h3⟩
  · rw [e, ex0, ex1, oW_some, oW_some, letH_eq]
    refine boxM ?_
    rw [n_neq, oW_some, bW_dec]
    refine ⟨fun _ => ?_, fun q => absurd (by omega) q⟩
    rw [n_eql, oW_some]
    exact gcV_same (by simp)
  · rw [e, ex0, ex1, oW_some, oW_some, letH_eq]
    generalize n.mach = m at *
    have k0 : ∀ (A : Heap), keptW [] A A := fun A => by rw [keptW_nil]; trivial
    refine boxM ?_
    rw [n_neq, oW_some, bW_dec]
    refine ⟨fun q => absurd rfl q, fun _ => ?_⟩
    rw [mrow_end, oW_some, oW_some]
    have k2 : keptW [.pointer (some ⟨H.length, 0, none⟩), .pointer (some ⟨H.length, 0, none⟩)] (H ++ [mrow m]) (H ++ [mrow m]) := by simp
    have k4 : keptW [.pointer (some ⟨H.length, 0, none⟩), .pointer (some ⟨H.length, 0, none⟩), .pointer (some ⟨H.length, 0, none⟩), .pointer (some ⟨H.length, 0, none⟩)] (H ++ [mrow m]) (H ++ [mrow m]) := by simp
    have c5 : m.count ≤ 5000 := by omega
    refine callW_plain.2 (close_spec hok.1 h1 c5 (by omega) hi ⟨k2, callW_plain.2 (plainL_spec h3 ⟨k2, callW_plain.2 (refClose_spec hok.1 h1 c5 (by omega) ⟨k2, ?_⟩)⟩)⟩)
    have cl := clo_len m l
    refine callW_plain.2 (same_spec (by omega) (by omega) ⟨k2, ?_⟩)
    rw [decide_eq_true rfl, bW_true, mrow_end, oW_some, oW_some]
    refine callW_plain.2 (step_spec hb hok h1 h3 c5 (by omega) ⟨k4, callW_plain.2 (plainL_spec h3 ⟨k4, callW_plain.2 (refStep_spec hb hok h1 h3 c5 (by omega) ⟨k4, ?_⟩)⟩)⟩)
    have sl := step_len m l b
    refine callW_plain.2 (same_spec (by omega) (by omega) ⟨k4, ?_⟩)
    rw [decide_eq_true rfl]
    exact gcV_same rfl

end Go.Ax
