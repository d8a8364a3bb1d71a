/- Sets: more of the plain law. -/
import Derived.Test.YthhknneomcleoaaV1
namespace Go.Ax
open Go Go.Proofs Go.RowKit

theorem mem_take_succ {l : List Int} {j : Nat} (hj : j < l.length) {x : Int} : x ∈ l.take (j + 1) ↔ x ∈ l.take j ∨ l[j] = x := by
  rw [take_succ' hj, List.mem_append, List.mem_singleton]
  exact or_congr Iff.rfl ⟨Eq.symm, Eq.symm⟩
/-- The plain law. -/
theorem firstL_at {g : Gr} {s : Nat} (h : s < g.firstL.length) : g.firstL[s] = riseL (g.n + 1) (g.first s) := by simp [Gr.firstL]
theorem followL_at {g : Gr} {s : Nat} (h : s < g.followL.length) : g.followL[s] = riseL (g.n + 1) (g.follow s) := by simp [Gr.followL]
theorem null_prod {g : Gr} {i : Nat} (h : g.null i) : g.prod i := Dl.mono (fun _ q => .inr q) h
theorem rowE_null {g : Gr} {r : List Int} (hr : r ∈ g.rules) (h : g.rowE (r.drop 1)) : g.null (lhs r) := .mk ⟨r, hr, rfl⟩ fun p hp => by
  unfold rhs at hp
  obtain ⟨x, hx, rfl⟩ := List.mem_map.1 hp
  exact (h x hx).2
theorem rowL_first {g : Gr} (ok : g.ok) {r : List Int} (hr : r ∈ g.rules) (hs : lhs r < g.firstL.length) : ∀ x ∈ g.rowL (r.drop 1), x ∈ g.firstL[lhs r] := fun x hx => by
  unfold Gr.rowL at hx
  rw [firstL_at hs]
  rw [mem_riseL] at hx ⊢
  exact ⟨hx.1, first_rule ok hr (a := []) rfl (by simp) hx.2⟩
theorem start_reach {g : Gr} : g.reach g.start.toNat := .mk (ps := []) (.inl rfl) (by simp)
theorem start_follow {g : Gr} : g.follow g.start.toNat g.n := ⟨Nat.le_refl _, .mk (ps := []) (.inl ⟨rfl, rfl⟩) (by simp)⟩
/-- What rises up to n, n among it, ends with n. -/
theorem riseL_last {n : Nat} {S : Nat → Prop} (h : S n) : ∃ l, riseL (n + 1) S = l ++ [(n : Int)] := by
  classical
  refine ⟨riseL n S, ?_⟩
  unfold riseL
  rw [List.range_succ, List.filter_append, List.map_append]
  simp [h]
theorem lhs_cast {g : Gr} (ok : g.ok) {r : List Int} (hr : r ∈ g.rules) : r.getD 0 0 = (lhs r : Int) := by
  have := (ok.fit r hr).2.2.1
  have := ok.t0
  unfold Gr.made inR at *
  unfold lhs; omega
theorem firstL_num {g : Gr} : g.firstL.length = g.n := by unfold Gr.firstL; simp
theorem followL_num {g : Gr} : g.followL.length = g.n := by unfold Gr.followL; simp
theorem GAt.at4 {H : Heap} {p : Nat} {g : Gr} (a : GAt H p g) : ldW false 1 H (.pointer (some ⟨p, 0 + 4, none⟩)) = some (.int .i64 g.start) := by
  obtain ⟨m, e⟩ := a; rw [ldW_one, e]; rfl

end Go.Ax
