/- Specs: patterns as values; the functions that make them. -/
import Derived.Test.YthhknneomcleoaaS1
namespace Go.Ax
open Go Go.Proofs Go.RowKit

/-- A pattern. -/
inductive Nd where
  | mk (op : Int) (set : BS) (mn mx : Int) (kids : List Nd)

mutual
def Nd.enc : Nd → Value
  | .mk op s mn mx ks => .agg #[.int .i64 op, w64 s.a, w64 s.b, w64 s.c, w64 s.d, .int .i64 mn, .int .i64 mx, lit (Nd.encs ks)]
def Nd.encs : List Nd → List Value
  | [] => []
  | k :: ks => k.enc :: Nd.encs ks
end
theorem Nd.encs_eq : ∀ l : List Nd, Nd.encs l = l.map Nd.enc
  | [] => rfl
  | k :: ks => by rw [Nd.encs, Nd.encs_eq ks]; rfl
theorem Nd.enc_mk {op : Int} {s : BS} {mn mx : Int} {ks : List Nd} : (Nd.mk op s mn mx ks).enc = .agg #[.int .i64 op, w64 s.a, w64 s.b, w64 s.c, w64 s.d, .int .i64 mn, .int .i64 mx, lit (ks.map Nd.enc)] := by
  rw [Nd.enc, Nd.encs_eq]
theorem Nd.enc_agg (n : Nd) : ∃ cs, n.enc = .agg cs ∧ cs.size = 8 := by cases n; exact ⟨_, by rw [Nd.enc], rfl⟩
theorem Nd.enc_okv (n : Nd) : okVal n.enc = true := by obtain ⟨cs, e, _⟩ := n.enc_agg; rw [e]; rfl
theorem Nd.enc_len (n : Nd) : (cellsOf n.enc).length = 8 := by obtain ⟨cs, e, h⟩ := n.enc_agg; rw [e]; simpa using h
theorem Nd.enc_ok (n : Nd) : (cellsOf n.enc).all okCell = true := by cases n; simp [Nd.enc]
mutual
theorem Nd.cl : ∀ n : Nd, Cl n.enc
  | .mk op s mn mx ks => by
    rw [Nd.enc]
    refine .agg _ ?_
    simp
    exact ⟨.int _ _, .int _ _, .int _ _, .int _ _, .int _ _, .int _ _, .int _ _, Cl.lits (Nd.cls ks)⟩
theorem Nd.cls : ∀ l : List Nd, ∀ e ∈ Nd.encs l, okVal e = true ∧ Cl e
  | [], e, h => by simp [Nd.encs] at h
  | k :: ks, e, h => by
    rw [Nd.encs] at h
    rcases List.mem_cons.1 h with rfl | h
    · exact ⟨k.enc_okv, k.cl⟩
    · exact Nd.cls ks e h
end
theorem Nd.cells_cl (n : Nd) : ∀ x ∈ cellsOf n.enc, Cl x := n.cl.cells n.enc_okv
theorem Nd.map_len {l : List Nd} : ∀ x ∈ l.map Nd.enc, (cellsOf x).length = 8 := fun x hx => by
  obtain ⟨n, _, rfl⟩ := List.mem_map.1 hx; exact n.enc_len
theorem Nd.map_cl {l : List Nd} : ∀ e ∈ l.map Nd.enc, ∀ x ∈ cellsOf e, Cl x := fun e he x hx => by
  obtain ⟨n, _, rfl⟩ := List.mem_map.1 he; exact n.cells_cl x hx
theorem Nd.map_ok {l : List Nd} : ∀ x ∈ l.map Nd.enc, (cellsOf x).all okCell = true := fun x hx => by
  obtain ⟨n, _, rfl⟩ := List.mem_map.1 hx; exact n.enc_ok
theorem Nd.list_cl {l : List Nd} : Cl (lit (l.map Nd.enc)) := Cl.lit' Nd.map_cl

/-- A value of parts, part by part. -/
theorem Gv.aggL {fr : Nat → Prop} {r : Nat → Option Nat} {h : Heap} {xs ys : List Value} (g : GvL fr r h xs ys) : Gv fr r h (.agg xs.toArray) (.agg ys.toArray) :=
  .agg _ _ (by simpa using g.length) fun i p q => g.get (k := i) (by simp) (by simp)
theorem Gv.tupL {fr : Nat → Prop} {r : Nat → Option Nat} {h : Heap} {xs ys : List Value} (h0 : xs.length ≠ 1) (g : GvL fr r h xs ys) : Gv fr r h (.tuple xs.toArray) (.tuple ys.toArray) :=
  .tuple _ _ (by simpa using h0) (by simpa using g.length) fun i p q => g.get (k := i) (by simp) (by simp)

/-- homographref02.Set -/
theorem setN_spec {s : BS} {h : Heap} {Q : Value → Heap → Prop} (hq : Q (Nd.mk 0 s 0 0 []).enc h) : acall Try.prog F_homographref02_Set [s.enc] h Q := by
  apply W_homographref02_Set_ok
  unfold W_homographref02_Set
  simp
  refine gcV_end (Gv.aggL (xs := [_, _, _, _, _, _, _, _]) ⟨.cl (.int _ _), .cl (.int _ _), .cl (.int _ _), .cl (.int _ _), .cl (.int _ _), .cl (.int _ _), .cl (.int _ _), .lit0 _ _, trivial⟩) ?_
  rw [Nd.enc_mk] at hq; exact hq

theorem Nd.cl_mk {op : Int} {s : BS} {mn mx : Int} {ks : List Nd} : Cl (.agg #[.int .i64 op, w64 s.a, w64 s.b, w64 s.c, w64 s.d, .int .i64 mn, .int .i64 mx, lit (ks.map Nd.enc)]) := by
  have := (Nd.mk op s mn mx ks).cl
  rwa [Nd.enc_mk] at this

/-- homographref02.Many -/
theorem many_spec {op : Int} {ks : List Nd} {h : Heap} {Q : Value → Heap → Prop} (hq : Q (Nd.mk op BS.none 0 0 ks).enc h) : acall Try.prog F_homographref02_Many [.int .i64 op, lit (ks.map Nd.enc)] h Q := by
  apply W_homographref02_Many_ok
  unfold W_homographref02_Many
  simp
  rw [Nd.enc_mk] at hq
  exact gcV_end (.cl (Nd.cl_mk (s := BS.none))) hq

theorem app_get {h t : Heap} {k : Nat} : (h ++ t)[h.length + k]? = t[k]? := by rw [List.getElem?_append_right (by omega), Nat.add_sub_cancel_left]

/-- homographref02.Rep -/
theorem rep_spec {n : Nd} {a b : Int} {h : Heap} {Q : Value → Heap → Prop} (hq : Q (Nd.mk 3 BS.none a b [n]).enc h) : acall Try.prog F_homographref02_Rep [n.enc, .int .i64 a, .int .i64 b] h Q := by
  apply W_homographref02_Rep_ok
  unfold W_homographref02_Rep
  rw [Nd.enc_mk] at hq
  cases n with
  | mk op s mn mx ks =>
    rw [Nd.enc_mk]
    simp [bslW]
    refine gcV_end ?_ hq
    refine Gv.aggL (xs := [_, _, _, _, _, _, _, lit [(Nd.mk op s mn mx ks).enc]]) ⟨.cl (.int _ _), .cl (.int _ _), .cl (.int _ _), .cl (.int _ _), .cl (.int _ _), .cl (.int _ _), .cl (.int _ _), ?_, trivial⟩
    exact Gv.frz (sz := 8) ⟨by omega, by simp⟩ (app_get (k := 2)) (by omega) (Nd.map_len (l := [_])) (by rw [Nd.enc_mk]; simp) rfl (Nd.map_cl (l := [_]))

end Go.Ax
