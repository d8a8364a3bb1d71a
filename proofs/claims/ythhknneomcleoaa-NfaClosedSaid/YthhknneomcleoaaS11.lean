/- Specs: the builder of machines. -/
import Derived.Test.YthhknneomcleoaaS10
namespace Go.Ax
open Go Go.Proofs Go.RowKit

/-- What the builder holds. -/
structure Bs where
  count : Nat
  eps : List (Int × Int)
  arcs : List (Int × Int × BS)
  full : Bool
def Bs.eps1 (s : Bs) (a b : Nat) : Bs := { s with eps := s.eps ++ [((a : Int), (b : Int))] }
def Bs.new (s : Bs) : Bs := { s with count := s.count + 2, full := s.full || decide (4096 < s.count + 2) }
def onF (f : Bs → Bs) (p : Bs × Nat) : Bs × Nat := ((f p.1).eps1 p.2 p.1.count, p.1.count + 1)
def rpt {α : Type} (f : α → α) : Nat → α → α
  | 0, a => a
  | k + 1, a => f (rpt f k a)
def againF (f : Bs → Bs) (mn mx : Int) (e : Nat) (p : Bs × Nat) : Bs × Nat :=
  let q := rpt (onF f) mn.toNat p
  if mx < 0 then (((onF f q).1.eps1 (q.1.count + 1) q.1.count).eps1 (q.1.count + 1) e, q.2)
  else rpt (fun p => onF f (p.1.eps1 p.2 e, p.2)) (mx - mn).toNat q
def altF (b e : Nat) (s : Bs) (f : Bs → Bs) : Bs := ((f s).eps1 b s.count).eps1 (s.count + 1) e
def body (op : Int) (set : BS) (mn mx : Int) (fs : List (Bs → Bs)) (s0 : Bs) : Bs :=
  let b := s0.count
  let s := s0.new
  if s.full = true then s
  else if op = 0 then { s with arcs := s.arcs ++ [((b : Int), ((b + 1 : Nat) : Int), set)] }
  else if op = 2 then fs.foldl (altF b (b + 1)) s
  else if op = 1 then (fun p : Bs × Nat => p.1.eps1 p.2 (b + 1)) (fs.foldl (fun p f => onF f p) (s, b))
  else match fs with
    | [] => s
    | f :: _ => (fun p : Bs × Nat => p.1.eps1 p.2 (b + 1)) (againF f mn mx (b + 1) (s, b))
mutual
def Nd.pc : Nd → Bs → Bs
  | .mk op s mn mx ks => body op s mn mx (Nd.pcs ks)
def Nd.pcs : List Nd → List (Bs → Bs)
  | [] => []
  | k :: ks => Nd.pc k :: Nd.pcs ks
end
theorem Nd.pcs_eq : ∀ {l : List Nd}, Nd.pcs l = l.map Nd.pc
  | [] => rfl
  | k :: ks => by rw [Nd.pcs, Nd.pcs_eq]; rfl
theorem Nd.pc_mk {op : Int} {s : BS} {mn mx : Int} {ks : List Nd} : (Nd.mk op s mn mx ks).pc = body op s mn mx (ks.map Nd.pc) := by rw [Nd.pc, Nd.pcs_eq]

/- How many pieces there may be. -/
mutual
def Nd.wt : Nd → Nat
  | .mk op _ mn mx ks => 1 + (if op = 3 then (mn.toNat + (mx - mn).toNat + 1) * Nd.wts ks else Nd.wts ks)
def Nd.wts : List Nd → Nat
  | [] => 0
  | k :: ks => Nd.wt k + Nd.wts ks
end

/-- Patterns that the builder takes. -/
inductive Nd.Good : Nd → Prop
  | set {s : BS} {mn mx : Int} : Nd.Good (.mk 0 s mn mx [])
  | cat {s : BS} {mn mx : Int} {ks : List Nd} (h : ∀ k ∈ ks, Nd.Good k) : Nd.Good (.mk 1 s mn mx ks)
  | alt {s : BS} {mn mx : Int} {ks : List Nd} (h : ∀ k ∈ ks, Nd.Good k) : Nd.Good (.mk 2 s mn mx ks)
  | rep {s : BS} {mn mx : Int} {k : Nd} (h : Nd.Good k) (h1 : 0 ≤ mn) (h2 : mn ≤ 32) (h3 : mx ≤ 32) (h4 : mx < 0 ∨ mn ≤ mx) : Nd.Good (.mk 3 s mn mx [k])

/-- How much a state may still grow. -/
def Bs.fits (s : Bs) (w : Nat) : Prop := s.count + 4 * w ≤ 1000000000000 ∧ s.eps.length + 4 * w ≤ 1000000000000 ∧ s.arcs.length + 4 * w ≤ 1000000000000
/-- What a step adds at most: so many pieces, so many steps by nothing less. -/
def Bs.grows (s s' : Bs) (w d : Nat) : Prop := s'.count ≤ s.count + 2 * w ∧ s'.eps.length + d ≤ s.eps.length + 4 * w ∧ s'.arcs.length ≤ s.arcs.length + w

theorem Bs.eps1_eps {s : Bs} {a b : Nat} : (s.eps1 a b).eps.length = s.eps.length + 1 := by simp [Bs.eps1]
theorem Bs.eps1_count {s : Bs} {a b : Nat} : (s.eps1 a b).count = s.count := rfl
theorem Bs.eps1_arcs {s : Bs} {a b : Nat} : (s.eps1 a b).arcs = s.arcs := rfl
theorem Bs.new_count {s : Bs} : s.new.count = s.count + 2 := rfl
theorem Bs.new_eps {s : Bs} : s.new.eps = s.eps := rfl
theorem Bs.new_arcs {s : Bs} : s.new.arcs = s.arcs := rfl

theorem pc_full {n : Nd} {s : Bs} (h : s.new.full = true) : n.pc s = s.new := by
  cases n; rw [Nd.pc_mk]; simp only [body]; rw [if_pos h]
theorem pc_set {st : BS} {mn mx : Int} {ks : List Nd} {s : Bs} (h : ¬ s.new.full = true) : (Nd.mk 0 st mn mx ks).pc s = { s.new with arcs := s.arcs ++ [((s.count : Int), ((s.count + 1 : Nat) : Int), st)] } := by
  rw [Nd.pc_mk]; simp only [body]; rw [if_neg h, if_pos trivial]; rfl
theorem pc_alt {st : BS} {mn mx : Int} {ks : List Nd} {s : Bs} (h : ¬ s.new.full = true) : (Nd.mk 2 st mn mx ks).pc s = (ks.map Nd.pc).foldl (altF s.count (s.count + 1)) s.new := by
  rw [Nd.pc_mk]; simp only [body]; rw [if_neg h, if_neg (by omega), if_pos trivial]
theorem pc_cat {st : BS} {mn mx : Int} {ks : List Nd} {s : Bs} (h : ¬ s.new.full = true) : (Nd.mk 1 st mn mx ks).pc s = (fun p : Bs × Nat => p.1.eps1 p.2 (s.count + 1)) ((ks.map Nd.pc).foldl (fun p f => onF f p) (s.new, s.count)) := by
  rw [Nd.pc_mk]; simp only [body]; rw [if_neg h, if_neg (by omega), if_neg (by omega), if_pos trivial]
theorem pc_rep {st : BS} {mn mx : Int} {k : Nd} {s : Bs} (h : ¬ s.new.full = true) : (Nd.mk 3 st mn mx [k]).pc s = (fun p : Bs × Nat => p.1.eps1 p.2 (s.count + 1)) (againF k.pc mn mx (s.count + 1) (s.new, s.count)) := by
  rw [Nd.pc_mk]; simp only [body, List.map_cons]; rw [if_neg h, if_neg (by omega), if_neg (by omega), if_neg (by omega)]

theorem onF_by {f : Bs → Bs} {w : Nat} (hf : ∀ s : Bs, s.grows (f s) w 3) (p : Bs × Nat) : p.1.grows (onF f p).1 w 2 := by
  have := hf p.1
  unfold Bs.grows at *
  simp only [onF, Bs.eps1_eps, Bs.eps1_count, Bs.eps1_arcs]; omega
theorem rpt_by {g : Bs × Nat → Bs × Nat} {w : Nat} (hg : ∀ p : Bs × Nat, p.1.grows (g p).1 w 0) : ∀ (n : Nat) (p : Bs × Nat), p.1.grows (rpt g n p).1 (n * w) 0
  | 0, p => by unfold Bs.grows; simp [rpt]
  | n + 1, p => by
    have h1 := rpt_by hg n p
    have h2 := hg (rpt g n p)
    unfold Bs.grows at *
    have e : (n + 1) * w = n * w + w := Nat.succ_mul n w
    rw [rpt, e]; omega
theorem foldAlt_by {b e : Nat} : ∀ {ks : List Nd} {s : Bs}, (∀ k ∈ ks, ∀ s : Bs, s.grows (k.pc s) k.wt 3) → s.grows ((ks.map Nd.pc).foldl (altF b e) s) (Nd.wts ks) 0
  | [], s, _ => by unfold Bs.grows; simp [Nd.wts]
  | k :: ks, s, h => by
    rw [List.map_cons, List.foldl_cons, Nd.wts]
    have h1 := h k (by simp) s
    have h2 := foldAlt_by (ks := ks) (s := altF b e s k.pc) (fun k hk => h k (by simp [hk])) (b := b) (e := e)
    unfold Bs.grows at *
    simp only [altF, Bs.eps1_eps, Bs.eps1_count, Bs.eps1_arcs] at h1 h2 ⊢
    omega
theorem foldCat_by : ∀ {ks : List Nd} {p : Bs × Nat}, (∀ k ∈ ks, ∀ s : Bs, s.grows (k.pc s) k.wt 3) → p.1.grows ((ks.map Nd.pc).foldl (fun p f => onF f p) p).1 (Nd.wts ks) 0
  | [], s, _ => by unfold Bs.grows; simp [Nd.wts]
  | k :: ks, s, h => by
    rw [List.map_cons, List.foldl_cons, Nd.wts]
    have h1 := onF_by (h k (by simp)) s
    have h2 := foldCat_by (ks := ks) (p := onF k.pc s) (fun k hk => h k (by simp [hk]))
    unfold Bs.grows at *
    omega

theorem Nd.wt_pos {n : Nd} : 1 ≤ n.wt := by cases n; rw [Nd.wt]; omega
theorem pc_by {n : Nd} (g : n.Good) : ∀ s : Bs, s.grows (n.pc s) n.wt 3 := by
  induction g with
  | @set st mn mx =>
    intro s
    by_cases hf : s.new.full = true
    · rw [pc_full hf]; simp [Bs.grows, Nd.wt, Nd.wts, Bs.new]
    · rw [pc_set hf]; simp [Bs.grows, Nd.wt, Nd.wts, Bs.new]
  | @cat st mn mx ks h ih =>
    intro s
    have h1 := foldCat_by (p := (s.new, s.count)) ih
    have h0 := Nd.wt_pos (n := .mk 1 st mn mx ks)
    by_cases hf : s.new.full = true
    · rw [pc_full hf]; simp [Bs.grows, Bs.new]; omega
    · rw [pc_cat hf]
      simp only [Nd.wt]
      rw [if_neg (by omega)]
      unfold Bs.grows at *
      simp only [Bs.eps1_eps, Bs.eps1_count, Bs.eps1_arcs, Bs.new_count, Bs.new_eps, Bs.new_arcs] at h1 ⊢
      omega
  | @alt st mn mx ks h ih =>
    intro s
    have h1 := foldAlt_by (b := s.count) (e := s.count + 1) (s := s.new) ih
    have h0 := Nd.wt_pos (n := .mk 2 st mn mx ks)
    by_cases hf : s.new.full = true
    · rw [pc_full hf]; simp [Bs.grows, Bs.new]; omega
    · rw [pc_alt hf]
      simp only [Nd.wt]
      rw [if_neg (by omega)]
      unfold Bs.grows at *
      simp only [Bs.new_count, Bs.new_eps, Bs.new_arcs] at h1 ⊢
      omega
  | @rep st mn mx k h h1 h2 h3 h4 ih =>
    intro s
    have h0 := Nd.wt_pos (n := .mk 3 st mn mx [k])
    by_cases hf : s.new.full = true
    · rw [pc_full hf]; simp [Bs.grows, Bs.new]; omega
    · rw [pc_rep hf]
      simp only [Nd.wt, Nd.wts, Nat.add_zero]
      rw [if_pos trivial, Nat.add_mul, Nat.add_mul, Nat.one_mul]
      have a1 := rpt_by (g := onF k.pc) (w := k.wt) (fun p => by have := onF_by ih p; unfold Bs.grows at *; omega) mn.toNat (s.new, s.count)
      have a2 := onF_by ih (rpt (onF k.pc) mn.toNat (s.new, s.count))
      have a3 := rpt_by (g := fun p => onF k.pc (p.1.eps1 p.2 (s.count + 1), p.2)) (w := k.wt) (fun p => by
        have := onF_by ih (p.1.eps1 p.2 (s.count + 1), p.2)
        unfold Bs.grows at *
        simp only [Bs.eps1_eps, Bs.eps1_count, Bs.eps1_arcs] at this
        omega) (mx - mn).toNat (rpt (onF k.pc) mn.toNat (s.new, s.count))
      simp only [againF]
      unfold Bs.grows at *
      split
      · simp only [Bs.eps1_eps, Bs.eps1_count, Bs.eps1_arcs, Bs.new_count, Bs.new_eps, Bs.new_arcs] at a1 a2 ⊢
        omega
      · simp only [Bs.eps1_eps, Bs.eps1_count, Bs.eps1_arcs, Bs.new_count, Bs.new_eps, Bs.new_arcs] at a1 a3 ⊢
        omega


/-! In memory. -/
/-- One element more, wherever the row lies; with what is kept between. -/
theorem Acc.pushK {sz bytes n : Nat} {H : Heap} {v e : Value} {l zs : List Value} (hn : n ≤ H.length) (a : Acc sz n H v l) (hs : 0 < sz) (hz : ∀ x ∈ l, (cellsOf x).length = sz) (he : (cellsOf e).length = sz) (hk : okVal e = true) (hok : (cellsOf e).all okCell = true)
    (hzs : zs.length = sz) (hb : (l.length + 1) * bytes ≤ 140737488355328) (h63 : l.length + 1 ≤ 9223372036854775807) {A : Heap → Prop} {C : Heap → Heap → Prop} {K : Value → Heap → Prop}
    (k : ∀ o, A (H ++ [o]) ∧ ∀ v' H', Acc sz n H' v' (l ++ [e]) → (∀ j, j < H.length → ¬ lies v j → H'[j]? = H[j]?) → (∀ j, lies v' j → lies v j ∨ H.length ≤ j) → H.length ≤ H'.length → C (H ++ [o]) H' ∧ K v' H') :
    hW (bslW H 1 zs [(0, sz, e)]) fun v1 h1 => A h1 ∧ hW (apW sz bytes h1 v v1) fun v' h' => C h1 h' ∧ K v' h' := by
  refine bsl1 he hk hzs ⟨(k _).1, ?_⟩
  have hB : (H.take n).length = n := by simp; omega
  have eH : H ++ [AObj.row (cellsOf e) .exact] = H.take n ++ (H.drop n ++ [AObj.row (cellsOf e) .exact]) := by rw [← List.append_assoc, List.take_append_drop]
  have hsrc := src1 (H := H) (e := e) he
  have a2 := a.app (t := [AObj.row (cellsOf e) .exact])
  rw [eH] at hsrc a2
  have key := Acc.more (bytes := bytes) hB a2 hs hz (es := [e]) (by simpa using he) (by simpa using hok) hsrc (by simpa using hb) (by simpa using h63) (K := fun v' h' => C (H ++ [AObj.row (cellsOf e) .exact]) h' ∧ K v' h') fun v' g' a' f1 f2 f3 => by
    rw [← eH] at f1 f2 f3
    refine (k (AObj.row (cellsOf e) .exact)).2 v' _ a' (fun j hj hq => ?_) (fun j hj => ?_) (by simp at f3 ⊢; omega)
    · rw [f1 j (by simp; omega) hq, List.getElem?_append_left hj]
    · exact (f2 j hj).imp id fun q => by simp at q; omega
  rw [← eH] at key
  exact key

theorem Acc.pushT {sz bytes n : Nat} {H : Heap} {v e : Value} {l zs : List Value} (hn : n ≤ H.length) (a : Acc sz n H v l) (hs : 0 < sz) (hz : ∀ x ∈ l, (cellsOf x).length = sz) (he : (cellsOf e).length = sz) (hk : okVal e = true) (hok : (cellsOf e).all okCell = true)
    (hzs : zs.length = sz) (hb : (l.length + 1) * bytes ≤ 140737488355328) (h63 : l.length + 1 ≤ 9223372036854775807) {K : Value → Heap → Prop}
    (k : ∀ v' H', Acc sz n H' v' (l ++ [e]) → (∀ j, j < H.length → ¬ lies v j → H'[j]? = H[j]?) → (∀ j, lies v' j → lies v j ∨ H.length ≤ j) → H.length ≤ H'.length → K v' H') :
    hW (bslW H 1 zs [(0, sz, e)]) fun v1 h1 => hW (apW sz bytes h1 v v1) K := by
  obtain ⟨v1, h1, e1, _, v2, h2, e2, _, k⟩ := Acc.pushK (bytes := bytes) hn a hs hz he hk hok hzs hb h63 (A := fun _ => True) (C := fun _ _ => True) (K := K) fun o => ⟨trivial, fun v' H' x1 x2 x3 x4 => ⟨trivial, k v' H' x1 x2 x3 x4⟩⟩
  exact ⟨v1, h1, e1, v2, h2, e2, k⟩

/-- The builder in memory; the objects that it takes. -/
def Bld (lo i : Nat) (U : Nat → Prop) (H : Heap) (s : Bs) : Prop :=
  ∃ ev av, getRow H i = some ([.int .i64 (s.count : Int), ev, av, .int .i64 0, .int .i64 0, .bool s.full], .exact) ∧ Acc 2 lo H ev (s.eps.map encP) ∧ Acc 6 lo H av (s.arcs.map encA) ∧
    (∀ j, lies ev j → ¬ lies av j) ∧ ¬ lies ev i ∧ ¬ lies av i ∧ (∀ j, U j ↔ j = i ∨ lies ev j ∨ lies av j) ∧ lo ≤ H.length

/-- What stays. -/
def Stay (X U : Nat → Prop) (h : Heap) (U' : Nat → Prop) (h' : Heap) : Prop := h.length ≤ h'.length ∧ ∀ j, j < h.length → ¬ U j → ¬ U' j ∧ (¬ X j → h'[j]? = h[j]?)
theorem Stay.rfl {X U : Nat → Prop} {h : Heap} : Stay X U h U h := ⟨Nat.le_refl _, fun _ _ q => ⟨q, fun _ => .refl _⟩⟩
theorem Stay.trans {X U U' U2 : Nat → Prop} {h h' h2 : Heap} (a : Stay X U h U' h') (b : Stay X U' h' U2 h2) : Stay X U h U2 h2 :=
  ⟨Nat.le_trans a.1 b.1, fun j hj hu => by
    obtain ⟨x1, x2⟩ := a.2 j hj hu
    obtain ⟨y1, y2⟩ := b.2 j (Nat.lt_of_lt_of_le hj a.1) x1
    exact ⟨y1, fun q => (y2 q).trans (x2 q)⟩⟩
theorem Stay.app {X U : Nat → Prop} {h t : Heap} : Stay X U h U (h ++ t) := ⟨by simp, fun j hj q => ⟨q, fun _ => List.getElem?_append_left hj⟩⟩
theorem Stay.low {X U U' : Nat → Prop} {h t h' : Heap} (a : Stay X U (h ++ t) U' h') : Stay X U h U' h' := Stay.app.trans a
theorem Stay.weak {X Y U U' : Nat → Prop} {h h' : Heap} (a : Stay X U h U' h') (e : ∀ j, X j → Y j) : Stay Y U h U' h' := ⟨a.1, fun j hj hu => ⟨(a.2 j hj hu).1, fun q => (a.2 j hj hu).2 fun r => q (e j r)⟩⟩
/-- What was changed lies above. -/
theorem Stay.above {X U U' : Nat → Prop} {h h2 h' : Heap} (a : Stay X U h U' h') (b : h.length ≤ h2.length) : h.length ≤ h2.length := b
theorem Stay.setA {X U : Nat → Prop} {h : Heap} {i : Nat} {o : AObj} (hx : X i) : Stay X U h U (h.set i o) :=
  ⟨by simp, fun j hj hu => ⟨hu, fun q => List.getElem?_set_ne fun r => q (by rw [← r]; exact hx)⟩⟩

theorem Bld.lt {lo i : Nat} {U : Nat → Prop} {H : Heap} {s : Bs} (b : Bld lo i U H s) {j : Nat} (hj : U j) : j < H.length := by
  obtain ⟨ev, av, h1, h2, h3, h4, h5, h6, h7, h8⟩ := b
  rcases (h7 j).1 hj with rfl | q | q
  · exact getRow_lt h1
  · exact h2.lt q
  · exact h3.lt q
theorem Bld.app {lo i : Nat} {U : Nat → Prop} {H t : Heap} {s : Bs} (b : Bld lo i U H s) : Bld lo i U (H ++ t) s := by
  obtain ⟨ev, av, h1, h2, h3, h4, h5, h6, h7, h8⟩ := b
  exact ⟨ev, av, getRow_app h1, h2.app, h3.app, h4, h5, h6, h7, by simp; omega⟩
theorem Bld.congr {lo i : Nat} {U : Nat → Prop} {H H' : Heap} {s : Bs} (b : Bld lo i U H s) (e : ∀ j, U j → H'[j]? = H[j]?) (hl : H.length ≤ H'.length) : Bld lo i U H' s := by
  obtain ⟨ev, av, h1, h2, h3, h4, h5, h6, h7, h8⟩ := b
  exact ⟨ev, av, (getRow_same (e i ((h7 i).2 (.inl rfl)))).trans h1, h2.congr fun j q => e j ((h7 j).2 (.inr (.inl q))), h3.congr fun j q => e j ((h7 j).2 (.inr (.inr q))), h4, h5, h6, h7, Nat.le_trans h8 hl⟩
theorem Bld.set {lo i : Nat} {U : Nat → Prop} {H : Heap} {s : Bs} (b : Bld lo i U H s) {k : Nat} {o : AObj} (hk : ¬ U k) : Bld lo i U (H.set k o) s :=
  b.congr (fun j hj => List.getElem?_set_ne fun r => hk (by rw [r]; exact hj)) (by simp)
theorem Bld.u {lo i : Nat} {U : Nat → Prop} {H : Heap} {s : Bs} (b : Bld lo i U H s) : U i := by
  obtain ⟨ev, av, h1, h2, h3, h4, h5, h6, h7, h8⟩ := b
  exact (h7 i).2 (.inl rfl)

theorem beps_spec {lo i : Nat} {U : Nat → Prop} {s : Bs} {a b : Nat} {h : Heap} {Q : Value → Heap → Prop} (bl : Bld lo i U h s) (hs : s.eps.length ≤ 1000000000000)
    (hq : ∀ h' U', Bld lo i U' h' (s.eps1 a b) → Stay (fun _ => False) U h U' h' → Q (.tuple #[]) h') :
    acall Try.prog F_nfa_builder_eps [.pointer (some ⟨i, 0, none⟩), .int .i64 (a : Int), .int .i64 (b : Int)] h Q := by
  obtain ⟨ev, av, h1, h2, h3, h4, h5, h6, h7, h8⟩ := bl
  apply W_nfa_builder_eps_ok
  unfold W_nfa_builder_eps
  simp [-exists_and_right, h1]
  refine Acc.pushT h8 h2 (by omega) encP_len rfl rfl rfl rfl (by simp; omega) (by simp; omega) fun v' H' a2 f1 f2 f3 => ?_
  have hi : i < h.length := getRow_lt h1
  have hr : getRow H' i = getRow h i := getRow_same (f1 i hi h5)
  rw [st1 (hr.trans h1) (by simp) a2.cell.1 a2.cell.2.1 a2.cell.2.2 (by simp), sW_some]
  have n1 : ¬ lies v' i := fun q => (f2 i q).elim h5 fun r => by omega
  refine gcV_same (hq _ (fun j => j = i ∨ lies v' j ∨ lies av j) ⟨v', av, ?_, ?_, ?_, fun j q r => ?_, n1, h6, fun j => Iff.rfl, by simp; omega⟩ ⟨by simpa using f3, fun j hj hu => ⟨fun q => ?_, fun _ => ?_⟩⟩)
  · exact getRow_set (hr.trans h1) _ _
  · have a3 := a2.congr (H' := H'.set i (AObj.row ([Value.int IntKind.i64 ↑s.count, ev, av, Value.int IntKind.i64 0, Value.int IntKind.i64 0, Value.bool s.full].set 1 v') .exact)) fun j q => List.getElem?_set_ne fun r => n1 (by rw [r]; exact q)
    simpa [Bs.eps1] using a3
  · exact h3.congr fun j q => (List.getElem?_set_ne fun r => h6 (by rw [r]; exact q)).trans (f1 j (h3.lt q) fun r => h4 j r q)
  · rcases f2 j q with x | x
    · exact h4 j x r
    · have := h3.lt r; omega
  · rw [h7 j] at hu
    rcases q with x | x | x
    · exact hu (.inl x)
    · rcases f2 j x with y | y
      · exact hu (.inr (.inl y))
      · omega
    · exact hu (.inr (.inr x))
  · rw [h7 j] at hu
    rw [List.getElem?_set_ne fun r => hu (.inl r.symm)]
    exact f1 j hj fun q => hu (.inr (.inl q))

end Go.Ax
