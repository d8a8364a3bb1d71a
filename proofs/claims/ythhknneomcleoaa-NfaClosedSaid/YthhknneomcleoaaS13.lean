/- Specs: nfa.Build. -/
import Derived.Test.YthhknneomcleoaaS12
namespace Go.Ax
open Go Go.Proofs Go.RowKit

def Bs.inv (s : Bs) : Prop := (∀ p ∈ s.eps, inR s.count p.1 ∧ inR s.count p.2) ∧ (∀ a ∈ s.arcs, inR s.count a.1 ∧ inR s.count a.2.1) ∧ (s.full = false → s.count ≤ 4096)
def Fg (f : Bs → Bs) : Prop := ∀ s : Bs, s.inv → (f s).inv ∧ s.count + 2 ≤ (f s).count

theorem Bs.inv.eps1 {s : Bs} (h : s.inv) {a b : Nat} (ha : a < s.count) (hb : b < s.count) : (s.eps1 a b).inv := by
  refine ⟨fun p hp => ?_, h.2.1, h.2.2⟩
  simp only [Bs.eps1, List.mem_append, List.mem_singleton] at hp
  rcases hp with hp | rfl
  · exact h.1 p hp
  · unfold inR; simp only [Bs.eps1]; omega
theorem Bs.inv.new {s : Bs} (h : s.inv) : s.new.inv := by
  refine ⟨fun p hp => ?_, fun a ha => ?_, fun hf => ?_⟩
  · have := h.1 p hp; unfold inR at *; simp only [Bs.new]; omega
  · have := h.2.1 a ha; unfold inR at *; simp only [Bs.new]; omega
  · simp [Bs.new] at hf ⊢; omega
theorem fg_on {f : Bs → Bs} (hf : Fg f) {p : Bs × Nat} (h : p.1.inv) (hp : p.2 < p.1.count) : (onF f p).1.inv ∧ (onF f p).2 < (onF f p).1.count ∧ p.1.count + 2 ≤ (onF f p).1.count := by
  obtain ⟨h1, h2⟩ := hf p.1 h
  exact ⟨h1.eps1 (by omega) (by omega), by simp only [onF, Bs.eps1_count]; omega, by simp only [onF, Bs.eps1_count]; omega⟩
theorem fg_rpt {g : Bs × Nat → Bs × Nat} {c : Nat} (hg : ∀ p : Bs × Nat, p.1.inv → p.2 < p.1.count → c ≤ p.1.count → (g p).1.inv ∧ (g p).2 < (g p).1.count ∧ p.1.count ≤ (g p).1.count) :
    ∀ (n : Nat) (p : Bs × Nat), p.1.inv → p.2 < p.1.count → c ≤ p.1.count → (rpt g n p).1.inv ∧ (rpt g n p).2 < (rpt g n p).1.count ∧ p.1.count ≤ (rpt g n p).1.count
  | 0, p, h1, h2, _ => ⟨h1, h2, Nat.le_refl _⟩
  | n + 1, p, h1, h2, h3 => by
    obtain ⟨a, b, d⟩ := fg_rpt hg n p h1 h2 h3
    obtain ⟨a', b', d'⟩ := hg _ a b (by omega)
    exact ⟨a', b', by rw [rpt]; omega⟩
theorem fg_cat : ∀ {fs : List (Bs → Bs)} {p : Bs × Nat}, (∀ f ∈ fs, Fg f) → p.1.inv → p.2 < p.1.count → (fs.foldl (fun p f => onF f p) p).1.inv ∧ (fs.foldl (fun p f => onF f p) p).2 < (fs.foldl (fun p f => onF f p) p).1.count ∧ p.1.count ≤ (fs.foldl (fun p f => onF f p) p).1.count
  | [], p, _, h1, h2 => ⟨h1, h2, Nat.le_refl _⟩
  | f :: fs, p, hf, h1, h2 => by
    obtain ⟨a, b, c⟩ := fg_on (hf f (by simp)) h1 h2
    obtain ⟨a', b', c'⟩ := fg_cat (fs := fs) (fun g hg => hf g (by simp [hg])) a b
    exact ⟨a', b', by rw [List.foldl_cons]; omega⟩
theorem fg_alt {b e : Nat} : ∀ {fs : List (Bs → Bs)} {s : Bs}, (∀ f ∈ fs, Fg f) → s.inv → b < s.count → e < s.count → (fs.foldl (altF b e) s).inv ∧ s.count ≤ (fs.foldl (altF b e) s).count
  | [], s, _, h1, _, _ => ⟨h1, Nat.le_refl _⟩
  | f :: fs, s, hf, h1, h2, h3 => by
    obtain ⟨a, c⟩ := hf f (by simp) s h1
    have a2 : (altF b e s f).inv := (a.eps1 (by omega) (by omega)).eps1 (by rw [Bs.eps1_count]; omega) (by rw [Bs.eps1_count]; omega)
    have a3 : (altF b e s f).count = (f s).count := rfl
    obtain ⟨a', c'⟩ := fg_alt (b := b) (e := e) (fs := fs) (s := altF b e s f) (fun g hg => hf g (by simp [hg])) a2 (by omega) (by omega)
    exact ⟨a', by rw [List.foldl_cons]; omega⟩

theorem pc_inv {n : Nd} (g : n.Good) : Fg n.pc := by
  induction g with
  | @set st mn mx =>
    intro s h
    by_cases hf : s.new.full = true
    · rw [pc_full hf]; exact ⟨h.new, by simp [Bs.new]⟩
    · rw [pc_set hf]
      refine ⟨⟨h.new.1, fun a ha => ?_, h.new.2.2⟩, by simp [Bs.new]⟩
      simp only [List.mem_append, List.mem_singleton] at ha
      rcases ha with ha | rfl
      · exact h.new.2.1 a ha
      · unfold inR; simp only [Bs.new]; omega
  | @cat st mn mx ks hk ih =>
    intro s h
    by_cases hf : s.new.full = true
    · rw [pc_full hf]; exact ⟨h.new, by simp [Bs.new]⟩
    · rw [pc_cat hf]
      obtain ⟨a, b, c⟩ := fg_cat (fs := ks.map Nd.pc) (p := (s.new, s.count)) (fun f hf => by obtain ⟨k, hk, rfl⟩ := List.mem_map.1 hf; exact ih k hk) h.new (by simp [Bs.new])
      simp only [Bs.new_count] at c
      exact ⟨a.eps1 b (by omega), by simp only [Bs.eps1_count]; omega⟩
  | @alt st mn mx ks hk ih =>
    intro s h
    by_cases hf : s.new.full = true
    · rw [pc_full hf]; exact ⟨h.new, by simp [Bs.new]⟩
    · rw [pc_alt hf]
      obtain ⟨a, c⟩ := fg_alt (b := s.count) (e := s.count + 1) (fs := ks.map Nd.pc) (s := s.new) (fun f hf => by obtain ⟨k, hk, rfl⟩ := List.mem_map.1 hf; exact ih k hk) h.new (by simp [Bs.new]) (by simp [Bs.new])
      simp only [Bs.new_count] at c
      exact ⟨a, c⟩
  | @rep st mn mx k hk h1 h2 h3 h4 ih =>
    intro s h
    by_cases hf : s.new.full = true
    · rw [pc_full hf]; exact ⟨h.new, by simp [Bs.new]⟩
    · rw [pc_rep hf]
      obtain ⟨a, b, c⟩ := fg_rpt (g := onF k.pc) (c := 0) (fun p x y _ => by obtain ⟨u, v, w⟩ := fg_on ih x y; exact ⟨u, v, by omega⟩) mn.toNat (s.new, s.count) h.new (by simp [Bs.new]) (by omega)
      simp only [Bs.new_count] at c
      simp only [againF]
      split
      · obtain ⟨a1, b1, c1⟩ := fg_on ih a b
        refine ⟨((a1.eps1 (by omega) (by omega)).eps1 (by rw [Bs.eps1_count]; omega) (by rw [Bs.eps1_count]; omega)).eps1 (by simp only [Bs.eps1_count]; omega) (by simp only [Bs.eps1_count]; omega), by simp only [Bs.eps1_count]; omega⟩
      · obtain ⟨a1, b1, c1⟩ := fg_rpt (g := fun p => onF k.pc (p.1.eps1 p.2 (s.count + 1), p.2)) (c := s.count + 2) (fun p x y z => by
          obtain ⟨u, v, w⟩ := fg_on ih (p := (p.1.eps1 p.2 (s.count + 1), p.2)) (x.eps1 y (by omega)) y
          exact ⟨u, v, by simp only [Bs.eps1_count] at w; omega⟩) (mx - mn).toNat _ a b (by omega)
        exact ⟨a1.eps1 b1 (by omega), by simp only [Bs.eps1_count]; omega⟩

def bs0 : Bs := ⟨0, [], [], false⟩
theorem bs0_inv : bs0.inv := ⟨fun p hp => by simp [bs0] at hp, fun p hp => by simp [bs0] at hp, fun _ => by simp [bs0]⟩
def Nd.mach (n : Nd) : Mch := ⟨(n.pc bs0).count, (n.pc bs0).eps, (n.pc bs0).arcs, 0, 1⟩
theorem mach_ok {n : Nd} (g : n.Good) : n.mach.ok := by
  obtain ⟨h1, h2⟩ := pc_inv g bs0 bs0_inv
  have : bs0.count = 0 := rfl
  exact ⟨h1.1, h1.2.1, ⟨by simp [Nd.mach], by simp only [Nd.mach]; omega⟩, ⟨by simp [Nd.mach], by simp only [Nd.mach]; omega⟩⟩
theorem mach_count {n : Nd} (g : n.Good) (hf : (n.pc bs0).full = false) : n.mach.count ≤ 4096 := (pc_inv g bs0 bs0_inv).1.2.2 hf

theorem good_of : ∀ {d : Nat} {n : Nd}, n.may d = true → n.plain = true → n.Good
  | 0, n, h, _ => by rw [Nd.may] at h; cases h
  | d + 1, .mk op s mn mx ks, h, hp => by
    rw [Nd.may] at h
    rw [Nd.plain, Nd.plains_eq] at hp
    simp only [Nd.cnt, Bool.and_eq_true, Bool.or_eq_true, decide_eq_true_eq, List.all_eq_true] at h hp
    have hk : ∀ k ∈ ks, k.Good := fun k hk => good_of (h.2 k hk) (hp.2 k hk)
    obtain ⟨⟨⟨⟨⟨⟨⟨⟨⟨a1, a2⟩, a3⟩, a4⟩, a5⟩, a6⟩, a7⟩, a8⟩, a9⟩, _⟩ := h
    obtain ⟨⟨b1, b2⟩, _⟩ := hp
    have : op = 0 ∨ op = 1 ∨ op = 2 ∨ op = 3 := by omega
    rcases this with rfl | rfl | rfl | rfl
    · have : ks = [] := List.length_eq_zero_iff.1 (by omega)
      subst this; exact .set
    · exact .cat hk
    · exact .alt hk
    · obtain ⟨k, rfl⟩ := List.length_eq_one_iff.1 (show ks.length = 1 by omega)
      exact .rep (hk k (by simp)) a6 a7 a8 (by omega)

def zeroM : Mch := ⟨0, [], [], 0, 0⟩
def Nd.built (n : Nd) : Value :=
  if n.may 64 = true ∧ n.plain = true then (if (n.pc bs0).full = true then .tuple #[zeroM.enc, .int .i64 70] else .tuple #[n.mach.enc, .int .i64 0]) else .tuple #[zeroM.enc, .int .i64 1]

theorem zero_gv {fr : Nat → Prop} {r : Nat → Option Nat} {h : Heap} {k : Int} : Gv fr r h (.tuple #[zeroM.enc, .int .i64 k]) (.tuple #[.agg #[.int .i64 0, .slice none 0 0, .slice none 0 0, .int .i64 0, .int .i64 0], .int .i64 k]) :=
  Gv.tupL (xs := [_, _]) (ys := [_, _]) (by simp) ⟨Gv.aggL (xs := [_, _, _, _, _]) (ys := [_, _, _, _, _]) ⟨.cl (.int _ _), .lit0 _ _, .lit0 _ _, .cl (.int _ _), .cl (.int _ _), trivial⟩, .cl (.int _ _), trivial⟩

theorem lies_nil {n c j : Nat} : ¬ lies (.slice none n c) j := fun ⟨_, _, _, q⟩ => by cases q

theorem build_spec {n : Nd} (hf : n.Fin) (hw : n.wt ≤ 100000000000) {h : Heap} {Q : Value → Heap → Prop} (hq : Q n.built h) : acall Try.prog F_nfa_Build [n.enc] h Q := by
  apply W_nfa_Build_ok
  unfold W_nfa_Build
  obtain ⟨cs, e1, e2⟩ := n.enc_agg
  have e3 : cs.toList.take 8 = cs.toList := List.take_of_length_le (by simp; omega)
  have e4 : Value.agg cs.toList.toArray = n.enc := by rw [e1]
  rw [e1]
  simp [-exists_and_right]
  rw [if_pos (by omega)]
  simp [-exists_and_right]
  rw [e3, e4]
  refine check_spec hf ?_
  simp [-exists_and_right]
  rw [bW_bool]
  have hno : n.may 64 = false ∨ n.plain = false → n.built = .tuple #[zeroM.enc, .int .i64 1] := fun q => by
    unfold Nd.built
    rw [if_neg fun r => by rcases q with q | q <;> simp [q] at r]
  constructor
  · intro hm
    rw [hno (.inl (by simpa using hm))] at hq
    exact gcV_end zero_gv hq
  · intro hm
    have hm' : n.may 64 = true := by simpa using hm
    rw [if_pos (by omega), oW_some, e3, e4]
    refine plain_spec hf ?_
    simp [-exists_and_right]
    rw [bW_bool]
    constructor
    · intro hp
      rw [hno (.inr (by simpa using hp))] at hq
      exact gcV_end zero_gv hq
    · intro hp
      have hp' : n.plain = true := by simpa using hp
      have g := good_of hm' hp'
      rw [if_pos (by omega), oW_some, e3, e4]
      have b0 : Bld h.length (h.length + 2) (· = h.length + 2) (h ++ [AObj.row cs.toList .exact, AObj.row [.int .i64 0, .slice none 0 0, .slice none 0 0, .int .i64 0, .int .i64 0] .exact, AObj.row [.int .i64 0, .slice none 0 0, .slice none 0 0, .int .i64 0, .int .i64 0, .bool false] .exact]) bs0 :=
        ⟨.slice none 0 0, .slice none 0 0, by rw [row_app]; rfl, Acc.nil, Acc.nil, fun j q => absurd q lies_nil, lies_nil, lies_nil,
          fun j => ⟨.inl, fun q => q.elim id fun q => q.elim (fun q => absurd q lies_nil) fun q => absurd q lies_nil⟩, by simp⟩
      have gw := pc_by g bs0
      refine piece_spec g b0 (by unfold Bs.fits; simp [bs0]; omega) fun H U b1 y1 => ?_
      have r0 : getRow (h ++ [AObj.row cs.toList .exact, AObj.row [.int .i64 0, .slice none 0 0, .slice none 0 0, .int .i64 0, .int .i64 0] .exact, AObj.row [.int .i64 0, .slice none 0 0, .slice none 0 0, .int .i64 0, .int .i64 0, .bool false] .exact]) (h.length + 1) = some ([.int .i64 0, .slice none 0 0, .slice none 0 0, .int .i64 0, .int .i64 0], .exact) := by rw [row_app]; rfl
      have hr := y1.row r0 (by simp) id
      have hlo : ∀ j, j < h.length → H[j]? = h[j]? := fun j hj => by
        rw [(y1.2 j (by simp; omega) (by omega)).2 id, List.getElem?_append_left hj]
      obtain ⟨ev, av, h1, h2, h3, h4, h5, h6, h7, h8⟩ := b1
      have eH : H = h ++ H.drop h.length := by
        have : H.take h.length = h := by
          apply List.ext_getElem?
          intro j
          rw [List.getElem?_take]
          split
          · exact hlo j (by assumption)
          · rw [List.getElem?_eq_none (by omega)]
        conv => lhs; rw [← List.take_append_drop h.length H, this]
      have eS : ∀ j o, h.length ≤ j → ∃ t, H.set j o = h ++ t := fun j o hj => ⟨_, by rw [eH, List.set_append_right _ _ hj]⟩
      simp [-exists_and_right, h1, two]
      rw [getRow_set h1, Option.bind_some, if_pos (by simp), sW_some]
      simp only [List.set_cons_succ, List.set_cons_zero]
      have r3 := getRow_set h1 [.int .i64 ((n.pc bs0).count : Int), ev, av, .int .i64 (bs0.count : Int), .int .i64 ((bs0.count : Int) + 1), .bool (n.pc bs0).full] .exact
      have r4 : getRow (H.set (h.length + 2) (.row [.int .i64 ((n.pc bs0).count : Int), ev, av, .int .i64 (bs0.count : Int), .int .i64 ((bs0.count : Int) + 1), .bool (n.pc bs0).full] .exact)) (h.length + 1) = some ([.int .i64 0, .slice none 0 0, .slice none 0 0, .int .i64 0, .int .i64 0], .exact) :=
        (getRow_same (List.getElem?_set_ne (by omega))).trans hr.1
      have a3 := h2.congr (H' := H.set (h.length + 2) (.row [.int .i64 ((n.pc bs0).count : Int), ev, av, .int .i64 (bs0.count : Int), .int .i64 ((bs0.count : Int) + 1), .bool (n.pc bs0).full] .exact)) fun j q => List.getElem?_set_ne fun r => h5 (by rw [r]; exact q)
      have a4 := h3.congr (H' := H.set (h.length + 2) (.row [.int .i64 ((n.pc bs0).count : Int), ev, av, .int .i64 (bs0.count : Int), .int .i64 ((bs0.count : Int) + 1), .bool (n.pc bs0).full] .exact)) fun j q => List.getElem?_set_ne fun r => h6 (by rw [r]; exact q)
      obtain ⟨t3, e5⟩ := eS (h.length + 2) (.row [.int .i64 ((n.pc bs0).count : Int), ev, av, .int .i64 (bs0.count : Int), .int .i64 ((bs0.count : Int) + 1), .bool (n.pc bs0).full] .exact) (by omega)
      rw [e5] at r3 r4 a3 a4 ⊢
      have eT : ∀ o, (h ++ t3).set (h.length + 1) o = h ++ t3.set 1 o := fun o => set_app
      rw [r3]
      show oW (some (.bool (n.pc bs0).full)) _
      rw [oW_some, bW_bool]
      have hyes : n.built = if (n.pc bs0).full = true then .tuple #[zeroM.enc, .int .i64 70] else .tuple #[n.mach.enc, .int .i64 0] := by unfold Nd.built; rw [if_pos ⟨hm', hp'⟩]
      rw [hyes] at hq
      constructor
      · intro hfu
        rw [if_pos hfu] at hq
        rw [r4, Option.bind_some, if_pos (by simp), sW_some, getRow_set r4]
        simp only [List.set_cons_succ, List.set_cons_zero, Option.bind_some, List.take_succ_cons, List.take_zero]
        rw [if_pos (by simp), oW_some, eT]
        exact gcV_end zero_gv hq
      · intro hfu
        rw [if_neg (by simp [hfu])] at hq
        simp only [Option.bind_some, List.take_succ_cons, List.take_zero]
        rw [if_pos (by simp), oW_some, stW_agg, r4, Option.bind_some, if_pos (by simp [a3.cell.2.2, a4.cell.2.2]), sW_some, getRow_set r4]
        simp only [Option.bind_some]
        rw [writeL_all (by rfl)]
        simp only [List.take_succ_cons, List.take_zero]
        rw [if_pos (by simp), oW_some, eT]
        refine gcV_end ?_ hq
        have c0 : (bs0.count : Int) = 0 := rfl
        rw [← eT, c0]
        have n1 : ¬ lies ev (h.length + 1) := fun q => hr.2 ((h7 _).2 (.inr (.inl q)))
        have n2 : ¬ lies av (h.length + 1) := fun q => hr.2 ((h7 _).2 (.inr (.inr q)))
        refine Gv.tupL (xs := [_, _]) (ys := [_, _]) (by simp) ⟨Gv.aggL (xs := [_, _, _, _, _]) (ys := [_, _, _, _, _]) ⟨.cl (.int _ _), ?_, ?_, .cl (.int _ _), .cl (.int _ _), trivial⟩, .cl (.int _ _), trivial⟩
        · exact (a3.congr fun j q => List.getElem?_set_ne fun r => n1 (by rw [r]; exact q)).gv (fun i hi => ⟨a3.ge hi, by simp⟩) (by omega) encP_len encP_cl
        · exact (a4.congr fun j q => List.getElem?_set_ne fun r => n2 (by rw [r]; exact q)).gv (fun i hi => ⟨a4.ge hi, by simp⟩) (by omega) encA_len encA_cl

end Go.Ax
