/- Specs: the builder's pieces. -/
import Derived.Test.YthhknneomcleoaaS11
namespace Go.Ax
open Go Go.Proofs Go.RowKit

abbrev no : Nat → Prop := fun _ => False
abbrev pAt (i : Nat) : Value := .pointer (some ⟨i, 0, none⟩)
abbrev two (s : Bs) : Value := .tuple #[.int .i64 (s.count : Int), .int .i64 ((s.count + 1 : Nat) : Int)]

def PieceOk (n : Nd) : Prop := ∀ {lo i : Nat} {U : Nat → Prop} {s : Bs} {h : Heap} {Q : Value → Heap → Prop}, Bld lo i U h s → s.fits n.wt →
  (∀ h' U', Bld lo i U' h' (n.pc s) → Stay no U h U' h' → Q (two s) h') → acall Try.prog F_nfa_builder_piece [pAt i, n.enc] h Q

theorem Bld.upd {lo i : Nat} {U : Nat → Prop} {H : Heap} {s : Bs} (b : Bld lo i U H s) : ∃ ev av, getRow H i = some ([.int .i64 (s.count : Int), ev, av, .int .i64 0, .int .i64 0, .bool s.full], .exact) ∧
    ∀ (c : Nat) (f : Bool) , Bld lo i U (H.set i (.row [.int .i64 (c : Int), ev, av, .int .i64 0, .int .i64 0, .bool f] .exact)) { s with count := c, full := f } := by
  obtain ⟨ev, av, h1, h2, h3, h4, h5, h6, h7, h8⟩ := b
  refine ⟨ev, av, h1, fun c f => ⟨ev, av, getRow_set h1 _ _, h2.congr fun j q => List.getElem?_set_ne fun r => h5 (by rw [r]; exact q), h3.congr fun j q => List.getElem?_set_ne fun r => h6 (by rw [r]; exact q), h4, h5, h6, h7, by simpa using h8⟩⟩

theorem Bs.fits.sub {s : Bs} {w w' : Nat} (h : s.fits w) (e : w' ≤ w) : s.fits w' := by unfold Bs.fits at *; omega

theorem d1_spec {k : Nd} (g : k.Good) (hp : PieceOk k) {lo i jb jh : Nat} {U : Nat → Prop} {s : Bs} {c : Nat} {h : Heap} {Q : Value → Heap → Prop} (bl : Bld lo i U h s) (hf : s.fits k.wt)
    (rb : getRow h jb = some ([pAt i], .exact)) (rh : getRow h jh = some ([.int .i64 (c : Int)], .exact)) (ub : ¬ U jb) (uh : ¬ U jh)
    (hq : ∀ h' U', Bld lo i U' h' (onF k.pc (s, c)).1 → getRow h' jh = some ([.int .i64 ((s.count + 1 : Nat) : Int)], .exact) → Stay (· = jh) U h U' h' → Q (two s) h') :
    acall Try.prog F_nfa_builder_piece_D1 [k.enc, pAt jb, pAt jh] h Q := by
  apply W_nfa_builder_piece_D1_ok
  unfold W_nfa_builder_piece_D1
  obtain ⟨cs, e1, e2⟩ := k.enc_agg
  have e3 : cs.toList.take 8 = cs.toList := List.take_of_length_le (by simp; omega)
  have e4 : Value.agg cs.toList.toArray = k.enc := by rw [e1]
  have rb' : ∀ t, getRow (h ++ t) jb = some ([pAt i], .exact) := fun t => getRow_app rb
  have lb := getRow_lt rb
  have lh := getRow_lt rh
  rw [e1]
  simp [-exists_and_right, rb']
  rw [if_pos (by omega)]
  simp [-exists_and_right]
  rw [e3, e4]
  refine hp bl.app hf fun h1 U1 b1 s1 => ?_
  have s1' := s1.low
  have q1 := s1'.2 jb lb ub
  have q2 := s1'.2 jh lh uh
  have rb1 : getRow h1 jb = some ([pAt i], .exact) := (getRow_same (q1.2 id)).trans rb
  have rh1 : getRow h1 jh = some ([.int .i64 (c : Int)], .exact) := (getRow_same (q2.2 id)).trans rh
  simp [-exists_and_right, rb1, rh1]
  have gb := pc_by g s
  have e5 : ((s.count : Int) + 1) = ((s.count + 1 : Nat) : Int) := by omega
  rw [e5]
  unfold Bs.grows at gb
  unfold Bs.fits at hf
  refine beps_spec b1 (by omega) fun h2 U2 b2 s2 => ?_
  have q3 := s2.2 jh (Nat.lt_of_lt_of_le lh s1'.1) q2.1
  have rh2 : getRow h2 jh = some ([.int .i64 (c : Int)], .exact) := (getRow_same (q3.2 id)).trans rh1
  rw [rh2, Option.bind_some, if_pos (by simp), sW_some]
  refine gcV_same (hq _ U2 (b2.set q3.1) ?_ ?_)
  · rw [getRow_set rh2]; rfl
  · exact ((s1'.trans s2).weak (fun j q => q.elim)).trans (Stay.setA rfl)

def PieceM (lo i : Nat) (U : Nat → Prop) (h : Heap) (s : Bs) (cs : List Value) (vs : List Value) (H : Heap) : Prop :=
  vs = [pAt h.length, pAt (h.length + 1), .int .i64 (s.count : Int), .int .i64 ((s.count + 1 : Nat) : Int)] ∧ Bld lo i U H s.new ∧ getRow H h.length = some ([pAt i], .exact) ∧
    getRow H (h.length + 1) = some (cs, .exact) ∧ Stay no U h U H

/-- Where a piece's function value may be called. -/
def On (lo i jb jh : Nat) (U0 : Nat → Prop) (h0 : Heap) (p : Bs × Nat) (U : Nat → Prop) (H : Heap) : Prop :=
  Bld lo i U H p.1 ∧ getRow H jb = some ([pAt i], .exact) ∧ getRow H jh = some ([.int .i64 (p.2 : Int)], .exact) ∧ ¬ U jb ∧ ¬ U jh ∧ jb ≠ jh ∧ Stay (· = jh) U0 h0 U H
theorem On.app {lo i jb jh : Nat} {U0 : Nat → Prop} {h0 : Heap} {p : Bs × Nat} {U : Nat → Prop} {H t : Heap} (o : On lo i jb jh U0 h0 p U H) : On lo i jb jh U0 h0 p U (H ++ t) :=
  ⟨o.1.app, getRow_app o.2.1, getRow_app o.2.2.1, o.2.2.2.1, o.2.2.2.2.1, o.2.2.2.2.2.1, o.2.2.2.2.2.2.trans Stay.app⟩
theorem on_step {k : Nd} (g : k.Good) (hp : PieceOk k) {lo i jb jh : Nat} {U0 : Nat → Prop} {h0 : Heap} {p : Bs × Nat} {U : Nat → Prop} {H : Heap} {Q : Value → Heap → Prop} (o : On lo i jb jh U0 h0 p U H) (hf : p.1.fits k.wt)
    (hq : ∀ H' U', On lo i jb jh U0 h0 (onF k.pc p) U' H' → Stay (· = jh) U H U' H' → Q (two p.1) H') : callW Try.prog (.func (.func F_nfa_builder_piece_D1) #[] #[pAt jb, pAt jh]) [k.enc] H Q := by
  obtain ⟨b, rb, rh, ub, uh, hne, st⟩ := o
  refine callW_known.2 ?_
  show acall Try.prog F_nfa_builder_piece_D1 [k.enc, pAt jb, pAt jh] H Q
  refine d1_spec g hp b hf rb rh ub uh fun H' U' b' rh' st' => hq H' U' ⟨b', ?_, rh', ?_, ?_, hne, st.trans st'⟩ st'
  · exact (getRow_same ((st'.2 jb (getRow_lt rb) ub).2 hne)).trans rb
  · exact (st'.2 jb (getRow_lt rb) ub).1
  · exact (st'.2 jh (getRow_lt rh) uh).1
theorem on_eps {lo i jb jh : Nat} {U0 : Nat → Prop} {h0 : Heap} {p : Bs × Nat} {U : Nat → Prop} {H : Heap} {Q : Value → Heap → Prop} {a b : Nat} (o : On lo i jb jh U0 h0 p U H) (hf : p.1.eps.length ≤ 1000000000000)
    (hq : ∀ H' U', On lo i jb jh U0 h0 (p.1.eps1 a b, p.2) U' H' → Stay no U H U' H' → Q (.tuple #[]) H') : acall Try.prog F_nfa_builder_eps [pAt i, .int .i64 (a : Int), .int .i64 (b : Int)] H Q := by
  obtain ⟨bl, rb, rh, ub, uh, hne, st⟩ := o
  refine beps_spec bl hf fun H' U' b' st' => hq H' U' ⟨b', ?_, ?_, ?_, ?_, hne, st.trans (st'.weak fun _ q => q.elim)⟩ st'
  · exact (getRow_same ((st'.2 jb (getRow_lt rb) ub).2 id)).trans rb
  · exact (getRow_same ((st'.2 jh (getRow_lt rh) uh).2 id)).trans rh
  · exact (st'.2 jb (getRow_lt rb) ub).1
  · exact (st'.2 jh (getRow_lt rh) uh).1

def CatI (lo i jh : Nat) (U : Nat → Prop) (h : Heap) (s : Bs) (ks : List Nd) (k : Nat) (vs : List Value) (H : Heap) : Prop :=
  ∃ (j : Nat) (U' : Nat → Prop), vs = [pAt h.length, .int .i64 (s.count : Int), .int .i64 ((s.count + 1 : Nat) : Int), pAt jh, .func (.func F_nfa_builder_piece_D1) #[] #[pAt h.length, pAt jh], lit (ks.map Nd.enc), .int .i64 (ks.length : Int), .int .i64 (j : Int)] ∧
    On lo i h.length jh U h (((ks.take j).map Nd.pc).foldl (fun p f => onF f p) (s.new, s.count)) U' H ∧ k = ks.length - j ∧ j ≤ ks.length

theorem ldPlitN {h : Heap} {n : Nd} : ldW true 8 h (plit (cellsOf n.enc)) = some n.enc := by
  obtain ⟨cs, e1, e2⟩ := n.enc_agg
  rw [ld_plit (by rw [e1]; simpa using e2), e1]; simp
theorem ldN {H : Heap} {n : Nd} {i : Nat} {m : Md} (r : getRow H i = some (cellsOf n.enc, m)) : ldW true 8 H (pAt i) = some n.enc := by
  obtain ⟨cs, e1, e2⟩ := n.enc_agg
  rw [e1] at r ⊢
  have e3 : cs.toList.take 8 = cs.toList := List.take_of_length_le (by simp; omega)
  simp [r, e3, e2]
theorem ldN2 {H : Heap} {n : Nd} : ((getRow (H ++ [.row (cellsOf n.enc) .exact]) H.length).bind fun x => if 8 ≤ x.1.length then some (Value.agg (x.1.take 8).toArray) else none) = some n.enc := by
  rw [row_app0]
  show (if 8 ≤ (cellsOf n.enc).length then some (Value.agg ((cellsOf n.enc).take 8).toArray) else none) = some n.enc
  have := n.enc_len
  rw [if_pos (by omega), List.take_of_length_le (by omega)]
  obtain ⟨cs, e1, e2⟩ := n.enc_agg
  rw [e1]; simp
theorem boxN {H : Heap} {n : Nd} {K : Heap → Prop} (k : K (H ++ [.row (cellsOf n.enc) .exact])) :
    sW (stW 8 (H ++ [.row [.int .i64 0, .int .u64 0, .int .u64 0, .int .u64 0, .int .u64 0, .int .i64 0, .int .i64 0, .slice none 0 0] .exact]) (.pointer (some ⟨H.length, 0, none⟩)) n.enc) K := by
  rw [st_row (c := [.int .i64 0, .int .u64 0, .int .u64 0, .int .u64 0, .int .u64 0, .int .i64 0, .int .i64 0, .slice none 0 0]) (m := .exact) (by simp) (by simp) n.enc_okv n.enc_len n.enc_ok (by simp), sW_some, writeL_all (by rw [n.enc_len]; rfl), set_app0]
  exact k

theorem wts_take {l : List Nd} {j : Nat} (h : j < l.length) : Nd.wts (l.take (j + 1)) = Nd.wts (l.take j) + l[j].wt := by
  induction l generalizing j with
  | nil => simp at h
  | cons k l ih =>
    cases j with
    | zero => simp [Nd.wts]
    | succ j =>
      have := ih (j := j) (by simpa using h)
      simp [Nd.wts, this]; omega
theorem wts_le {l : List Nd} : ∀ {j : Nat}, Nd.wts (l.take j) ≤ Nd.wts l := by
  induction l with
  | nil => intro j; simp
  | cons k l ih =>
    intro j
    cases j with
    | zero => simp [Nd.wts]
    | succ j => have := ih (j := j); simp [Nd.wts]; omega
theorem wts_len {l : List Nd} : l.length ≤ Nd.wts l := by
  induction l with
  | nil => simp
  | cons k l ih => have := Nd.wt_pos (n := k); simp [Nd.wts]; omega

def AltI (lo i : Nat) (U : Nat → Prop) (h : Heap) (s : Bs) (ks : List Nd) (k : Nat) (vs : List Value) (H : Heap) : Prop :=
  ∃ (j : Nat) (U' : Nat → Prop), vs = [pAt h.length, .int .i64 (s.count : Int), .int .i64 ((s.count + 1 : Nat) : Int), lit (ks.map Nd.enc), .int .i64 (ks.length : Int), .int .i64 (j : Int)] ∧
    Bld lo i U' H (((ks.take j).map Nd.pc).foldl (altF s.count (s.count + 1)) s.new) ∧ Stay no U h U' H ∧ getRow H h.length = some ([pAt i], .exact) ∧ ¬ U' h.length ∧ k = ks.length - j ∧ j ≤ ks.length

def AgI (lo i jb jh : Nat) (U0 : Nat → Prop) (h0 : Heap) (p : Bs × Nat) (kd : Nd) (st : BS) (mn mx : Int) (e : Nat) (n : Nat) (k : Nat) (vs : List Value) (G : Heap) : Prop :=
  ∃ (j : Nat) (U' : Nat → Prop), vs = [pAt i, .int .i64 (e : Int), pAt jh, .func (.func F_nfa_builder_piece_D1) #[] #[pAt jb, pAt jh], pAt n, pAt (n + 1), .int .i64 mn, .int .i64 (j : Int)] ∧
    On lo i jb jh U0 h0 (rpt (onF kd.pc) j p) U' G ∧ getRow G n = some ([.int .i64 3, w64 st.a, w64 st.b, w64 st.c, w64 st.d, .int .i64 mn, .int .i64 mx, lit [kd.enc]], .exact) ∧ getRow G (n + 1) = some (cellsOf kd.enc, .exact) ∧ ¬ U' n ∧ ¬ U' (n + 1) ∧ k = mn.toNat - j ∧ j ≤ mn.toNat

def AgI2 (lo i jb jh : Nat) (U0 : Nat → Prop) (h0 : Heap) (p : Bs × Nat) (kd : Nd) (mn mx : Int) (e : Nat) (n : Nat) (k : Nat) (vs : List Value) (G : Heap) : Prop :=
  ∃ (j : Nat) (U' : Nat → Prop), vs = [pAt i, .int .i64 (e : Int), pAt jh, .func (.func F_nfa_builder_piece_D1) #[] #[pAt jb, pAt jh], pAt (n + 1), .int .i64 (mx - mn), .int .i64 (j : Int)] ∧
    On lo i jb jh U0 h0 (rpt (fun p => onF kd.pc (p.1.eps1 p.2 e, p.2)) j (rpt (onF kd.pc) mn.toNat p)) U' G ∧ getRow G (n + 1) = some (cellsOf kd.enc, .exact) ∧ ¬ U' (n + 1) ∧ k = (mx - mn).toNat - j ∧ j ≤ (mx - mn).toNat

theorem Stay.row {X U U' : Nat → Prop} {h h' : Heap} {j : Nat} {c : List Value × Md} (s : Stay X U h U' h') (r : getRow h j = some c) (hu : ¬ U j) (hx : ¬ X j) : getRow h' j = some c ∧ ¬ U' j :=
  ⟨(getRow_same ((s.2 j (getRow_lt r) hu).2 hx)).trans r, (s.2 j (getRow_lt r) hu).1⟩

theorem On.here {lo i jb jh : Nat} {U0 : Nat → Prop} {h0 : Heap} {p : Bs × Nat} {U : Nat → Prop} {H : Heap} (o : On lo i jb jh U0 h0 p U H) (c : Nat) : On lo i jb jh U0 h0 (p.1, c) U (H.set jh (.row [.int .i64 (c : Int)] .exact)) :=
  ⟨o.1.set o.2.2.2.2.1, (getRow_same (List.getElem?_set_ne (Ne.symm o.2.2.2.2.2.1))).trans o.2.1, getRow_set o.2.2.1 _ _, o.2.2.2.1, o.2.2.2.2.1, o.2.2.2.2.2.1, o.2.2.2.2.2.2.trans (Stay.setA rfl)⟩

theorem again_spec {kd : Nd} (g : kd.Good) (hp : PieceOk kd) {mn mx : Int} (m1 : 0 ≤ mn) (m2 : mn ≤ 32) (m3 : mx ≤ 32) (m4 : mx < 0 ∨ mn ≤ mx) {st : BS} {lo i jb jh : Nat} {U0 : Nat → Prop} {h0 : Heap} {p : Bs × Nat} {e : Nat} {U : Nat → Prop} {H : Heap} {Q : Value → Heap → Prop}
    (o : On lo i jb jh U0 h0 p U H) (hf : p.1.fits ((mn.toNat + (mx - mn).toNat + 1) * kd.wt)) (hq : ∀ H' U', On lo i jb jh U0 h0 (againF kd.pc mn mx e p) U' H' → Q (.tuple #[]) H') :
    acall Try.prog F_nfa_builder_again [pAt i, .agg #[.int .i64 3, w64 st.a, w64 st.b, w64 st.c, w64 st.d, .int .i64 mn, .int .i64 mx, lit [kd.enc]], .int .i64 (e : Int), pAt jh, .func (.func F_nfa_builder_piece_D1) #[] #[pAt jb, pAt jh]] H Q := by
  apply W_nfa_builder_again_ok
  unfold W_nfa_builder_again
  rw [box_agg, hW_some]
  have ljh := getRow_lt o.2.2.1
  have uu : ∀ j, U j → j < H.length := fun j hj => o.1.lt hj
  have x1 := onF_by (fun s => pc_by g s)
  simp [-exists_and_right]
  rw [show iaS 8 (lit [kd.enc]) (.int .i64 0) = some (plit (cellsOf kd.enc)) from iaS_lit (by omega) rfl kd.enc_len, oW_some, ldPlitN, oW_some]
  have e7 : ∀ a b : AObj, H ++ [a, b] = (H ++ [a]) ++ [b] := fun a b => by simp
  rw [e7, show (Value.pointer (some ⟨H.length + 1, 0, none⟩)) = .pointer (some ⟨(H ++ [AObj.row [.int .i64 3, w64 st.a, w64 st.b, w64 st.c, w64 st.d, .int .i64 mn, .int .i64 mx, lit [kd.enc]] .exact]).length, 0, none⟩) by simp]
  refine boxN ?_
  have o1 := (o.app (t := [AObj.row [.int .i64 3, w64 st.a, w64 st.b, w64 st.c, w64 st.d, .int .i64 mn, .int .i64 mx, lit [kd.enc]] .exact])).app (t := [AObj.row (cellsOf kd.enc) .exact])
  have r1 : getRow (H ++ [AObj.row [.int .i64 3, w64 st.a, w64 st.b, w64 st.c, w64 st.d, .int .i64 mn, .int .i64 mx, lit [kd.enc]] .exact] ++ [AObj.row (cellsOf kd.enc) .exact]) H.length = some ([.int .i64 3, w64 st.a, w64 st.b, w64 st.c, w64 st.d, .int .i64 mn, .int .i64 mx, lit [kd.enc]], .exact) := by
    rw [← e7, row_app0]; rfl
  have r2 : getRow (H ++ [AObj.row [.int .i64 3, w64 st.a, w64 st.b, w64 st.c, w64 st.d, .int .i64 mn, .int .i64 mx, lit [kd.enc]] .exact] ++ [AObj.row (cellsOf kd.enc) .exact]) (H.length + 1) = some (cellsOf kd.enc, .exact) := by
    rw [← e7, row_app]; rfl
  have ll : (H ++ [AObj.row [.int .i64 3, w64 st.a, w64 st.b, w64 st.c, w64 st.d, .int .i64 mn, .int .i64 mx, lit [kd.enc]] .exact]).length = H.length + 1 := by simp
  rw [ll, r1]
  show oW (some (.int .i64 mn)) _
  rw [oW_some]
  generalize H ++ [AObj.row [.int .i64 3, w64 st.a, w64 st.b, w64 st.c, w64 st.d, .int .i64 mn, .int .i64 mx, lit [kd.enc]] .exact] ++ [AObj.row (cellsOf kd.enc) .exact] = H1 at *
  refine ⟨AgI lo i jb jh U0 h0 p kd st mn mx e H.length, mn.toNat, gcL_same ⟨0, U, rfl, o1, r1, r2, fun q => by have := uu _ q; omega, fun q => by have := uu _ q; omega, rfl, by omega⟩, ?_⟩
  rintro k x15 x16 x17 x18 x19 x20 x21 x22 G ⟨j, U1, hv, o2, r3, r4, u3, u4, hk, hj⟩
  simp only [List.cons.injEq, and_true] at hv
  obtain ⟨rfl, rfl, rfl, rfl, rfl, rfl, rfl, rfl⟩ := hv
  have gw : ∀ j, p.1.grows (rpt (onF kd.pc) j p).1 (j * kd.wt) 0 := fun j => rpt_by (fun q => by have := x1 q; unfold Bs.grows at *; omega) j p
  have hgj := gw j
  have f0 := hf
  rw [Nat.add_mul, Nat.add_mul, Nat.one_mul] at f0
  unfold Bs.fits at f0
  unfold Bs.grows at hgj
  have hjm : j * kd.wt ≤ mn.toNat * kd.wt := Nat.mul_le_mul_right _ hj
  have nj1 : ¬ H.length = jh := by omega
  have nj2 : ¬ H.length + 1 = jh := by omega
  rw [n_lss, oW_some, bW_dec]
  constructor
  · intro hlt
    rw [ldN r4, oW_some]
    refine on_step g hp o2 (by unfold Bs.fits; omega) fun G1 U2 o3 y3 => ?_
    rw [n_add (by omega), oW_some]
    have z3 := y3.row r3 u3 nj1
    have z4 := y3.row r4 u4 nj2
    exact ⟨mn.toNat - (j + 1), by omega, gcL_same ⟨j + 1, U2, by simp, o3, z3.1, z4.1, z3.2, z4.2, rfl, by omega⟩⟩
  · intro hge
    have hjj : j = mn.toNat := by omega
    subst hjj
    rw [fa_ptr, oW_some, ldW_one, r3]
    show oW (some (.int .i64 mx)) _
    rw [oW_some, n_lss, oW_some, bW_dec]
    have x2 := x1 (rpt (onF kd.pc) mn.toNat p)
    generalize hq5 : rpt (onF kd.pc) mn.toNat p = q5 at *
    unfold Bs.grows at x2
    constructor
    · intro hneg
      have hag : againF kd.pc mn mx e p = (((onF kd.pc q5).1.eps1 (q5.1.count + 1) q5.1.count).eps1 (q5.1.count + 1) e, q5.2) := by
        simp only [againF, hq5]; rw [if_pos hneg]
      rw [nc_ptr, oW_some, ldW_one, o2.2.2.1]
      show oW (some (.int .i64 _)) _
      rw [oW_some, ldN r4, oW_some]
      refine on_step g hp o2 (by unfold Bs.fits; omega) fun G1 U2 o3 y3 => ?_
      rw [extract_tuple, extract_tuple]
      show oW (some _) fun v99 => oW (some _) fun v100 => _
      rw [oW_some, oW_some, oW_some, st1 o3.2.2.1 (by simp) rfl rfl rfl (by simp), sW_some]
      have o4 := o3.here q5.2
      refine on_eps o4 (by simp only; omega) fun G2 U4 o5 y5 => ?_
      refine on_eps o5 (by rw [Bs.eps1_eps]; simp only; omega) fun G3 U5 o6 y6 => ?_
      refine gcV_same (hq _ U5 ?_)
      rw [hag]; exact o6
    · intro hpos
      have hag : againF kd.pc mn mx e p = rpt (fun p => onF kd.pc (p.1.eps1 p.2 e, p.2)) (mx - mn).toNat q5 := by
        simp only [againF, hq5]; rw [if_neg hpos]
      rw [fa_ptr, oW_some, ldW_one, r3]
      show oW (some (.int .i64 mx)) _
      rw [oW_some, oW_some, ldW_one, r3]
      show oW (some (.int .i64 mn)) _
      rw [oW_some, n_sub (by omega), oW_some]
      refine ⟨AgI2 lo i jb jh U0 h0 p kd mn mx e H.length, (mx - mn).toNat, gcL_same ⟨0, U1, rfl, by rw [hq5]; exact o2, r4, u4, rfl, by omega⟩, ?_⟩
      rintro k2 x54 x55 x56 x57 x58 x59 x60 G4 ⟨j, U3, hv, o3, r5, u5, hk3, hj3⟩
      simp only [List.cons.injEq, and_true] at hv
      obtain ⟨rfl, rfl, rfl, rfl, rfl, rfl, rfl⟩ := hv
      rw [hq5] at o3
      have gj := rpt_by (g := fun p => onF kd.pc (p.1.eps1 p.2 e, p.2)) (w := kd.wt) (fun p => by
        have := x1 (p.1.eps1 p.2 e, p.2)
        unfold Bs.grows at *
        simp only [Bs.eps1_eps, Bs.eps1_count, Bs.eps1_arcs] at this
        omega) j q5
      unfold Bs.grows at gj
      have hjm2 : j * kd.wt ≤ (mx - mn).toNat * kd.wt := Nat.mul_le_mul_right _ hj3
      rw [n_lss, oW_some, bW_dec]
      constructor
      · intro hlt
        rw [nc_ptr, oW_some, ldW_one, o3.2.2.1]
        show oW (some (.int .i64 _)) _
        rw [oW_some]
        refine on_eps o3 (by omega) fun G5 U5 o5 y5 => ?_
        have z5 := y5.row r5 u5 id
        have hj6 : (j + 1) * kd.wt ≤ (mx - mn).toNat * kd.wt := Nat.mul_le_mul_right _ (by omega)
        rw [Nat.add_mul, Nat.one_mul] at hj6
        have hwp := Nd.wt_pos (n := kd)
        rw [ldN z5.1, oW_some]
        refine on_step g hp o5 (by unfold Bs.fits; simp only [Bs.eps1_eps, Bs.eps1_count, Bs.eps1_arcs]; omega) fun G6 U6 o6 y6 => ?_
        have z6 := y6.row z5.1 z5.2 nj2
        rw [n_add (by omega), oW_some]
        exact ⟨(mx - mn).toNat - (j + 1), by omega, gcL_same ⟨j + 1, U6, by simp, by rw [hq5]; exact o6, z6.1, z6.2, rfl, by omega⟩⟩
      · intro hge
        have hj5 : j = (mx - mn).toNat := by omega
        subst hj5
        refine gcV_same (hq _ U3 ?_)
        rw [hag]; exact o3

theorem piece_step {op : Int} {st : BS} {mn mx : Int} {ks : List Nd} (g : (Nd.mk op st mn mx ks).Good) (hp : ∀ k ∈ ks, PieceOk k) : PieceOk (.mk op st mn mx ks) := by
  intro lo i U s h Q bl hf hq
  apply W_nfa_builder_piece_ok
  unfold W_nfa_builder_piece
  obtain ⟨ev, av, r0, r1⟩ := bl.upd
  have hi := getRow_lt r0
  have r0' : ∀ t, getRow (h ++ t) i = some ([.int .i64 (s.count : Int), ev, av, .int .i64 0, .int .i64 0, .bool s.full], .exact) := fun t => getRow_app r0
  have fs := hf
  unfold Bs.fits at fs
  have w1 := Nd.wt_pos (n := Nd.mk op st mn mx ks)
  rw [Nd.enc_mk]
  simp [-exists_and_right, r0']
  rw [n_add (by omega), n_add (by omega)]
  simp [-exists_and_right, r0']
  have e0 : ∀ o t, (h ++ t).set i o = h.set i o ++ t := fun o t => List.set_append_left i o hi
  rw [e0]
  have c2 : ((s.count : Int) + 2) = ((s.count + 2 : Nat) : Int) := by omega
  have c1 : ((s.count : Int) + 1) = ((s.count + 1 : Nat) : Int) := by omega
  rw [c1, c2]
  have b1 := (r1 (s.count + 2) s.full).app (t := [AObj.row [pAt i] .exact, AObj.row [.int .i64 op, w64 st.a, w64 st.b, w64 st.c, w64 st.d, .int .i64 mn, .int .i64 mx, lit (ks.map Nd.enc)] .exact])
  have y1 : Stay no U h U ((h.set i (.row [.int .i64 ((s.count + 2 : Nat) : Int), ev, av, .int .i64 0, .int .i64 0, .bool s.full] .exact)) ++ [AObj.row [pAt i] .exact, AObj.row [.int .i64 op, w64 st.a, w64 st.b, w64 st.c, w64 st.d, .int .i64 mn, .int .i64 mx, lit (ks.map Nd.enc)] .exact]) :=
    ⟨by simp, fun j hj hu => ⟨hu, fun _ => by rw [List.getElem?_append_left (by simpa using hj)]; exact List.getElem?_set_ne fun r => hu (by rw [← r]; exact bl.u)⟩⟩
  have l1 : ((h.set i (.row [.int .i64 ((s.count + 2 : Nat) : Int), ev, av, .int .i64 0, .int .i64 0, .bool s.full] .exact)) ++ [AObj.row [pAt i] .exact, AObj.row [.int .i64 op, w64 st.a, w64 st.b, w64 st.c, w64 st.d, .int .i64 mn, .int .i64 mx, lit (ks.map Nd.enc)] .exact]).length = h.length + 2 := by simp
  have rb : getRow ((h.set i (.row [.int .i64 ((s.count + 2 : Nat) : Int), ev, av, .int .i64 0, .int .i64 0, .bool s.full] .exact)) ++ [AObj.row [pAt i] .exact, AObj.row [.int .i64 op, w64 st.a, w64 st.b, w64 st.c, w64 st.d, .int .i64 mn, .int .i64 mx, lit (ks.map Nd.enc)] .exact]) h.length = some ([pAt i], .exact) := by
    have := row_app0 (h := h.set i (.row [.int .i64 ((s.count + 2 : Nat) : Int), ev, av, .int .i64 0, .int .i64 0, .bool s.full] .exact)) (t := [AObj.row [pAt i] .exact, AObj.row [.int .i64 op, w64 st.a, w64 st.b, w64 st.c, w64 st.d, .int .i64 mn, .int .i64 mx, lit (ks.map Nd.enc)] .exact])
    rw [List.length_set] at this; rw [this]; rfl
  have rn : getRow ((h.set i (.row [.int .i64 ((s.count + 2 : Nat) : Int), ev, av, .int .i64 0, .int .i64 0, .bool s.full] .exact)) ++ [AObj.row [pAt i] .exact, AObj.row [.int .i64 op, w64 st.a, w64 st.b, w64 st.c, w64 st.d, .int .i64 mn, .int .i64 mx, lit (ks.map Nd.enc)] .exact]) (h.length + 1) = some ([.int .i64 op, w64 st.a, w64 st.b, w64 st.c, w64 st.d, .int .i64 mn, .int .i64 mx, lit (ks.map Nd.enc)], .exact) := by
    have := row_app (h := h.set i (.row [.int .i64 ((s.count + 2 : Nat) : Int), ev, av, .int .i64 0, .int .i64 0, .bool s.full] .exact)) (t := [AObj.row [pAt i] .exact, AObj.row [.int .i64 op, w64 st.a, w64 st.b, w64 st.c, w64 st.d, .int .i64 mn, .int .i64 mx, lit (ks.map Nd.enc)] .exact]) (k := 1)
    rw [List.length_set] at this; rw [this]; rfl
  generalize (h.set i (.row [.int .i64 ((s.count + 2 : Nat) : Int), ev, av, .int .i64 0, .int .i64 0, .bool s.full] .exact)) ++ [AObj.row [pAt i] .exact, AObj.row [.int .i64 op, w64 st.a, w64 st.b, w64 st.c, w64 st.d, .int .i64 mn, .int .i64 mx, lit (ks.map Nd.enc)] .exact] = H1 at *
  have ubj : ¬ U h.length := fun q => by have := bl.lt q; omega
  have unj : ¬ U (h.length + 1) := fun q => by have := bl.lt q; omega
  refine ⟨PieceM lo i U h s [.int .i64 op, w64 st.a, w64 st.b, w64 st.c, w64 st.d, .int .i64 mn, .int .i64 mx, lit (ks.map Nd.enc)], ?_, ?_⟩
  · rw [rb]
    obtain ⟨ev1, av1, q0, q1⟩ := b1.upd
    have hi1 := getRow_lt q0
    have done : ∀ f, (s.full || decide (4096 < s.count + 2)) = f → gcL h (PieceM lo i U h s [.int .i64 op, w64 st.a, w64 st.b, w64 st.c, w64 st.d, .int .i64 mn, .int .i64 mx, lit (ks.map Nd.enc)]) [pAt h.length, pAt (h.length + 1), .int .i64 (s.count : Int), .int .i64 ((s.count + 1 : Nat) : Int)]
        (H1.set i (.row [.int .i64 ((s.count + 2 : Nat) : Int), ev1, av1, .int .i64 0, .int .i64 0, .bool f] .exact)) := fun f hfe => by
      refine gcL_same ⟨rfl, ?_, ?_, ?_, y1.trans ⟨by simp, fun j hj hu => ⟨hu, fun _ => List.getElem?_set_ne fun r => hu (by rw [← r]; exact bl.u)⟩⟩⟩
      · have := q1 (s.count + 2) f
        rw [← hfe] at this ⊢; exact this
      · exact (getRow_same (List.getElem?_set_ne (by omega))).trans rb
      · exact (getRow_same (List.getElem?_set_ne (by omega))).trans rn
    simp [-exists_and_right, q0]
    rw [bW_bool]
    constructor
    · intro hfu
      rw [hfu] at done
      exact done true rfl
    · intro hfu
      rw [hfu] at done
      refine done _ ?_
      rw [Bool.false_or, Bool.eq_iff_iff, decide_eq_true_eq, decide_eq_true_eq]; omega
  · rintro x44 x45 x46 x47 H ⟨hv, b2, rb2, rn2, y2⟩
    simp only [List.cons.injEq, and_true] at hv
    obtain ⟨rfl, rfl, rfl, rfl⟩ := hv
    have lH := getRow_lt rn2
    obtain ⟨ev2, av2, q0, q1⟩ := b2.upd
    rw [ldW_one, rb2]
    simp [-exists_and_right, q0]
    rw [bW_bool]
    constructor
    · intro hfu
      refine gcV_same (hq _ _ ?_ y2)
      rw [pc_full hfu]; exact b2
    · intro hfu
      have nf : ¬ s.new.full = true := by rw [hfu]; simp
      have rn3 : ∀ t, getRow (H ++ t) (h.length + 1) = some ([.int .i64 op, w64 st.a, w64 st.b, w64 st.c, w64 st.d, .int .i64 mn, .int .i64 mx, lit (ks.map Nd.enc)], .exact) := fun t => getRow_app rn2
      have rb3 : ∀ t, getRow (H ++ t) h.length = some ([pAt i], .exact) := fun t => getRow_app rb2
      simp [-exists_and_right, rn3, rb3]
      have u0 : ∀ j, U j → j < h.length := fun j hj => bl.lt hj
      have b3 : Bld lo i U (H ++ [.row [.int .i64 (s.count : Int)] .exact]) s.new := b2.app
      have y3 : Stay no U h U (H ++ [.row [.int .i64 (s.count : Int)] .exact]) := y2.trans Stay.app
      have q3 : getRow (H ++ [.row [.int .i64 (s.count : Int)] .exact]) i = _ := getRow_app q0
      have rh3 : getRow (H ++ [.row [.int .i64 (s.count : Int)] .exact]) H.length = some ([.int .i64 (s.count : Int)], .exact) := by simp
      have rb4 := rb3 [.row [.int .i64 (s.count : Int)] .exact]
      have rn4 := rn3 [.row [.int .i64 (s.count : Int)] .exact]
      have l4 : (H ++ [AObj.row [.int .i64 (s.count : Int)] .exact]).length = H.length + 1 := by simp
      generalize H ++ [AObj.row [.int .i64 (s.count : Int)] .exact] = H2 at *
      rw [c1]
      rw [bW_dec]
      constructor
      · intro h0
        subst h0
        obtain ⟨ev, av, h1, h2, h3, h4, h5, h6, h7, h8⟩ := b3
        rw [h1]
        show oW (some av) _
        rw [oW_some]
        have hi2 := getRow_lt h1
        refine Acc.pushK (e := encA ((s.count : Int), ((s.count + 1 : Nat) : Int), st)) h8 h3 (by omega) encA_len rfl rfl rfl rfl (by simp [Bs.new]; omega) (by simp [Bs.new]; omega) fun o => ⟨⟨?_, ?_, ?_⟩, fun v' H' a2 f1 f2 f3 => ⟨⟨?_, ?_⟩, ?_⟩⟩
        · exact List.getElem?_append_left (by omega)
        · exact List.getElem?_append_left (by omega)
        · exact List.getElem?_append_left (by omega)
        · rw [List.getElem?_append_left (by omega)]; exact f1 _ (by omega) fun q => by have := u0 _ ((h7 _).2 (.inr (.inr q))); omega
        · rw [List.getElem?_append_left (by omega)]; exact f1 _ (by omega) fun q => by have := u0 _ ((h7 _).2 (.inr (.inr q))); omega
        · have hr : getRow H' i = getRow H2 i := getRow_same (f1 i hi2 h6)
          rw [st1 (hr.trans h1) (by simp) a2.cell.1 a2.cell.2.1 a2.cell.2.2 (by simp), sW_some]
          have n1 : ¬ lies v' i := fun q => (f2 i q).elim h6 fun r => by omega
          refine gcV_same (hq _ (fun j => j = i ∨ lies ev j ∨ lies v' j) ?_ (y3.trans ⟨by simpa using f3, fun j hj hu => ⟨fun q => ?_, fun _ => ?_⟩⟩))
          · rw [pc_set nf]
            refine ⟨ev, v', getRow_set (hr.trans h1) _ _, ?_, ?_, fun j q r => ?_, h5, n1, fun j => Iff.rfl, by simp; omega⟩
            · exact h2.congr fun j q => (List.getElem?_set_ne fun r => h5 (by rw [r]; exact q)).trans (f1 j (h2.lt q) fun r => h4 j q r)
            · have a3 := a2.congr (H' := H'.set i (AObj.row ([Value.int IntKind.i64 ↑s.new.count, ev, av, Value.int IntKind.i64 0, Value.int IntKind.i64 0, Value.bool s.new.full].set 2 v') .exact)) fun j q => List.getElem?_set_ne fun r => n1 (by rw [r]; exact q)
              simpa [Bs.new_arcs] using a3
            · rcases f2 j r with x | x
              · exact h4 j q x
              · have := h2.lt q; omega
          · rw [h7 j] at hu
            rcases q with x | x | x
            · exact hu (.inl x)
            · exact hu (.inr (.inl x))
            · rcases f2 j x with y | y
              · exact hu (.inr (.inr y))
              · omega
          · rw [h7 j] at hu
            rw [List.getElem?_set_ne fun r => hu (.inl r.symm)]
            exact f1 j hj fun q => hu (.inr (.inr q))
      · intro h0
        rw [bW_dec]
        constructor
        · intro h2
          subst h2
          have hk : ∀ k ∈ ks, k.Good := by cases g; assumption
          have hwt : (Nd.mk 2 st mn mx ks).wt = 1 + Nd.wts ks := by simp [Nd.wt]
          have hkl := wts_len (l := ks)
          refine ⟨AltI lo i U h s ks, ks.length, gcL_same ⟨0, U, rfl, by simpa using b3, y3, rb4, ubj, rfl, by omega⟩, ?_⟩
          rintro k x83 x84 x85 x86 x87 x88 G ⟨j, U1, hv, b4, y4, rb5, ub5, hk5, hj⟩
          simp only [List.cons.injEq, and_true] at hv
          obtain ⟨rfl, rfl, rfl, rfl, rfl, rfl⟩ := hv
          rw [n_lss, oW_some, bW_dec]
          constructor
          · intro hlt
            have hlt' : j < ks.length := by omega
            have htk : ks.take (j + 1) = ks.take j ++ [ks[j]] := by rw [List.take_add_one, List.getElem?_eq_getElem hlt']; rfl
            have hmem : ks[j] ∈ ks := by simp
            have gr := foldAlt_by (b := s.count) (e := s.count + 1) (ks := ks.take j) (s := s.new) fun k hk' => pc_by (hk k (List.mem_of_mem_take hk'))
            have hw1 := wts_take hlt'
            have hw2 := wts_le (l := ks) (j := j + 1)
            have hfl : ((ks.take (j + 1)).map Nd.pc).foldl (altF s.count (s.count + 1)) s.new = altF s.count (s.count + 1) (((ks.take j).map Nd.pc).foldl (altF s.count (s.count + 1)) s.new) ks[j].pc := by
              rw [htk, List.map_append, List.foldl_append]; rfl
            generalize ((ks.take j).map Nd.pc).foldl (altF s.count (s.count + 1)) s.new = s5 at *
            unfold Bs.grows at gr
            rw [Bs.new_count, Bs.new_eps, Bs.new_arcs] at gr
            refine ix_lit hlt' (Nd.enc_len _) ?_
            rw [ldPlitN, oW_some]
            refine boxN ?_
            have rb6 : getRow (G ++ [AObj.row (cellsOf ks[j].enc) .exact]) h.length = some ([pAt i], .exact) := getRow_app rb5
            rw [ldW_one, rb6]
            show oW (some (pAt i)) _
            rw [oW_some, ldN2, oW_some]
            have gk := pc_by (hk _ hmem) s5
            unfold Bs.grows at gk
            have hlh : h.length < G.length := getRow_lt rb5
            refine hp _ hmem (b4.app) (by unfold Bs.fits; omega) fun h5 U5 b5 y5 => ?_
            have z5 := y5.low.2 _ hlh ub5
            have rb7 := (getRow_same (z5.2 id)).trans rb5
            rw [extract_tuple, extract_tuple]
            show oW (some _) fun v99 => oW (some _) fun v100 => _
            rw [oW_some, oW_some, ldW_one, rb7]
            show oW (some (pAt i)) _
            rw [oW_some]
            refine beps_spec b5 (by omega) fun h6 U6 b6 y6 => ?_
            have hl6 : h.length < h5.length := Nat.lt_of_lt_of_le hlh y5.low.1
            have z6 := y6.2 _ hl6 z5.1
            have rb8 := (getRow_same (z6.2 id)).trans rb7
            rw [ldW_one, rb8]
            show oW (some (pAt i)) _
            rw [oW_some]
            refine beps_spec b6 (by rw [Bs.eps1_eps]; omega) fun h7 U7 b7 y7 => ?_
            have z7 := y7.2 _ (Nat.lt_of_lt_of_le hl6 y6.1) z6.1
            have rb9 := (getRow_same (z7.2 id)).trans rb8
            rw [n_add (by omega), oW_some]
            refine ⟨ks.length - (j + 1), by omega, gcL_same ⟨j + 1, U7, by simp, ?_, ((y4.trans y5.low).trans y6).trans y7, rb9, z7.1, rfl, by omega⟩⟩
            rw [hfl]; exact b7
          · intro hge
            have : j = ks.length := by omega
            subst this
            rw [List.take_length] at b4
            refine gcV_same (hq _ _ ?_ y4)
            rw [pc_alt nf]; exact b4
        · intro h2
          rw [bW_dec]
          constructor
          · intro h1
            subst h1
            have hk : ∀ k ∈ ks, k.Good := by cases g; assumption
            have hwt : (Nd.mk 1 st mn mx ks).wt = 1 + Nd.wts ks := by simp [Nd.wt]
            have hkl := wts_len (l := ks)
            have uh : ¬ U H.length := fun q => by have := u0 _ q; omega
            refine ⟨CatI lo i H.length U h s ks, ks.length, gcL_same ⟨0, U, rfl, ⟨by simpa using b3, rb4, rh3, ubj, uh, by omega, y3.weak fun _ q => q.elim⟩, rfl, by omega⟩, ?_⟩
            rintro k x116 x117 x118 x119 x120 x121 x122 x123 G ⟨j, U1, hv, o4, hk5, hj⟩
            simp only [List.cons.injEq, and_true] at hv
            obtain ⟨rfl, rfl, rfl, rfl, rfl, rfl, rfl, rfl⟩ := hv
            rw [n_lss, oW_some, bW_dec]
            constructor
            · intro hlt
              have hlt' : j < ks.length := by omega
              have htk : ks.take (j + 1) = ks.take j ++ [ks[j]] := by rw [List.take_add_one, List.getElem?_eq_getElem hlt']; rfl
              have hmem : ks[j] ∈ ks := by simp
              have gr := foldCat_by (ks := ks.take j) (p := (s.new, s.count)) fun k hk' => pc_by (hk k (List.mem_of_mem_take hk'))
              have hw1 := wts_take hlt'
              have hw2 := wts_le (l := ks) (j := j + 1)
              have hfl : ((ks.take (j + 1)).map Nd.pc).foldl (fun p f => onF f p) (s.new, s.count) = onF ks[j].pc (((ks.take j).map Nd.pc).foldl (fun p f => onF f p) (s.new, s.count)) := by
                rw [htk, List.map_append, List.foldl_append]; rfl
              generalize ((ks.take j).map Nd.pc).foldl (fun p f => onF f p) (s.new, s.count) = p5 at *
              unfold Bs.grows at gr
              rw [Bs.new_count, Bs.new_eps, Bs.new_arcs] at gr
              refine ix_lit hlt' (Nd.enc_len _) ?_
              rw [ldPlitN, oW_some]
              refine boxN ?_
              rw [ldN2, oW_some]
              refine on_step (hk _ hmem) (hp _ hmem) o4.app (by unfold Bs.fits; omega) fun h5 U5 o5 y5 => ?_
              rw [n_add (by omega), oW_some]
              refine ⟨ks.length - (j + 1), by omega, gcL_same ⟨j + 1, U5, by simp, ?_, rfl, by omega⟩⟩
              rw [hfl]; exact o5
            · intro hge
              have : j = ks.length := by omega
              subst this
              rw [List.take_length] at o4
              have gr := foldCat_by (ks := ks) (p := (s.new, s.count)) fun k hk' => pc_by (hk k hk')
              unfold Bs.grows at gr
              rw [Bs.new_count, Bs.new_eps, Bs.new_arcs] at gr
              rw [ldW_one, o4.2.1]
              show oW (some (pAt i)) _
              rw [oW_some, ldW_one, o4.2.2.1]
              show oW (some (.int .i64 _)) _
              rw [oW_some]
              refine on_eps o4 (by omega) fun h6 U6 o6 y6 => ?_
              refine gcV_same (hq _ U6 ?_ ?_)
              · rw [pc_cat nf]; exact o6.1
              · exact ⟨o6.2.2.2.2.2.2.1, fun j hj hu => ⟨(o6.2.2.2.2.2.2.2 j hj hu).1, fun _ => (o6.2.2.2.2.2.2.2 j hj hu).2 (by omega)⟩⟩
          · intro h1
            obtain ⟨kd, hop, hks, gk, m1, m2, m3, m4⟩ : ∃ kd, op = 3 ∧ ks = [kd] ∧ kd.Good ∧ 0 ≤ mn ∧ mn ≤ 32 ∧ mx ≤ 32 ∧ (mx < 0 ∨ mn ≤ mx) := by
              cases g
              · omega
              · omega
              · omega
              · exact ⟨_, rfl, rfl, by assumption, by assumption, by assumption, by assumption, by assumption⟩
            subst hop hks
            have uh : ¬ U H.length := fun q => by have := u0 _ q; omega
            have hwt : (Nd.mk 3 st mn mx [kd]).wt = 1 + (mn.toNat + (mx - mn).toNat + 1) * kd.wt := by simp [Nd.wt, Nd.wts]
            have hkw := Nd.wt_pos (n := kd)
            have o3 : On lo i h.length H.length U h (s.new, s.count) U H2 := ⟨b3, rb4, rh3, ubj, uh, by omega, y3.weak fun _ q => q.elim⟩
            refine again_spec gk (hp kd (by simp)) m1 m2 m3 m4 o3 (by unfold Bs.fits; simp only [Bs.new_count, Bs.new_eps, Bs.new_arcs]; omega) fun h5 U5 o5 => ?_
            rw [o5.2.1]
            show oW (some (pAt i)) _
            rw [oW_some, o5.2.2.1]
            show oW (some (.int .i64 _)) _
            rw [oW_some]
            have gr := pc_by g s
            rw [pc_rep nf] at gr
            unfold Bs.grows at gr
            simp only [Bs.eps1_eps] at gr
            refine on_eps o5 (by omega) fun h6 U6 o6 y6 => ?_
            refine gcV_same (hq _ U6 ?_ ?_)
            · rw [pc_rep nf]; exact o6.1
            · exact ⟨o6.2.2.2.2.2.2.1, fun j hj hu => ⟨(o6.2.2.2.2.2.2.2 j hj hu).1, fun _ => (o6.2.2.2.2.2.2.2 j hj hu).2 (by omega)⟩⟩

theorem piece_spec {n : Nd} (g : n.Good) : PieceOk n := by
  induction g with
  | set => exact piece_step .set (fun k hk => by cases hk)
  | cat h ih => exact piece_step (.cat h) ih
  | alt h ih => exact piece_step (.alt h) ih
  | rep h h1 h2 h3 h4 ih => exact piece_step (.rep h h1 h2 h3 h4) fun k hk => by simp at hk; subst hk; exact ih

end Go.Ax
