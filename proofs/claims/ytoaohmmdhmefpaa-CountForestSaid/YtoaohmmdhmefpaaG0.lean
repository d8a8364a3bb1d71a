/- Count: grammars (picked of the texts of seat Ythhknneomcleoaa). -/
import Derived.Test.YtoaohmmdhmefpaaC3
import Derived.Test.YtoaohmmdhmefpaaWc
namespace Go.Ax
open Go Go.Proofs Go.RowKit
abbrev byte (x : Nat) : Value := .int .u8 (x : Int)
end Go.Ax
namespace Go.Ax
open Go Go.Proofs Go.RowKit
def inR (n : Nat) (x : Int) : Prop := 0 ≤ x ∧ x < n
instance (n : Nat) (x : Int) : Decidable (inR n x) := by unfold inR; infer_instance
theorem int_len {l : List Int} : ∀ x ∈ l.map (fun n => Value.int .i64 n), (cellsOf x).length = 1 := fun x hx => by
  obtain ⟨n, _, rfl⟩ := List.mem_map.1 hx; rfl
theorem int_cl {l : List Int} : ∀ e ∈ l.map (fun n => Value.int .i64 n), ∀ x ∈ cellsOf e, Cl x := fun e he x hx => by
  obtain ⟨n, _, rfl⟩ := List.mem_map.1 he
  simp at hx; subst hx; exact .int _ _
theorem Acc.lt {sz n : Nat} {H : Heap} {v : Value} {l : List Value} (a : Acc sz n H v l) {j : Nat} (hj : lies v j) : j < H.length := by
  obtain ⟨o, x, y, e⟩ := hj
  rcases a with ⟨rfl, _⟩ | ⟨q, cap, c, m, h1, rfl, h3, _⟩
  · cases e
  · cases e; exact getRow_lt h3
end Go.Ax
namespace Go.Ax
open Go Go.Proofs Go.RowKit
/-- The bytes of a text. -/
abbrev bytesN (s : ByteArray) : List Nat := s.data.toList.map UInt8.toNat
end Go.Ax
namespace Go.Ax
open Go.RowKit
def itr {α : Type} (f : α → α) : Nat → α → α
  | 0, x => x
  | k + 1, x => itr f k (f x)
theorem itr_succ {α : Type} {f : α → α} : ∀ {k : Nat} {x : α}, itr f (k + 1) x = f (itr f k x)
  | 0, _ => rfl
  | k + 1, x => by rw [itr, itr_succ, itr]
end Go.Ax
namespace Go.Ax
open Go Go.Proofs Go.RowKit
structure Gr where
  names : List ByteArray
  terms : Int
  tokens : List Int
  rules : List (List Int)
  start : Int
abbrev Gr.n (g : Gr) : Nat := g.names.length
abbrev Gr.enc (g : Gr) : Value := .agg #[lit (g.names.map .string), .int .i64 g.terms, ints g.tokens, lit (g.rules.map ints), .int .i64 g.start]
/-- Is a number a made symbol? -/
def Gr.made (g : Gr) (x : Int) : Prop := g.terms ≤ x ∧ inR g.n x
instance (g : Gr) (x : Int) : Decidable (g.made x) := by unfold Gr.made; infer_instance
/-- May a rule be? -/
def Gr.fits (g : Gr) (r : List Int) : Prop := 0 < r.length ∧ r.length ≤ 9 ∧ g.made (r.getD 0 0) ∧ ∀ x ∈ r.drop 1, inR g.n x
instance (g : Gr) (r : List Int) : Decidable (g.fits r) := by unfold Gr.fits; infer_instance
/-- May a grammar be? -/
structure Gr.ok (g : Gr) : Prop where
  t0 : 0 ≤ g.terms
  tn : g.terms ≤ g.n
  tk : (g.tokens.length : Int) = g.terms
  nn : g.n ≤ 128
  r1 : 1 ≤ g.rules.length
  rr : g.rules.length ≤ 256
  st : g.made g.start
  fit : ∀ r ∈ g.rules, g.fits r
  all : ∀ s : Nat, g.terms ≤ s → s < g.n → ∃ r ∈ g.rules, r.getD 0 0 = s
end Go.Ax
namespace Go.Ax
open Go Go.Proofs Go.RowKit
abbrev Gr.cells (g : Gr) : List Value := [lit (g.names.map .string), .int .i64 g.terms, ints g.tokens, lit (g.rules.map ints), .int .i64 g.start]
abbrev grow (g : Gr) : AObj := .row g.cells .exact
/-- A grammar lies at a place. -/
def GAt (H : Heap) (p : Nat) (g : Gr) : Prop := ∃ m, getRow H p = some (g.cells, m)
theorem GAt.box {h : Heap} {g : Gr} : GAt (h ++ [grow g]) h.length g := ⟨.exact, by rw [row_app0]; rfl⟩
theorem GAt.app {H t : Heap} {p : Nat} {g : Gr} (a : GAt H p g) : GAt (H ++ t) p g := let ⟨m, e⟩ := a; ⟨m, getRow_app e⟩
section
variable {H : Heap} {p : Nat} {g : Gr} (a : GAt H p g) {K : Value → Prop}
include a
theorem GAt.names (k : K (lit (g.names.map .string))) : oW (faW 0 1 (.pointer (some ⟨p, 0, none⟩))) fun v => oW (ldW false 1 H v) K := by
  obtain ⟨m, e⟩ := a; rw [fa_ptr, oW_some, ldW_one, e]; exact oW_some.2 k
theorem GAt.terms (k : K (.int .i64 g.terms)) : oW (faW 1 1 (.pointer (some ⟨p, 0, none⟩))) fun v => oW (ldW false 1 H v) K := by
  obtain ⟨m, e⟩ := a; rw [fa_ptr, oW_some, ldW_one, e]; exact oW_some.2 k
theorem GAt.tokens (k : K (ints g.tokens)) : oW (faW 2 1 (.pointer (some ⟨p, 0, none⟩))) fun v => oW (ldW false 1 H v) K := by
  obtain ⟨m, e⟩ := a; rw [fa_ptr, oW_some, ldW_one, e]; exact oW_some.2 k
theorem GAt.rules (k : K (lit (g.rules.map ints))) : oW (faW 3 1 (.pointer (some ⟨p, 0, none⟩))) fun v => oW (ldW false 1 H v) K := by
  obtain ⟨m, e⟩ := a; rw [fa_ptr, oW_some, ldW_one, e]; exact oW_some.2 k
theorem GAt.start (k : K (.int .i64 g.start)) : oW (faW 4 1 (.pointer (some ⟨p, 0, none⟩))) fun v => oW (ldW false 1 H v) K := by
  obtain ⟨m, e⟩ := a; rw [fa_ptr, oW_some, ldW_one, e]; exact oW_some.2 k
omit a in
theorem GAt.ld (a : GAt H p g) : ldW true 5 H (.pointer (some ⟨p, 0, none⟩)) = some g.enc := by
  obtain ⟨m, e⟩ := a; rw [ldW_agg, e]; rfl
end
theorem box_gr {h : Heap} {g : Gr} : boxA h g.enc = some (.pointer (some ⟨h.length, 0, none⟩), h ++ [grow g]) := by rw [box_agg]
/-- A rule. -/
theorem ix_rules {l : List (List Int)} {n : Nat} {h : Heap} {K : Value → Prop} (hn : n < l.length) (k : K (ints l[n])) : oW (iaS 1 (lit (l.map ints)) (.int .i64 (n : Int))) fun v => oW (ldW false 1 h v) K :=
  ix_lit hn rfl (by rw [cellsOf_func, ld_plit1, oW_some]; exact k)
theorem lenR {l : List (List Int)} : lenS (lit (l.map ints)) = some (.int .i64 (l.length : Int)) := by rw [lenS_lit, List.length_map]
theorem lenI {l : List Int} : lenS (ints l) = some (.int .i64 (l.length : Int)) := by rw [lenS_lit, List.length_map]
theorem lenN {l : List ByteArray} : lenS (lit (l.map .string)) = some (.int .i64 (l.length : Int)) := by rw [lenS_lit, List.length_map]
theorem ixK {l : List Int} {n : Nat} {h : Heap} {K : Value → Value → Prop} (hn : n < l.length) (k : K (plit [.int .i64 l[n]]) (.int .i64 l[n])) : oW (iaS 1 (ints l) (.int .i64 (n : Int))) fun v => oW (ldW false 1 h v) fun w => K v w := by
  refine ⟨plit [.int .i64 l[n]], iaS_lit (e := .int .i64 l[n]) (by omega) (by simp [hn]) rfl, _, ld_plit1, k⟩
theorem ix0 {l : List Int} {h : Heap} {K : Value → Value → Prop} (hn : 0 < l.length) (k : K (plit [.int .i64 (l.getD 0 0)]) (.int .i64 (l.getD 0 0))) : oW (iaS 1 (ints l) (.int .i64 0)) fun v => oW (ldW false 1 h v) fun w => K v w :=
  ixK (n := 0) hn (by rw [List.getD_eq_getElem?_getD, List.getElem?_eq_getElem hn] at k; exact k)
theorem kept_same {vs : List Value} {h : Heap} : keptW vs h h := fun _ _ _ _ => rfl
theorem gcV_box {h t : Heap} {v : Value} {Q : Value → Heap → Prop} (hc : Cl v) (hq : Q v h) : gcV h Q v (h ++ t) := gcV_end (.cl hc) hq
end Go.Ax
namespace Go.Ax
open Go Go.Proofs Go.RowKit
/-- Lengths that a machine has. -/
structure Gr.Fin (g : Gr) : Prop where
  ln : g.names.length ≤ 9223372036854775807
  lt : g.tokens.length ≤ 9223372036854775807
  lr : g.rules.length ≤ 9223372036854775807
  rl : ∀ r ∈ g.rules, r.length ≤ 9223372036854775807
/-- All but the rules. -/
def Gr.pre (g : Gr) : Prop := 0 ≤ g.terms ∧ g.terms ≤ g.n ∧ (g.tokens.length : Int) = g.terms ∧ g.n ≤ 128 ∧ 1 ≤ g.rules.length ∧ g.rules.length ≤ 256 ∧ g.made g.start
theorem ok_iff {g : Gr} : g.ok ↔ g.pre ∧ (∀ r ∈ g.rules, g.fits r) ∧ ∀ s : Nat, g.terms ≤ s → s < g.n → ∃ r ∈ g.rules, r.getD 0 0 = s :=
  ⟨fun h => ⟨⟨h.t0, h.tn, h.tk, h.nn, h.r1, h.rr, h.st⟩, h.fit, h.all⟩, fun ⟨⟨a, b, c, d, e, f, i⟩, j, k⟩ => ⟨a, b, c, d, e, f, i, j, k⟩⟩
open Classical in
noncomputable def Gr.chk (g : Gr) : Int := if g.ok then 0 else 1
theorem take_succ' {α : Type} {l : List α} {i : Nat} (h : i < l.length) : l.take (i + 1) = l.take i ++ [l[i]] := by rw [List.take_add_one, List.getElem?_eq_getElem h]; rfl
end Go.Ax
namespace Go.Ax
open Go Go.Proofs Go.RowKit
/-- Does a rule make a symbol? -/
def hds (x : Int) (r : List Int) : Bool := decide (0 < r.length ∧ r.getD 0 0 = x)
/-- The rules that make a symbol, of the first ones. -/
def Gr.byTo (g : Gr) (x : Int) (i : Nat) : List Int := ((List.range i).filter fun j => hds x (g.rules.getD j [])).map fun (j : Nat) => (j : Int)
def Gr.byL (g : Gr) (x : Int) : List Int := g.byTo x g.rules.length
theorem byTo_len {g : Gr} {x : Int} {i : Nat} : (g.byTo x i).length ≤ i := by
  unfold Gr.byTo
  rw [List.length_map]
  exact Nat.le_trans (List.length_filter_le _ _) (by simp)
theorem byTo_succ {g : Gr} {x : Int} {i : Nat} (h : i < g.rules.length) : g.byTo x (i + 1) = if hds x g.rules[i] = true then g.byTo x i ++ [(i : Int)] else g.byTo x i := by
  unfold Gr.byTo
  have : g.rules.getD i [] = g.rules[i] := by rw [List.getD_eq_getElem?_getD, List.getElem?_eq_getElem h]; rfl
  rw [List.range_succ, List.filter_append, List.map_append]
  simp only [List.filter_cons, List.filter_nil, this]
  split
  · rfl
  · simp
theorem mem_byL {g : Gr} {x y : Int} : y ∈ g.byL x ↔ inR g.rules.length y ∧ hds x (g.rules.getD y.toNat []) = true := by
  unfold Gr.byL Gr.byTo inR
  rw [List.mem_map]
  constructor
  · rintro ⟨j, hj, rfl⟩
    obtain ⟨h1, h2⟩ := List.mem_filter.1 hj
    have := List.mem_range.1 h1
    exact ⟨⟨by omega, by omega⟩, by simpa using h2⟩
  · rintro ⟨⟨h1, h2⟩, h3⟩
    exact ⟨y.toNat, List.mem_filter.2 ⟨List.mem_range.2 (by omega), h3⟩, by omega⟩
theorem refBy_spec {g : Gr} (hl : g.rules.length ≤ 1000000000) {x : Int} {h : Heap} {Q : Value → Heap → Prop} (hq : Q (ints (g.byL x)) h) : acall Try.prog F_homographref16_By [g.enc, .int .i64 x] h Q := by
  apply W_homographref16_By_ok
  unfold W_homographref16_By
  rw [box_gr, hW_some]
  have hB : (h ++ [grow g]).length = h.length + 1 := by simp
  refine ⟨fun k vs H => ∃ (i : Nat) (v : Value) (t : Heap), vs = [.int .i64 x, .pointer (some ⟨h.length, 0, none⟩), v, .int .i64 (i : Int)] ∧ H = h ++ [grow g] ++ t ∧ k = g.rules.length - i ∧ i ≤ g.rules.length ∧ Acc 1 (h.length + 1) H v ((g.byTo x i).map fun x => .int .i64 x),
    g.rules.length, gcL_same ⟨0, _, [], rfl, by simp, by omega, by omega, Acc.nil⟩, ?_⟩
  rintro k x7 x8 x9 x10 H ⟨i, v, t, hv, rfl, hk, hi, ac⟩
  simp only [List.cons.injEq, and_true] at hv
  obtain ⟨rfl, rfl, rfl, rfl⟩ := hv
  have ga : GAt (h ++ [grow g] ++ t) h.length g := GAt.box.app
  refine ga.rules ?_
  rw [lenR, oW_some, n_lss, oW_some, bW_dec]
  have hbl := byTo_len (g := g) (x := x) (i := i)
  constructor
  · intro hlt
    have hlt' : i < g.rules.length := by omega
    have hs := byTo_succ (x := x) hlt'
    have no : hds x g.rules[i] = false → oW (binN .add (.int .i64 (i : Int)) (.int .i64 1)) fun v29 => ∃ m8, m8 < k ∧ gcL h ((fun k vs H => ∃ (i : Nat) (v : Value) (t : Heap), vs = [.int .i64 x, .pointer (some ⟨h.length, 0, none⟩), v, .int .i64 (i : Int)] ∧ H = h ++ [grow g] ++ t ∧ k = g.rules.length - i ∧ i ≤ g.rules.length ∧ Acc 1 (h.length + 1) H v ((g.byTo x i).map fun x => .int .i64 x)) m8) [.int .i64 x, .pointer (some ⟨h.length, 0, none⟩), x9, v29] (h ++ [grow g] ++ t) := fun q => by
      rw [n_add (by omega), oW_some]
      exact ⟨g.rules.length - (i + 1), by omega, gcL_same ⟨i + 1, x9, t, by simp, rfl, rfl, by omega, by rw [hs, if_neg (by simp [q])]; exact ac⟩⟩
    refine ga.rules (ix_rules hlt' ?_)
    rw [lenI, oW_some, n_gtr, oW_some, bW_dec]
    constructor
    · intro h0
      have h0' : 0 < g.rules[i].length := by omega
      refine ga.rules (ix_rules hlt' (ix0 h0' ?_))
      rw [n_eql, oW_some, bW_dec]
      constructor
      · intro he
        refine Acc.push hB ac (by omega) int_len rfl rfl rfl rfl (by simp; omega) (by simp; omega) fun v' g' a2 _ _ _ => ?_
        rw [n_add (by omega), oW_some]
        exact ⟨g.rules.length - (i + 1), by omega, gcL_same ⟨i + 1, v', g', by simp, rfl, rfl, by omega, by rw [hs, if_pos (show hds x g.rules[i] = true from decide_eq_true ⟨h0', he⟩), List.map_append]; exact a2⟩⟩
      · intro he
        exact no (by unfold hds; rw [decide_eq_false]; exact fun z => he z.2)
    · intro h0
      rw [bW_false]
      exact no (by unfold hds; rw [decide_eq_false]; exact fun z => h0 (by omega))
  · intro hge
    have : i = g.rules.length := by omega
    subst this
    exact ac.done hB ⟨_, rfl⟩ (by omega) int_len int_cl hq
theorem refMade_spec {g : Gr} {x : Int} {h : Heap} {Q : Value → Heap → Prop} (hq : Q (.bool (decide (g.terms ≤ x ∧ x < g.n))) h) : acall Try.prog F_homographref16_made [g.enc, .int .i64 x] h Q := by
  apply W_homographref16_made_ok
  unfold W_homographref16_made
  rw [box_gr, hW_some]
  refine GAt.terms .box ?_
  rw [n_geq, oW_some, bW_dec]
  refine ⟨fun h0 => GAt.names .box ?_, fun h0 => ?_⟩
  · rw [lenN, oW_some, n_lss, oW_some]
    have : decide (x < (g.names.length : Int)) = decide (g.terms ≤ x ∧ x < (g.n : Int)) := by rw [decide_eq_decide]; unfold Gr.n; omega
    rw [this]
    exact gcV_box (.bool _) hq
  · rw [decide_eq_false (fun q => h0 q.1)] at hq
    exact gcV_box (.bool _) hq
def Rk1 (h : Heap) (g : Gr) (k : Nat) (vs : List Value) (H : Heap) : Prop :=
  ∃ i : Nat, vs = [.pointer (some ⟨h.length, 0, none⟩), .int .i64 (i : Int)] ∧ H = h ++ [grow g] ∧ k = g.rules.length - i ∧ i ≤ g.rules.length ∧ ∀ r ∈ g.rules.take i, g.fits r
def Rk2 (h : Heap) (g : Gr) (i : Nat) (r : List Int) (k : Nat) (vs : List Value) (H : Heap) : Prop :=
  ∃ j : Nat, vs = [.pointer (some ⟨h.length, 0, none⟩), .int .i64 (i : Int), ints r, .int .i64 (j : Int)] ∧ H = h ++ [grow g] ∧ k = r.length - j ∧ 1 ≤ j ∧ j ≤ r.length ∧ ∀ x ∈ (r.drop 1).take (j - 1), inR g.n x
def Rk3 (h : Heap) (g : Gr) (k : Nat) (vs : List Value) (H : Heap) : Prop :=
  ∃ s : Nat, vs = [.pointer (some ⟨h.length, 0, none⟩), .int .i64 (s : Int)] ∧ H = h ++ [grow g] ∧ k = g.n - s ∧ g.terms ≤ s ∧ s ≤ g.n ∧ ∀ q : Nat, g.terms ≤ q → q < s → ∃ r ∈ g.rules, r.getD 0 0 = q
theorem refCheck_spec {g : Gr} (hf : g.Fin) {h : Heap} {Q : Value → Heap → Prop} (hq : Q (.int .i64 g.chk) h) : acall Try.prog F_homographref16_Check [g.enc] h Q := by
  have no : ¬ g.ok → ∀ t, gcV h Q (.int .i64 1) (h ++ t) := fun hn t => by
    unfold Gr.chk at hq
    rw [if_neg hn] at hq
    exact gcV_box (.int _ _) hq
  have no' : ¬ g.pre → ∀ t, gcV h Q (.int .i64 1) (h ++ t) := fun hn t => no (fun q => hn (ok_iff.1 q).1) t
  have l1 := hf.ln
  have l2 := hf.lt
  have l3 := hf.lr
  apply W_homographref16_Check_ok
  unfold W_homographref16_Check
  rw [box_gr, hW_some]
  refine ⟨fun vs H => vs = [.pointer (some ⟨h.length, 0, none⟩)] ∧ H = h ++ [grow g] ∧ g.pre, ?_, ?_⟩
  · refine GAt.terms .box ?_
    rw [n_lss, oW_some, bW_dec]
    refine ⟨fun q => by rw [bW_true]; exact no' (fun p => by have := p.1; omega) _, fun c0 => GAt.terms .box (GAt.names .box ?_)⟩
    rw [lenN, oW_some, n_gtr, oW_some, bW_dec]
    refine ⟨fun q => by rw [bW_true]; exact no' (fun p => by have := p.2.1; unfold Gr.n at this; omega) _, fun c1 => GAt.tokens .box ?_⟩
    rw [lenI, oW_some]
    refine GAt.terms .box ?_
    rw [n_neq, oW_some, bW_dec]
    refine ⟨fun q => by rw [bW_true]; exact no' (fun p => q p.2.2.1) _, fun c2 => GAt.names .box ?_⟩
    rw [lenN, oW_some, n_gtr, oW_some, bW_dec]
    refine ⟨fun q => by rw [bW_true]; exact no' (fun p => by have := p.2.2.2.1; unfold Gr.n at this; omega) _, fun c3 => GAt.rules .box ?_⟩
    rw [lenR, oW_some, n_lss, oW_some, bW_dec]
    refine ⟨fun q => by rw [bW_true]; exact no' (fun p => by have := p.2.2.2.2.1; omega) _, fun c4 => GAt.rules .box ?_⟩
    rw [lenR, oW_some, n_gtr, oW_some, bW_dec]
    refine ⟨fun q => by rw [bW_true]; exact no' (fun p => by have := p.2.2.2.2.2.1; omega) _, fun c5 => ?_⟩
    rw [GAt.ld .box, oW_some]
    refine GAt.start .box (callW_plain.2 (refMade_spec ?_))
    rw [u_not, oW_some, bW_bool]
    refine ⟨fun q => no' (fun p => by have := p.2.2.2.2.2.2; unfold Gr.made inR at this; simp at q; omega) _, fun c6 => gcL_same ⟨rfl, rfl, by omega, by unfold Gr.n; omega, by simpa using c2, by unfold Gr.n; omega, by omega, by omega, ?_⟩⟩
    simp at c6
    exact ⟨c6.1, by omega, c6.2⟩
  rintro x37 h38 ⟨hv, rfl, hp⟩
  simp only [List.cons.injEq, and_true] at hv
  subst hv
  refine ⟨Rk1 h g, g.rules.length, gcL_same ⟨0, rfl, rfl, by omega, by omega, by simp⟩, ?_⟩
  rintro k x43 x44 h45 ⟨i, hv, rfl, hk, hi, hfit⟩
  simp only [List.cons.injEq, and_true] at hv
  obtain ⟨rfl, rfl⟩ := hv
  refine GAt.rules .box ?_
  rw [lenR, oW_some, n_lss, oW_some, bW_dec]
  constructor
  · intro hlt
    have hlt' : i < g.rules.length := by omega
    have hmem : g.rules[i] ∈ g.rules := List.getElem_mem hlt'
    have hrl := hf.rl _ hmem
    have bad : ¬ g.fits g.rules[i] → ∀ t, gcV h Q (.int .i64 1) (h ++ t) := fun hn t => no (fun q => hn (q.fit _ hmem)) t
    refine GAt.rules .box (ix_rules hlt' ?_)
    generalize hr : g.rules[i] = r at *
    rw [lenI, oW_some, n_lss, oW_some, bW_dec]
    refine ⟨fun q => by rw [bW_true]; exact bad (fun z => by have := z.1; omega) _, fun c0 => ?_⟩
    rw [oW_some, n_gtr, oW_some, bW_dec]
    refine ⟨fun q => by rw [bW_true]; exact bad (fun z => by have := z.2.1; omega) _, fun c1 => ?_⟩
    have c0' : 0 < r.length := by omega
    rw [GAt.ld .box, oW_some]
    refine ix0 c0' (callW_plain.2 (refMade_spec ?_))
    refine ⟨kept_same, ?_⟩
    rw [u_not, oW_some, bW_bool]
    refine ⟨fun q => bad (fun z => by have := z.2.2.1; unfold Gr.made inR at this; simp only [Bool.not_eq_true', decide_eq_false_iff_not] at q; omega) _, fun c2 => ?_⟩
    have hmd : g.made (r.getD 0 0) := by
      have hp1 := hp.1
      simp only [Bool.not_eq_false', decide_eq_true_eq] at c2
      exact ⟨c2.1, by omega, c2.2⟩
    refine ⟨Rk2 h g i r, r.length - 1, gcL_same ⟨1, rfl, rfl, by omega, by omega, by omega, by simp⟩, ?_⟩
    rintro k2 x60 x61 x62 x63 h64 ⟨j, hv, rfl, hk2, hj1, hj2, hin⟩
    simp only [List.cons.injEq, and_true] at hv
    obtain ⟨rfl, rfl, rfl, rfl⟩ := hv
    rw [lenI, oW_some, n_lss, oW_some, bW_dec]
    have fit_of : (∀ x ∈ r.drop 1, inR g.n x) → g.fits r := fun q => ⟨c0', by omega, hmd, q⟩
    constructor
    · intro hltj
      have hltj' : j < r.length := by omega
      have hdr : r[j] ∈ r.drop 1 := by
        rw [List.mem_iff_getElem?]
        exact ⟨j - 1, by rw [List.getElem?_drop, show 1 + (j - 1) = j by omega, List.getElem?_eq_getElem hltj']⟩
      refine ix_ints hltj' ?_
      rw [n_lss, oW_some, bW_dec]
      refine ⟨fun q => by rw [bW_true]; exact bad (fun z => by have := z.2.2.2 _ hdr; unfold inR at this; omega) _, fun d0 => ix_ints hltj' (GAt.names .box ?_)⟩
      rw [lenN, oW_some, n_geq, oW_some, bW_dec]
      refine ⟨fun q => bad (fun z => by have := z.2.2.2 _ hdr; unfold inR Gr.n at this; omega) _, fun d1 => ?_⟩
      rw [n_add (by omega), oW_some]
      refine ⟨r.length - (j + 1), by omega, gcL_same ⟨j + 1, by simp, rfl, rfl, by omega, by omega, fun x hx => ?_⟩⟩
      rw [show j + 1 - 1 = (j - 1) + 1 by omega, take_succ' (by simp; omega)] at hx
      rcases List.mem_append.1 hx with q | q
      · exact hin x q
      · simp only [List.mem_singleton] at q
        subst q
        rw [List.getElem_drop]
        have : r[1 + (j - 1)] = r[j] := by congr 1; omega
        rw [this]
        unfold inR Gr.n; omega
    · intro hgej
      rw [List.take_of_length_le (by simp; omega)] at hin
      rw [n_add (by omega), oW_some]
      refine ⟨g.rules.length - (i + 1), by omega, gcL_same ⟨i + 1, by simp, rfl, rfl, by omega, fun r' hr' => ?_⟩⟩
      rw [take_succ' hlt'] at hr'
      rcases List.mem_append.1 hr' with q | q
      · exact hfit r' q
      · simp only [List.mem_singleton, hr] at q; subst q; exact fit_of hin
  · intro hge
    have hil : i = g.rules.length := by omega
    subst hil
    rw [List.take_length] at hfit
    obtain ⟨p1, p2, p3, p4, p5, p6, p7⟩ := id hp
    obtain ⟨tn, htn⟩ := Int.eq_ofNat_of_zero_le p1
    refine GAt.terms .box ?_
    refine ⟨Rk3 h g, g.n - tn, gcL_same ⟨tn, by rw [htn], rfl, rfl, by omega, by omega, fun q q1 q2 => by omega⟩, ?_⟩
    rintro k3 x y h3 ⟨s, hv, rfl, hk3, hs1, hs2, hall⟩
    simp only [List.cons.injEq, and_true] at hv
    obtain ⟨rfl, rfl⟩ := hv
    refine GAt.names .box ?_
    rw [lenN, oW_some, n_lss, oW_some, bW_dec]
    constructor
    · intro hlt
      rw [GAt.ld .box, oW_some]
      refine callW_plain.2 (refBy_spec (by omega) ?_)
      rw [lenI, oW_some, n_eql, oW_some, bW_dec]
      constructor
      · intro h0
        refine no (fun ok => ?_) _
        obtain ⟨r, hr, e⟩ := ok.all s hs1 (by unfold Gr.n; omega)
        obtain ⟨j, hj, rfl⟩ := List.mem_iff_getElem.1 hr
        have : (j : Int) ∈ g.byL s := mem_byL.2 ⟨⟨by omega, by omega⟩, by
          rw [Int.toNat_natCast, List.getD_eq_getElem?_getD, List.getElem?_eq_getElem hj]
          unfold hds
          exact decide_eq_true ⟨(hfit _ hr).1, e⟩⟩
        have hlen : (g.byL s).length = 0 := by omega
        rw [List.eq_nil_of_length_eq_zero hlen] at this
        cases this
      · intro h0
        rw [n_add (by omega), oW_some]
        refine ⟨g.n - (s + 1), by unfold Gr.n at *; omega, gcL_same ⟨s + 1, by simp, rfl, rfl, by omega, by unfold Gr.n; omega, fun q q1 q2 => ?_⟩⟩
        by_cases e : q = s
        · subst e
          obtain ⟨y, hy⟩ := List.exists_mem_of_length_pos (l := g.byL q) (by omega)
          obtain ⟨h1, h2⟩ := mem_byL.1 hy
          unfold inR at h1
          unfold hds at h2
          rw [List.getD_eq_getElem?_getD, List.getElem?_eq_getElem (by omega : y.toNat < g.rules.length)] at h2
          exact ⟨g.rules[y.toNat]'(by omega), List.getElem_mem _, (of_decide_eq_true h2).2⟩
        · exact hall q q1 (by omega)
    · intro hge
      have ok : g.ok := ok_iff.2 ⟨hp, hfit, fun q q1 q2 => hall q q1 (by unfold Gr.n at *; omega)⟩
      unfold Gr.chk at hq
      rw [if_pos ok] at hq
      exact gcV_box (.int _ _) hq
end Go.Ax
namespace Go.Ax
open Go Go.Proofs Go.RowKit
/-- Rows of ints, each a slice of its own. -/
structure RowsAt (n0 : Nat) (H : Heap) (v : Value) (vals : List Value) (rows : List (List Int)) : Prop where
  acc : Acc 1 n0 H v vals
  len : vals.length = rows.length
  row : ∀ i (p : i < vals.length) (q : i < rows.length), Acc 1 n0 H vals[i] (rows[i].map fun x => .int .i64 x)
  sep : ∀ i (p : i < vals.length) j, lies vals[i] j → ¬ lies v j
theorem acc_cell {sz n : Nat} {H : Heap} {v : Value} {l : List Value} (a : Acc sz n H v l) : okVal v = true ∧ cellsOf v = [v] ∧ okCell v = true := by
  rcases a with ⟨rfl, _⟩ | ⟨q, cap, c, m, _, rfl, _⟩ <;> exact ⟨rfl, rfl, rfl⟩
theorem RowsAt.cells {n0 : Nat} {H : Heap} {v : Value} {vals : List Value} {rows : List (List Int)} (a : RowsAt n0 H v vals rows) : ∀ x ∈ vals, (cellsOf x).length = 1 := fun x hx => by
  obtain ⟨i, hi, rfl⟩ := List.mem_iff_getElem.1 hx
  rw [(acc_cell (a.row i hi (by rw [← a.len]; exact hi))).2.1]; rfl
theorem RowsAt.congr {n0 : Nat} {H H' : Heap} {v : Value} {vals : List Value} {rows : List (List Int)} (a : RowsAt n0 H v vals rows) (e : ∀ j, (lies v j ∨ ∃ x ∈ vals, lies x j) → H'[j]? = H[j]?) : RowsAt n0 H' v vals rows :=
  ⟨a.acc.congr fun j hj => e j (.inl hj), a.len, fun i p q => (a.row i p q).congr fun j hj => e j (.inr ⟨_, List.getElem_mem p, hj⟩), a.sep⟩
/-- One row more. -/
theorem RowsAt.push {n0 : Nat} {B g : Heap} {v : Value} {vals : List Value} {rows : List (List Int)} (hB : B.length = n0) (a : RowsAt n0 (B ++ g) v vals rows) {x : Value} {r : List Int} (ax : Acc 1 n0 (B ++ g) x (r.map fun x => .int .i64 x)) (hx : ∀ j, lies x j → ¬ lies v j) (hb : rows.length ≤ 1000000) {K : Value → Heap → Prop}
    (k : ∀ v' g', RowsAt n0 (B ++ g') v' (vals ++ [x]) (rows ++ [r]) → K v' (B ++ g')) : hW (bslW (B ++ g) 1 [(.slice none 0 0)] [(0, 1, x)]) fun v1 h1 => hW (apW 1 24 h1 v v1) K := by
  have hl := a.len
  obtain ⟨c1, c2, c3⟩ := acc_cell ax
  refine Acc.push hB a.acc (by omega) a.cells (e := x) (by rw [c2]; rfl) c1 (by rw [c2]; simp [c3]) rfl (by omega) (by omega) fun v' g' a2 q1 q2 q3 => k v' g' ?_
  have keep : ∀ {y : Value} {l : List Value}, Acc 1 n0 (B ++ g) y l → (∀ j, lies y j → ¬ lies v j) → Acc 1 n0 (B ++ g') y l := fun ay hy => ay.congr fun j hj => q1 j (ay.lt hj) (hy j hj)
  refine ⟨a2, by simp [hl], fun i p q => ?_, fun i p j hj hv => ?_⟩
  · by_cases hi : i < vals.length
    · rw [List.getElem_append_left hi, List.getElem_append_left (by omega)]
      exact keep (a.row i hi (by omega)) fun j hj => a.sep i hi j hj
    · have hie : i = vals.length := by simp at p; omega
      subst hie
      rw [List.getElem_append_right (by omega), List.getElem_append_right (by omega)]
      simp only [hl, Nat.sub_self, List.getElem_singleton]
      exact keep ax hx
  · by_cases hi : i < vals.length
    · rw [List.getElem_append_left hi] at hj
      rcases q2 j hv with w | w
      · exact a.sep i hi j hj w
      · have := (a.row i hi (by omega)).lt hj
        omega
    · have hie : i = vals.length := by simp at p; omega
      subst hie
      rw [List.getElem_append_right (by omega)] at hj
      simp only [Nat.sub_self, List.getElem_singleton] at hj
      rcases q2 j hv with w | w
      · exact hx j hj w
      · have := ax.lt hj
        omega
/-- Frozen with all else. -/
theorem RowsAt.gv {n0 : Nat} {h0 H : Heap} {v : Value} {vals : List Value} {rows : List (List Int)} (hn : h0.length ≤ n0) (a : RowsAt n0 H v vals rows) : Gv (frOf h0.length []) (rOf h0.length []) H (lit (rows.map ints)) v := by
  have hl := a.len
  have hfr : ∀ j, n0 ≤ j → frOf h0.length [] j := fun j hj => ⟨by omega, by simp⟩
  have hfl : vals.flatMap cellsOf = vals := flat_one fun e he => by
    obtain ⟨i, hi, rfl⟩ := List.mem_iff_getElem.1 he
    exact (acc_cell (a.row i hi (by omega))).2.1
  rcases a.acc with ⟨rfl, e⟩ | ⟨q, cap, cc, m, h1, rfl, h3, h4, h5, h6, h7⟩
  · have : rows = [] := List.eq_nil_of_length_eq_zero (by rw [← hl, e]; rfl)
    subst this
    exact .lit0 _ _
  · rw [hfl] at h7
    simp only [Nat.mul_one] at h7 h5
    have := Gv.frzS (fr := frOf h0.length []) (r := rOf h0.length []) (h := H) (rows.map ints).toArray q 0 1 cap cc m (hfr q h1) (getRow_eq h3) (by omega) (fun k p => by simp) (by simp; omega) fun k j p p2 p3 => ?_
    · simpa [hl] using this
    · have hk : k < rows.length := by simpa using p
      have hkm : k < vals.length := by omega
      have hj0 : j = 0 := by simp at p2; exact p2
      subst hj0
      have hc : cc[0 + (k * 1 + 0)] = vals[k] := by
        have h8 := get_take h7 hkm
        rw [List.getElem?_eq_getElem hkm] at h8
        have h9 := List.getElem?_eq_getElem p3
        have e0 : 0 + (k * 1 + 0) = k := by omega
        have h10 : cc[0 + (k * 1 + 0)]? = some vals[k] := by rw [e0]; exact h8
        exact Option.some.inj (h9.symm.trans h10)
      rw [hc]
      have e2 : (cellsOf (rows.map ints).toArray[k])[0]'p2 = ints rows[k] := by simp
      rw [e2]
      have ar := a.row k hkm hk
      exact ar.gv (fun i hi => hfr i (ar.ge hi)) (by omega) int_len int_cl
def mkRowS (bs : List Nat) (n : Nat) (st : Nat × List Int) : Nat × List Int := if st.1 < bs.length then (st.1 + 1, st.2 ++ [((bs[st.1]! % (2 + n) : Nat) : Int)]) else (st.1, st.2 ++ [0])
def mkAt (bs : List Nat) (a : Nat) : Nat := if a < bs.length then a + 1 else a
def mkLong (bs : List Nat) (a : Nat) : Nat := if a < bs.length then bs[a]! % 4 else 1
def mkCnt (bs : List Nat) (a : Nat) : Nat := if a < bs.length then 1 + bs[a]! % 3 else 1
def mkRule (bs : List Nat) (n s : Nat) (st : Nat × List (List Int)) : Nat × List (List Int) :=
  ((itr (mkRowS bs n) (mkLong bs st.1) (mkAt bs st.1, [((2 + s : Nat) : Int)])).1, st.2 ++ [(itr (mkRowS bs n) (mkLong bs st.1) (mkAt bs st.1, [((2 + s : Nat) : Int)])).2])
def mkSym (bs : List Nat) (n : Nat) (st : Nat × List (List Int)) (s : Nat) : Nat × List (List Int) := itr (mkRule bs n s) (mkCnt bs st.1) (mkAt bs st.1, st.2)
def mkN (bs : List Nat) : Nat := mkCnt bs 0
def mkAll (bs : List Nat) : Nat × List (List Int) := (List.range (mkN bs)).foldl (mkSym bs (mkN bs)) (mkAt bs 0, [])
def names5 : List ByteArray := [⟨#[97]⟩, ⟨#[98]⟩, ⟨#[83]⟩, ⟨#[84]⟩, ⟨#[85]⟩]
def mkG (bs : List Nat) : Gr := ⟨names5.take (2 + mkN bs), 2, [0, 1], (mkAll bs).2, 2⟩
theorem mkCnt_le {bs : List Nat} {a : Nat} : 1 ≤ mkCnt bs a ∧ mkCnt bs a ≤ 3 := by unfold mkCnt; split <;> omega
theorem mkLong_le {bs : List Nat} {a : Nat} : mkLong bs a ≤ 3 := by unfold mkLong; split <;> omega
theorem mkRow_ok {bs : List Nat} {n s : Nat} : ∀ {k : Nat} {st : Nat × List Int}, (∃ t, st.2 = ((2 + s : Nat) : Int) :: t ∧ ∀ x ∈ t, inR (2 + n) x) →
    (itr (mkRowS bs n) k st).2.length = st.2.length + k ∧ ∃ t, (itr (mkRowS bs n) k st).2 = ((2 + s : Nat) : Int) :: t ∧ ∀ x ∈ t, inR (2 + n) x
  | 0, st, h => ⟨rfl, h⟩
  | k + 1, st, ⟨t, e, h⟩ => by
    rw [itr]
    have : ∃ t', (mkRowS bs n st).2 = ((2 + s : Nat) : Int) :: t' ∧ ∀ x ∈ t', inR (2 + n) x := by
      unfold mkRowS
      have hm : bs[st.1]! % (2 + n) < 2 + n := Nat.mod_lt _ (by omega)
      split
      · refine ⟨t ++ [_], by simp only [e]; rfl, fun x hx => ?_⟩
        rcases List.mem_append.1 hx with z | z
        · exact h x z
        · simp only [List.mem_singleton] at z; subst z; unfold inR; omega
      · refine ⟨t ++ [_], by simp only [e]; rfl, fun x hx => ?_⟩
        rcases List.mem_append.1 hx with z | z
        · exact h x z
        · simp only [List.mem_singleton] at z; subst z; unfold inR; omega
    obtain ⟨r1, r2⟩ := mkRow_ok (k := k) this
    refine ⟨?_, r2⟩
    rw [r1]
    unfold mkRowS; split <;> simp <;> omega
/-- A rule that is made. -/
def RuleOk (n s : Nat) (r : List Int) : Prop := r.length ≤ 4 ∧ ∃ t, r = ((2 + s : Nat) : Int) :: t ∧ ∀ x ∈ t, inR (2 + n) x
theorem mkRules_ok {bs : List Nat} {n s : Nat} : ∀ {k : Nat} {st : Nat × List (List Int)}, ∃ new, (itr (mkRule bs n s) k st).2 = st.2 ++ new ∧ new.length = k ∧ ∀ r ∈ new, RuleOk n s r
  | 0, st => ⟨[], by simp [itr], rfl, by simp⟩
  | k + 1, st => by
    rw [itr]
    obtain ⟨new, e, hl, h⟩ := mkRules_ok (bs := bs) (n := n) (s := s) (k := k) (st := mkRule bs n s st)
    obtain ⟨r1, r2⟩ := mkRow_ok (bs := bs) (n := n) (s := s) (k := mkLong bs st.1) (st := (mkAt bs st.1, [((2 + s : Nat) : Int)])) ⟨[], rfl, by simp⟩
    refine ⟨(itr (mkRowS bs n) (mkLong bs st.1) (mkAt bs st.1, [((2 + s : Nat) : Int)])).2 :: new, by rw [e]; simp [mkRule], by simp [hl], fun r hr => ?_⟩
    rcases List.mem_cons.1 hr with rfl | hr
    · refine ⟨?_, r2⟩
      rw [r1]
      have := mkLong_le (bs := bs) (a := st.1)
      simp; omega
    · exact h r hr
theorem mkAll_ok {bs : List Nat} {n : Nat} : ∀ {k : Nat} {st : Nat × List (List Int)}, ∃ new, ((List.range k).foldl (mkSym bs n) st).2 = st.2 ++ new ∧ new.length ≤ 3 * k ∧ (∀ r ∈ new, ∃ s, s < k ∧ RuleOk n s r) ∧ ∀ s, s < k → ∃ r ∈ new, r.getD 0 0 = ((2 + s : Nat) : Int)
  | 0, st => ⟨[], by simp, by simp, by simp, by simp⟩
  | k + 1, st => by
    rw [List.range_succ, List.foldl_append]
    obtain ⟨new, e, hl, h, ha⟩ := mkAll_ok (bs := bs) (n := n) (k := k) (st := st)
    generalize hst : (List.range k).foldl (mkSym bs n) st = st1 at e
    obtain ⟨new2, e2, hl2, h2⟩ := mkRules_ok (bs := bs) (n := n) (s := k) (k := mkCnt bs st1.1) (st := (mkAt bs st1.1, st1.2))
    have hc := mkCnt_le (bs := bs) (a := st1.1)
    refine ⟨new ++ new2, ?_, by rw [List.length_append]; omega, fun r hr => ?_, fun s hs => ?_⟩
    · show (mkSym bs n st1 k).2 = _
      unfold mkSym
      rw [e2, e, List.append_assoc]
    · rcases List.mem_append.1 hr with z | z
      · obtain ⟨s, h1, h2⟩ := h r z
        exact ⟨s, by omega, h2⟩
      · exact ⟨k, by omega, h2 r z⟩
    · by_cases hsk : s < k
      · obtain ⟨r, hr, e⟩ := ha s hsk
        exact ⟨r, List.mem_append.2 (.inl hr), e⟩
      · have : s = k := by omega
        subst this
        cases new2 with
        | nil => simp at hl2; omega
        | cons r rest =>
          obtain ⟨_, t, e, _⟩ := h2 r (by simp)
          exact ⟨r, List.mem_append.2 (.inr (by simp)), by rw [e]; rfl⟩
theorem ixZ_str {s : ByteArray} {i : Nat} (h : i < s.size) {K : Value → Prop} (k : K (byte (bytesN s)[i]!)) : oW (ixS (.string s) (.int .i64 (i : Int))) K := by
  have hsz : i < s.data.toList.length := h
  refine ⟨_, ?_, k⟩
  simp only [ixS]
  rw [if_pos (by omega)]
  have e1 : s[(i : Int).toNat]? = some s.data.toList[i] := by
    simp only [Int.toNat_natCast]
    rw [getElem?_pos s i h]; rfl
  rw [e1]
  rw [getElem!_pos (bytesN s) i (by simp [bytesN]; exact h)]
  simp [bytesN]
theorem byteZ_lt {s : ByteArray} {i : Nat} (h : i < s.size) : (bytesN s)[i]! < 256 := by
  have hsz : i < s.data.toList.length := h
  have e : (bytesN s)[i]! = s.data.toList[i].toNat := by
    rw [getElem!_pos (bytesN s) i (by simp [bytesN]; exact h)]
    simp [bytesN]
  rw [e]; exact UInt8.toNat_lt _
theorem bytesZ_len {s : ByteArray} : (bytesN s).length = s.size := by simp [bytesN]
theorem cvb {x : Nat} (hx : x < 256) : cvI .i64 (byte x) = some (.int .i64 (x : Int)) := by
  simp only [cvI]; rw [wrap_i64 (by omega)]
theorem remN {x y : Nat} (hy : y ≠ 0) : binN .rem (.int .i64 (x : Int)) (.int .i64 (y : Int)) = some (.int .i64 ((x % y : Nat) : Int)) := by
  have e : (x : Int).tmod (y : Int) = ((x % y : Nat) : Int) := by rw [Int.tmod_eq_emod_of_nonneg (by omega)]; simp
  rw [n_rem (by omega), e]
abbrev zg : AObj := .row [(.slice none 0 0), (.int .i64 0), (.slice none 0 0), (.slice none 0 0), (.int .i64 0)] .exact
abbrev mkB (h : Heap) (n : Nat) (rv : Value) : Heap := h ++ [zg, .row [.int .i64 0, .int .i64 1] .exact, .row (names5.map .string) .exact, .row [.slice (some ⟨h.length + 2, 0, none⟩) (2 + n) 5, .int .i64 2, .slice (some ⟨h.length + 1, 0, none⟩) 2 2, rv, .int .i64 2] .exact]
theorem mkB_len {h : Heap} {n : Nat} {rv : Value} : (mkB h n rv).length = h.length + 4 := by simp
theorem mkB_row {h : Heap} {n : Nat} {rv : Value} {T : Heap} : getRow (mkB h n rv ++ T) (h.length + 3) = some ([.slice (some ⟨h.length + 2, 0, none⟩) (2 + n) 5, .int .i64 2, .slice (some ⟨h.length + 1, 0, none⟩) 2 2, rv, .int .i64 2], .exact) := by rw [List.append_assoc, row_app]; rfl
theorem mkB_tail {h : Heap} {n : Nat} {rv : Value} {T : Heap} {q : Nat} (hq : h.length + 4 ≤ q) : (mkB h n rv ++ T)[q]? = T[q - (h.length + 4)]? := by
  rw [List.getElem?_append_right (by rw [mkB_len]; exact hq), mkB_len]
theorem mkRowS_inv {s : ByteArray} {n : Nat} {st : Nat × List Int} (h : st.1 ≤ s.size) : (mkRowS (bytesN s) n st).1 ≤ s.size ∧ (mkRowS (bytesN s) n st).2.length = st.2.length + 1 := by
  have blen : (bytesN s).length = s.size := bytesZ_len
  unfold mkRowS
  split
  · rename_i q; rw [blen] at q; exact ⟨q, by simp⟩
  · exact ⟨h, by simp⟩
theorem mkAt_le {s : ByteArray} {a : Nat} (h : a ≤ s.size) : mkAt (bytesN s) a ≤ s.size := by
  have blen : (bytesN s).length = s.size := bytesZ_len
  unfold mkAt
  split
  · rename_i q; rw [blen] at q; exact q
  · exact h
/-- The row of a rule: as the words have it. -/
def RowBlk (I49 : Nat → List Value → Heap → Prop) (k52 : Nat) (x53 x54 v71 x56 x57 x58 x59 x60 v64 v70 : Value) (h65 h : Heap) (Q : Value → Heap → Prop) : Prop :=
(∃ (I72 : Nat → List Value → Heap → Prop) (k73 : Nat), gcL h (I72 k73) [x53, x54, v71, x56, x57, x58, x59, x60, v64, v70, (.int .i64 0)] h65 ∧
∀ k75 : Nat, ∀ x76 : Value, ∀ x77 : Value, ∀ x78 : Value, ∀ x79 : Value, ∀ x80 : Value, ∀ x81 : Value, ∀ x82 : Value, ∀ x83 : Value, ∀ x84 : Value, ∀ x85 : Value, ∀ x86 : Value, ∀ h87, I72 k75 [x76, x77, x78, x79, x80, x81, x82, x83, x84, x85, x86] h87 →
(oW (binN .lss x86 x85) fun v88 =>
(bW v88
(oW (lenStr x76) fun v89 =>
(oW (binN .lss x78 v89) fun v90 =>
(bW v90
(oW (ixS x76 x78) fun v91 =>
(oW (cvI .i64 v91) fun v92 =>
(oW (binN .add (.int .i64 2) x80) fun v93 =>
(oW (binN .rem v92 v93) fun v94 =>
(oW (binN .add x78 (.int .i64 1)) fun v95 =>
(hW (bslW h87 1 [(.int .i64 0)] [(0, 1, v94)]) fun v96 h97 =>
(hW (apW 1 8 h97 x84 v96) fun v98 h99 =>
(oW (binN .add x86 (.int .i64 1)) fun v100 =>
(∃ m74, m74 < k75 ∧ gcL h (I72 m74) [x76, x77, v95, x79, x80, x81, x82, x83, v98, x85, v100] h99)))))))))
(hW (bslW h87 1 [(.int .i64 0)] [(0, 1, (.int .i64 0))]) fun v101 h102 =>
(hW (apW 1 8 h102 x84 v101) fun v103 h104 =>
(oW (binN .add x86 (.int .i64 1)) fun v105 =>
(∃ m74, m74 < k75 ∧ gcL h (I72 m74) [x76, x77, x78, x79, x80, x81, x82, x83, v103, x85, v105] h104)))))))
(oW (faW 3 1 x79) fun v106 =>
(oW (ldW false 1 h87 v106) fun v107 =>
(hW (bslW h87 1 [(.slice none 0 0)] [(0, 1, x84)]) fun v108 h109 =>
(hW (apW 1 24 h109 v107 v108) fun v110 h111 =>
(oW (faW 3 1 x79) fun v112 =>
(sW (stW 1 h111 v112 v110) fun h113 =>
(oW (binN .add x83 (.int .i64 1)) fun v114 =>
(∃ m51, m51 < k52 ∧ gcL h (I49 m51) [x76, x77, x78, x79, x80, x81, x82, v114] h113)))))))))))
def MkR (h : Heap) (s : ByteArray) (n : Nat) (st0 : Nat × List Int) (rules : List (List Int)) (y c i long : Nat) (k : Nat) (vs : List Value) (H : Heap) : Prop :=
  ∃ (j : Nat) (rv x : Value) (T : Heap) (vals : List Value), vs = [.string s, .pointer (some ⟨h.length, 0, none⟩), .int .i64 ((itr (mkRowS (bytesN s) n) j st0).1 : Int), .pointer (some ⟨h.length + 3, 0, none⟩), .int .i64 (n : Int), .int .i64 (y : Int), .int .i64 (c : Int), .int .i64 (i : Int), x, .int .i64 (long : Int), .int .i64 (j : Int)] ∧
    H = mkB h n rv ++ T ∧ RowsAt (h.length + 4) H rv vals rules ∧ Acc 1 (h.length + 4) H x ((itr (mkRowS (bytesN s) n) j st0).2.map fun x => .int .i64 x) ∧ (∀ q, lies x q → ¬ lies rv q ∧ ∀ v ∈ vals, ¬ lies v q) ∧ k = long - j ∧ j ≤ long
theorem rowBlk_spec {I49 : Nat → List Value → Heap → Prop} {k52 : Nat} {h : Heap} {s : ByteArray} (hs : s.size ≤ 1000) {n : Nat} (hn : n ≤ 3) {a0 : Nat} (ha0 : a0 ≤ s.size) {r0 : List Int} (hr0 : r0.length = 1) {rules : List (List Int)} (hru : rules.length ≤ 100) {y c i long : Nat} (hlong : long ≤ 3) (hi : i ≤ 100) {rv x : Value} {T : Heap} {vals : List Value}
    (ra : RowsAt (h.length + 4) (mkB h n rv ++ T) rv vals rules) (ax : Acc 1 (h.length + 4) (mkB h n rv ++ T) x (r0.map fun x => .int .i64 x)) (sep : ∀ q, lies x q → ¬ lies rv q ∧ ∀ v ∈ vals, ¬ lies v q) {Q : Value → Heap → Prop}
    (fin : ∀ rv' T' vals', RowsAt (h.length + 4) (mkB h n rv' ++ T') rv' vals' (rules ++ [(itr (mkRowS (bytesN s) n) long (a0, r0)).2]) →
      ∃ m51, m51 < k52 ∧ gcL h (I49 m51) [.string s, .pointer (some ⟨h.length, 0, none⟩), .int .i64 ((itr (mkRowS (bytesN s) n) long (a0, r0)).1 : Int), .pointer (some ⟨h.length + 3, 0, none⟩), .int .i64 (n : Int), .int .i64 (y : Int), .int .i64 (c : Int), .int .i64 ((i + 1 : Nat) : Int)] (mkB h n rv' ++ T')) :
    RowBlk I49 k52 (.string s) (.pointer (some ⟨h.length, 0, none⟩)) (.int .i64 (a0 : Int)) (.pointer (some ⟨h.length + 3, 0, none⟩)) (.int .i64 (n : Int)) (.int .i64 (y : Int)) (.int .i64 (c : Int)) (.int .i64 (i : Int)) x (.int .i64 (long : Int)) (mkB h n rv ++ T) h Q := by
  have blen : (bytesN s).length = s.size := bytesZ_len
  unfold RowBlk
  refine ⟨MkR h s n (a0, r0) rules y c i long, long, gcL_same ⟨0, rv, x, T, vals, rfl, rfl, ra, ax, sep, by omega, by omega⟩, ?_⟩
  clear ra ax sep
  rintro k x76 x77 x78 x79 x80 x81 x82 x83 x84 x85 x86 H ⟨j, rv, x, T, vals, hv, rfl, ra, ax, sep, hk, hj⟩
  simp only [List.cons.injEq, and_true] at hv
  obtain ⟨rfl, rfl, rfl, rfl, rfl, rfl, rfl, rfl, rfl, rfl, rfl⟩ := hv
  have hB := mkB_len (h := h) (n := n) (rv := rv)
  have inv : ∀ j, (itr (mkRowS (bytesN s) n) j (a0, r0)).1 ≤ s.size ∧ (itr (mkRowS (bytesN s) n) j (a0, r0)).2.length = 1 + j := fun j => by
    induction j with
    | zero => exact ⟨ha0, hr0⟩
    | succ j ih =>
      rw [itr_succ]
      have := mkRowS_inv (n := n) ih.1
      exact ⟨this.1, by omega⟩
  have hsucc := itr_succ (f := mkRowS (bytesN s) n) (k := j) (x := (a0, r0))
  have hj1 := inv j
  generalize hst : itr (mkRowS (bytesN s) n) j (a0, r0) = st at hsucc hj1 ax ⊢
  obtain ⟨a, r⟩ := st
  simp only at hj1 ax
  rw [n_lss, oW_some, bW_dec]
  constructor
  · intro hlt
    have hlt' : j < long := by omega
    have more : ∀ (e : Int) (a' : Nat), mkRowS (bytesN s) n (a, r) = (a', r ++ [e]) → hW (bslW (mkB h n rv ++ T) 1 [(.int .i64 0)] [(0, 1, .int .i64 e)]) fun v96 h97 => hW (apW 1 8 h97 x84 v96) fun v98 h99 => oW (binN .add (.int .i64 (j : Int)) (.int .i64 1)) fun v100 =>
        ∃ m74, m74 < k ∧ gcL h (MkR h s n (a0, r0) rules y c i long m74) [.string s, .pointer (some ⟨h.length, 0, none⟩), .int .i64 (a' : Int), .pointer (some ⟨h.length + 3, 0, none⟩), .int .i64 (n : Int), .int .i64 (y : Int), .int .i64 (c : Int), .int .i64 (i : Int), v98, .int .i64 (long : Int), v100] h99 := fun e a' he => by
      refine Acc.push hB ax (by omega) int_len (e := .int .i64 e) rfl rfl rfl rfl (by simp; omega) (by simp; omega) fun v' g' a2 q1 q2 q3 => ?_
      rw [n_add (by omega), oW_some]
      refine ⟨long - (j + 1), by omega, gcL_same ⟨j + 1, rv, v', g', vals, by rw [hsucc, he]; simp, rfl, ?_, by rw [hsucc, he]; simpa using a2, fun q hq => ?_, rfl, by omega⟩⟩
      · refine ra.congr fun q hq => ?_
        rcases hq with hq | ⟨w, hw, hq⟩
        · exact q1 q (ra.acc.lt hq) fun z => (sep q z).1 hq
        · obtain ⟨p, hp, rfl⟩ := List.mem_iff_getElem.1 hw
          exact q1 q ((ra.row p hp (by rw [← ra.len]; exact hp)).lt hq) fun z => (sep q z).2 _ hw hq
      · rcases q2 q hq with z | z
        · exact sep q z
        · refine ⟨fun w => by have := ra.acc.lt w; omega, fun v hv w => ?_⟩
          obtain ⟨p, hp, rfl⟩ := List.mem_iff_getElem.1 hv
          have := (ra.row p hp (by rw [← ra.len]; exact hp)).lt w
          omega
    rw [lenStr_str, oW_some, n_lss, oW_some, bW_dec]
    constructor
    · intro hla
      have hla' : a < s.size := by omega
      have hb := byteZ_lt hla'
      refine ixZ_str hla' ?_
      generalize hbe : (bytesN s)[a]! = b at *
      rw [cvb hb, oW_some, n_add (by omega), oW_some, show ((2 : Int) + (n : Int)) = ((2 + n : Nat) : Int) by omega, remN (by omega), oW_some, n_add (by omega), oW_some]
      refine more _ (a + 1) ?_
      unfold mkRowS
      rw [if_pos (by rw [blen]; exact hla'), hbe]
    · intro hla
      refine more 0 a ?_
      unfold mkRowS
      rw [if_neg (by rw [blen]; omega)]
  · intro hge
    have hjl : j = long := by omega
    subst hjl
    rw [hst] at fin
    rw [fa_ptr, oW_some, ldW_one, mkB_row]
    show oW (some rv) _
    rw [oW_some]
    refine ra.push hB ax (fun q hq => (sep q hq).1) (by omega) fun v' g' ra2 => ?_
    obtain ⟨c1, c2, c3⟩ := acc_cell ra2.acc
    rw [oW_some, st1 mkB_row (by simp) c1 c2 c3 (by simp), sW_some, n_add (by omega), oW_some, show ((i : Int) + 1) = ((i + 1 : Nat) : Int) by omega]
    have eset : (mkB h n rv ++ g').set (h.length + 3) (.row ([.slice (some ⟨h.length + 2, 0, none⟩) (2 + n) 5, .int .i64 2, .slice (some ⟨h.length + 1, 0, none⟩) 2 2, rv, .int .i64 2].set (0 + 3) v') .exact) = mkB h n v' ++ g' := by
      rw [List.append_assoc, set_app]; simp
    rw [eset]
    refine fin v' g' (vals ++ [x84]) (ra2.congr fun q hq => ?_)
    have hq4 : h.length + 4 ≤ q := by
      rcases hq with z | ⟨w, hw, z⟩
      · exact ra2.acc.ge z
      · obtain ⟨p, hp, rfl⟩ := List.mem_iff_getElem.1 hw
        exact (ra2.row p hp (by rw [← ra2.len]; exact hp)).ge z
    rw [mkB_tail hq4, mkB_tail hq4]
/-- The rules of a symbol: as the words have it. -/
def RuleBlk (I30 : Nat → List Value → Heap → Prop) (k33 : Nat) (x34 x35 v48 x37 x38 x39 v47 : Value) (h40 h : Heap) (Q : Value → Heap → Prop) : Prop :=
(∃ (I49 : Nat → List Value → Heap → Prop) (k50 : Nat), gcL h (I49 k50) [x34, x35, v48, x37, x38, x39, v47, (.int .i64 0)] h40 ∧
∀ k52 : Nat, ∀ x53 : Value, ∀ x54 : Value, ∀ x55 : Value, ∀ x56 : Value, ∀ x57 : Value, ∀ x58 : Value, ∀ x59 : Value, ∀ x60 : Value, ∀ h61, I49 k52 [x53, x54, x55, x56, x57, x58, x59, x60] h61 →
(oW (binN .lss x60 x59) fun v62 =>
(bW v62
(oW (binN .add (.int .i64 2) x58) fun v63 =>
(hW (bslW h61 1 [(.int .i64 0)] [(0, 1, v63)]) fun v64 h65 =>
(oW (lenStr x53) fun v66 =>
(oW (binN .lss x55 v66) fun v67 =>
(bW v67
(oW (ixS x53 x55) fun v68 =>
(oW (cvI .i64 v68) fun v69 =>
(oW (binN .rem v69 (.int .i64 4)) fun v70 =>
(oW (binN .add x55 (.int .i64 1)) fun v71 =>
(∃ (I72 : Nat → List Value → Heap → Prop) (k73 : Nat), gcL h (I72 k73) [x53, x54, v71, x56, x57, x58, x59, x60, v64, v70, (.int .i64 0)] h65 ∧
∀ k75 : Nat, ∀ x76 : Value, ∀ x77 : Value, ∀ x78 : Value, ∀ x79 : Value, ∀ x80 : Value, ∀ x81 : Value, ∀ x82 : Value, ∀ x83 : Value, ∀ x84 : Value, ∀ x85 : Value, ∀ x86 : Value, ∀ h87, I72 k75 [x76, x77, x78, x79, x80, x81, x82, x83, x84, x85, x86] h87 →
(oW (binN .lss x86 x85) fun v88 =>
(bW v88
(oW (lenStr x76) fun v89 =>
(oW (binN .lss x78 v89) fun v90 =>
(bW v90
(oW (ixS x76 x78) fun v91 =>
(oW (cvI .i64 v91) fun v92 =>
(oW (binN .add (.int .i64 2) x80) fun v93 =>
(oW (binN .rem v92 v93) fun v94 =>
(oW (binN .add x78 (.int .i64 1)) fun v95 =>
(hW (bslW h87 1 [(.int .i64 0)] [(0, 1, v94)]) fun v96 h97 =>
(hW (apW 1 8 h97 x84 v96) fun v98 h99 =>
(oW (binN .add x86 (.int .i64 1)) fun v100 =>
(∃ m74, m74 < k75 ∧ gcL h (I72 m74) [x76, x77, v95, x79, x80, x81, x82, x83, v98, x85, v100] h99)))))))))
(hW (bslW h87 1 [(.int .i64 0)] [(0, 1, (.int .i64 0))]) fun v101 h102 =>
(hW (apW 1 8 h102 x84 v101) fun v103 h104 =>
(oW (binN .add x86 (.int .i64 1)) fun v105 =>
(∃ m74, m74 < k75 ∧ gcL h (I72 m74) [x76, x77, x78, x79, x80, x81, x82, x83, v103, x85, v105] h104)))))))
(oW (faW 3 1 x79) fun v106 =>
(oW (ldW false 1 h87 v106) fun v107 =>
(hW (bslW h87 1 [(.slice none 0 0)] [(0, 1, x84)]) fun v108 h109 =>
(hW (apW 1 24 h109 v107 v108) fun v110 h111 =>
(oW (faW 3 1 x79) fun v112 =>
(sW (stW 1 h111 v112 v110) fun h113 =>
(oW (binN .add x83 (.int .i64 1)) fun v114 =>
(∃ m51, m51 < k52 ∧ gcL h (I49 m51) [x76, x77, x78, x79, x80, x81, x82, v114] h113)))))))))))))))
(∃ (I115 : Nat → List Value → Heap → Prop) (k116 : Nat), gcL h (I115 k116) [x53, x54, x55, x56, x57, x58, x59, x60, v64, (.int .i64 1), (.int .i64 0)] h65 ∧
∀ k118 : Nat, ∀ x119 : Value, ∀ x120 : Value, ∀ x121 : Value, ∀ x122 : Value, ∀ x123 : Value, ∀ x124 : Value, ∀ x125 : Value, ∀ x126 : Value, ∀ x127 : Value, ∀ x128 : Value, ∀ x129 : Value, ∀ h130, I115 k118 [x119, x120, x121, x122, x123, x124, x125, x126, x127, x128, x129] h130 →
(oW (binN .lss x129 x128) fun v131 =>
(bW v131
(oW (lenStr x119) fun v132 =>
(oW (binN .lss x121 v132) fun v133 =>
(bW v133
(oW (ixS x119 x121) fun v134 =>
(oW (cvI .i64 v134) fun v135 =>
(oW (binN .add (.int .i64 2) x123) fun v136 =>
(oW (binN .rem v135 v136) fun v137 =>
(oW (binN .add x121 (.int .i64 1)) fun v138 =>
(hW (bslW h130 1 [(.int .i64 0)] [(0, 1, v137)]) fun v139 h140 =>
(hW (apW 1 8 h140 x127 v139) fun v141 h142 =>
(oW (binN .add x129 (.int .i64 1)) fun v143 =>
(∃ m117, m117 < k118 ∧ gcL h (I115 m117) [x119, x120, v138, x122, x123, x124, x125, x126, v141, x128, v143] h142)))))))))
(hW (bslW h130 1 [(.int .i64 0)] [(0, 1, (.int .i64 0))]) fun v144 h145 =>
(hW (apW 1 8 h145 x127 v144) fun v146 h147 =>
(oW (binN .add x129 (.int .i64 1)) fun v148 =>
(∃ m117, m117 < k118 ∧ gcL h (I115 m117) [x119, x120, x121, x122, x123, x124, x125, x126, v146, x128, v148] h147)))))))
(oW (faW 3 1 x122) fun v149 =>
(oW (ldW false 1 h130 v149) fun v150 =>
(hW (bslW h130 1 [(.slice none 0 0)] [(0, 1, x127)]) fun v151 h152 =>
(hW (apW 1 24 h152 v150 v151) fun v153 h154 =>
(oW (faW 3 1 x122) fun v155 =>
(sW (stW 1 h154 v155 v153) fun h156 =>
(oW (binN .add x126 (.int .i64 1)) fun v157 =>
(∃ m51, m51 < k52 ∧ gcL h (I49 m51) [x119, x120, x121, x122, x123, x124, x125, v157] h156))))))))))))))))
(oW (binN .add x58 (.int .i64 1)) fun v158 =>
(∃ m32, m32 < k33 ∧ gcL h (I30 m32) [x53, x54, x55, x56, x57, v158] h61)))))
def MkU (h : Heap) (s : ByteArray) (n y : Nat) (st0 : Nat × List (List Int)) (c : Nat) (k : Nat) (vs : List Value) (H : Heap) : Prop :=
  ∃ (i : Nat) (rv : Value) (T : Heap) (vals : List Value), vs = [.string s, .pointer (some ⟨h.length, 0, none⟩), .int .i64 ((itr (mkRule (bytesN s) n y) i st0).1 : Int), .pointer (some ⟨h.length + 3, 0, none⟩), .int .i64 (n : Int), .int .i64 (y : Int), .int .i64 (c : Int), .int .i64 (i : Int)] ∧
    H = mkB h n rv ++ T ∧ RowsAt (h.length + 4) H rv vals (itr (mkRule (bytesN s) n y) i st0).2 ∧ k = c - i ∧ i ≤ c
theorem ruleBlk_spec {I30 : Nat → List Value → Heap → Prop} {k33 : Nat} {h : Heap} {s : ByteArray} (hs : s.size ≤ 1000) {n : Nat} (hn : n ≤ 3) {a0 : Nat} (ha0 : a0 ≤ s.size) {rules : List (List Int)} (hru : rules.length ≤ 50) {y c : Nat} (hy : y ≤ 3) (hc : c ≤ 3) {rv : Value} {T : Heap} {vals : List Value}
    (ra : RowsAt (h.length + 4) (mkB h n rv ++ T) rv vals rules) {Q : Value → Heap → Prop}
    (fin : ∀ rv' T' vals', RowsAt (h.length + 4) (mkB h n rv' ++ T') rv' vals' (itr (mkRule (bytesN s) n y) c (a0, rules)).2 → (itr (mkRule (bytesN s) n y) c (a0, rules)).1 ≤ s.size →
      ∃ m32, m32 < k33 ∧ gcL h (I30 m32) [.string s, .pointer (some ⟨h.length, 0, none⟩), .int .i64 ((itr (mkRule (bytesN s) n y) c (a0, rules)).1 : Int), .pointer (some ⟨h.length + 3, 0, none⟩), .int .i64 (n : Int), .int .i64 ((y + 1 : Nat) : Int)] (mkB h n rv' ++ T')) :
    RuleBlk I30 k33 (.string s) (.pointer (some ⟨h.length, 0, none⟩)) (.int .i64 (a0 : Int)) (.pointer (some ⟨h.length + 3, 0, none⟩)) (.int .i64 (n : Int)) (.int .i64 (y : Int)) (.int .i64 (c : Int)) (mkB h n rv ++ T) h Q := by
  have blen : (bytesN s).length = s.size := bytesZ_len
  have inv1 : ∀ (k : Nat) (st : Nat × List Int), st.1 ≤ s.size → (itr (mkRowS (bytesN s) n) k st).1 ≤ s.size := fun k => by
    induction k with
    | zero => exact fun st h => h
    | succ k ih =>
      intro st h
      rw [itr]
      exact ih _ (mkRowS_inv h).1
  have inv : ∀ i, (itr (mkRule (bytesN s) n y) i (a0, rules)).1 ≤ s.size ∧ (itr (mkRule (bytesN s) n y) i (a0, rules)).2.length = rules.length + i := fun i => by
    induction i with
    | zero => exact ⟨ha0, rfl⟩
    | succ i ih =>
      rw [itr_succ]
      refine ⟨inv1 _ _ (mkAt_le ih.1), ?_⟩
      show (_ ++ [_]).length = _
      simp only [List.length_append, List.length_singleton]; omega
  unfold RuleBlk
  refine ⟨MkU h s n y (a0, rules) c, c, gcL_same ⟨0, rv, T, vals, rfl, rfl, ra, by omega, by omega⟩, ?_⟩
  clear ra
  rintro k x53 x54 x55 x56 x57 x58 x59 x60 H ⟨i, rv, T, vals, hv, rfl, ra, hk, hi⟩
  simp only [List.cons.injEq, and_true] at hv
  obtain ⟨rfl, rfl, rfl, rfl, rfl, rfl, rfl, rfl⟩ := hv
  have hB := mkB_len (h := h) (n := n) (rv := rv)
  have hsucc := itr_succ (f := mkRule (bytesN s) n y) (k := i) (x := (a0, rules))
  have hi1 := inv i
  rw [n_lss, oW_some, bW_dec]
  constructor
  · intro hlt
    generalize itr (mkRule (bytesN s) n y) i (a0, rules) = st at *
    obtain ⟨a, rs⟩ := st
    simp only at hi1 ra
    rw [n_add (by omega), oW_some, show ((2 : Int) + (y : Int)) = ((2 + y : Nat) : Int) by omega]
    refine bsl1 (e := .int .i64 ((2 + y : Nat) : Int)) rfl rfl rfl ?_
    rw [cellsOf_int, List.append_assoc (mkB h n rv)]
    have ra' : RowsAt (h.length + 4) (mkB h n rv ++ (T ++ [AObj.row [.int .i64 ((2 + y : Nat) : Int)] .exact])) rv vals rs := by
      rw [← List.append_assoc]
      refine ra.congr fun q hq => ?_
      have : q < (mkB h n rv ++ T).length := by
        rcases hq with z | ⟨w, hw, z⟩
        · exact ra.acc.lt z
        · obtain ⟨p, hp, rfl⟩ := List.mem_iff_getElem.1 hw
          exact (ra.row p hp (by rw [← ra.len]; exact hp)).lt z
      rw [List.getElem?_append_left this]
    have ax : Acc 1 (h.length + 4) (mkB h n rv ++ (T ++ [AObj.row [.int .i64 ((2 + y : Nat) : Int)] .exact])) (.slice (some ⟨(mkB h n rv ++ T).length, 0, none⟩) 1 1) (([((2 + y : Nat) : Int)] : List Int).map fun x => .int .i64 x) := by
      have := Acc.made (sz := 1) (n := h.length + 4) (H := mkB h n rv ++ T) (l := [Value.int .i64 ((2 + y : Nat) : Int)]) (by simp) (by rw [List.length_append, hB]; omega)
      rw [List.append_assoc] at this
      exact this
    have sep : ∀ q, lies (.slice (some ⟨(mkB h n rv ++ T).length, 0, none⟩) 1 1) q → ¬ lies rv q ∧ ∀ v ∈ vals, ¬ lies v q := fun q hq => by
      have hqe : q = (mkB h n rv ++ T).length := by obtain ⟨_, _, _, e⟩ := hq; cases e; rfl
      subst hqe
      refine ⟨fun w => by have := ra.acc.lt w; omega, fun v hv w => ?_⟩
      obtain ⟨p, hp, rfl⟩ := List.mem_iff_getElem.1 hv
      have := (ra.row p hp (by rw [← ra.len]; exact hp)).lt w
      omega
    have done : ∀ (a1 long : Nat), a1 = mkAt (bytesN s) a → long = mkLong (bytesN s) a → a1 ≤ s.size →
        RowBlk (MkU h s n y (a0, rules) c) k (.string s) (.pointer (some ⟨h.length, 0, none⟩)) (.int .i64 (a1 : Int)) (.pointer (some ⟨h.length + 3, 0, none⟩)) (.int .i64 (n : Int)) (.int .i64 (y : Int)) (.int .i64 (c : Int)) (.int .i64 (i : Int)) (.slice (some ⟨(mkB h n rv ++ T).length, 0, none⟩) 1 1) (.int .i64 (long : Int)) (mkB h n rv ++ (T ++ [AObj.row [.int .i64 ((2 + y : Nat) : Int)] .exact])) h Q := fun a1 long h1 h2 h3 => by
      refine rowBlk_spec hs hn h3 (r0 := [((2 + y : Nat) : Int)]) rfl (by omega) (by rw [h2]; exact mkLong_le) (by omega) ra' ax sep fun rv' T' vals' ra2 => ?_
      subst h1 h2
      refine ⟨c - (i + 1), by omega, gcL_same ⟨i + 1, rv', T', vals', by rw [hsucc]; rfl, rfl, by rw [hsucc]; exact ra2, rfl, by omega⟩⟩
    rw [lenStr_str, oW_some, n_lss, oW_some, bW_dec]
    constructor
    · intro hla
      have hla' : a < s.size := by omega
      have hb := byteZ_lt hla'
      refine ixZ_str hla' ?_
      rw [cvb hb, oW_some, show (4 : Int) = ((4 : Nat) : Int) from rfl, remN (by omega), oW_some, n_add (by omega), oW_some]
      have e := done (a + 1) _ (by unfold mkAt; rw [if_pos (by rw [blen]; exact hla')]) (by unfold mkLong; rw [if_pos (by rw [blen]; exact hla')]) hla'
      rw [show (((a + 1 : Nat)) : Int) = (a : Int) + 1 from by omega] at e
      exact e
    · intro hla
      exact done a 1 (by unfold mkAt; rw [if_neg (by rw [blen]; omega)]) (by unfold mkLong; rw [if_neg (by rw [blen]; omega)]) hi1.1
  · intro hge
    have hic : i = c := by omega
    subst hic
    rw [n_add (by omega), oW_some, show ((y : Int) + 1) = ((y + 1 : Nat) : Int) by omega]
    exact fin rv T vals ra hi1.1
end Go.Ax
namespace Go.Ax
open Go Go.Proofs Go.RowKit
abbrev mkB0 (h : Heap) : Heap := h ++ [zg, .row [.int .i64 0, .int .i64 1] .exact, .row (names5.map .string) .exact, .row [.slice (some ⟨h.length + 2, 0, none⟩) 5 5, .int .i64 2, .slice (some ⟨h.length + 1, 0, none⟩) 2 2, .slice none 0 0, .int .i64 0] .exact]
def MkS (h : Heap) (s : ByteArray) (n : Nat) (k : Nat) (vs : List Value) (H : Heap) : Prop :=
  ∃ (y : Nat) (rv : Value) (T : Heap) (vals : List Value), vs = [.string s, .pointer (some ⟨h.length, 0, none⟩), .int .i64 (((List.range y).foldl (mkSym (bytesN s) n) (mkAt (bytesN s) 0, [])).1 : Int), .pointer (some ⟨h.length + 3, 0, none⟩), .int .i64 (n : Int), .int .i64 (y : Int)] ∧
    H = mkB h n rv ++ T ∧ RowsAt (h.length + 4) H rv vals ((List.range y).foldl (mkSym (bytesN s) n) (mkAt (bytesN s) 0, [])).2 ∧ ((List.range y).foldl (mkSym (bytesN s) n) (mkAt (bytesN s) 0, [])).1 ≤ s.size ∧ k = n - y ∧ y ≤ n
theorem names_take {n : Nat} (hn : n ≤ 3) : ((names5.map Value.string).drop 0).take ((2 + n) * 1) = ((names5.take (2 + n)).map Value.string).flatMap cellsOf := by
  rw [List.drop_zero, Nat.mul_one, ← List.map_take]
  exact (flat_one fun e he => by obtain ⟨b, _, rfl⟩ := List.mem_map.1 he; rfl).symm
/-- What Make gives, not yet frozen. -/
abbrev mkV (h : Heap) (y : Nat) (rv : Value) : Value := .agg #[.slice (some ⟨h.length + 2, 0, none⟩) (2 + y) 5, .int .i64 2, .slice (some ⟨h.length + 1, 0, none⟩) 2 2, rv, .int .i64 2]
abbrev mkH (h : Heap) (y : Nat) (rv : Value) (T : Heap) : Heap := h ++ (.row [.slice (some ⟨h.length + 2, 0, none⟩) (2 + y) 5, .int .i64 2, .slice (some ⟨h.length + 1, 0, none⟩) 2 2, rv, .int .i64 2] .exact :: .row [.int .i64 0, .int .i64 1] .exact :: .row (names5.map .string) .exact :: .row [.slice (some ⟨h.length + 2, 0, none⟩) (2 + y) 5, .int .i64 2, .slice (some ⟨h.length + 1, 0, none⟩) 2 2, rv, .int .i64 2] .exact :: T)
theorem make16_raw {s : ByteArray} (hs : s.size ≤ 1000) {h : Heap} {Q : Value → Heap → Prop} (hq : ∀ rv vals T, RowsAt (h.length + 4) (mkH h (mkN (bytesN s)) rv T) rv vals (mkG (bytesN s)).rules → gcV h Q (mkV h (mkN (bytesN s)) rv) (mkH h (mkN (bytesN s)) rv T)) : acall Try.prog F_homographref16_Make [.string s] h Q := by
  have blen : (bytesN s).length = s.size := bytesZ_len
  apply W_homographref16_Make_ok
  unfold W_homographref16_Make
  rw [letH_eq]
  have L1 : (h ++ [zg]).length = h.length + 1 := by simp
  have b1 : bslW (h ++ [zg]) 2 [(.int .i64 0), (.int .i64 0)] [(0, 1, (.int .i64 0)), (1, 1, (.int .i64 1))] = some (.slice (some ⟨h.length + 1, 0, none⟩) 2 2, h ++ [zg, .row [.int .i64 0, .int .i64 1] .exact]) := by
    simp [bslW, okVal, cellsOf]
  rw [b1, hW_some]
  have b2 : bslW (h ++ [zg, .row [.int .i64 0, .int .i64 1] .exact]) 5 [(.string ⟨#[]⟩), (.string ⟨#[]⟩), (.string ⟨#[]⟩), (.string ⟨#[]⟩), (.string ⟨#[]⟩)] [(0, 1, (.string ⟨#[97]⟩)), (1, 1, (.string ⟨#[98]⟩)), (2, 1, (.string ⟨#[83]⟩)), (3, 1, (.string ⟨#[84]⟩)), (4, 1, (.string ⟨#[85]⟩))] =
      some (.slice (some ⟨h.length + 2, 0, none⟩) 5 5, h ++ [zg, .row [.int .i64 0, .int .i64 1] .exact, .row (names5.map .string) .exact]) := by
    simp [bslW, okVal, cellsOf, names5]
  rw [b2, hW_some]
  rw [show bldW [(.slice none 0 0), (.int .i64 0), (.slice none 0 0), (.slice none 0 0), (.int .i64 0)] [(1, 1, (.int .i64 2)), (2, 1, (.slice (some ⟨h.length + 1, 0, none⟩) 2 2)), (0, 1, (.slice (some ⟨h.length + 2, 0, none⟩) 5 5))] =
    some (.agg #[.slice (some ⟨h.length + 2, 0, none⟩) 5 5, .int .i64 2, .slice (some ⟨h.length + 1, 0, none⟩) 2 2, .slice none 0 0, .int .i64 0]) from rfl, oW_some, letH_eq]
  have L3 : (h ++ [zg, AObj.row [.int .i64 0, .int .i64 1] .exact, AObj.row (names5.map .string) .exact]).length = h.length + 3 := by simp
  rw [L3]
  have st5 : stW 5 (h ++ [zg, AObj.row [.int .i64 0, .int .i64 1] .exact, AObj.row (names5.map .string) .exact] ++ [zg]) (.pointer (some ⟨h.length + 3, 0, none⟩)) (.agg #[.slice (some ⟨h.length + 2, 0, none⟩) 5 5, .int .i64 2, .slice (some ⟨h.length + 1, 0, none⟩) 2 2, .slice none 0 0, .int .i64 0]) = some (mkB0 h) := by
    rw [stW_agg, ← L3, row_app0]
    show (some (_, Md.exact)).bind _ = _
    rw [Option.bind_some, if_pos (by simp [okCell]), set_app0]
    simp [mkB0]
  rw [st5, sW_some]
  refine ⟨fun vs H => vs = [.string s, .pointer (some ⟨h.length, 0, none⟩), .int .i64 (mkAt (bytesN s) 0 : Int), .pointer (some ⟨h.length + 3, 0, none⟩), .int .i64 (mkN (bytesN s) : Int)] ∧ H = mkB0 h, ?_, ?_⟩
  · rw [lenStr_str, oW_some, n_gtr, oW_some, bW_dec]
    constructor
    · intro h0
      have h0' : 0 < s.size := by omega
      have hb := byteZ_lt h0'
      refine ixZ_str (i := 0) h0' ?_
      rw [cvb hb, oW_some, show (3 : Int) = ((3 : Nat) : Int) from rfl, remN (by omega), oW_some, n_add (by omega), oW_some]
      refine gcL_same ⟨?_, rfl⟩
      unfold mkN mkAt mkCnt
      rw [blen, if_pos h0', if_pos h0']
      simp
    · intro h0
      refine gcL_same ⟨?_, rfl⟩
      unfold mkN mkAt mkCnt
      rw [blen, if_neg (by omega), if_neg (by omega)]
      simp
  rintro x16 x17 x18 x19 x20 h21 ⟨hv, rfl⟩
  simp only [List.cons.injEq, and_true] at hv
  obtain ⟨rfl, rfl, rfl, rfl, rfl⟩ := hv
  have hnN := mkCnt_le (bs := bytesN s) (a := 0)
  have hN : mkN (bytesN s) = mkCnt (bytesN s) 0 := rfl
  generalize hn : mkN (bytesN s) = n at hN
  have hn3 : n ≤ 3 := by omega
  have r0 : getRow (mkB0 h) (h.length + 3) = some ([.slice (some ⟨h.length + 2, 0, none⟩) 5 5, .int .i64 2, .slice (some ⟨h.length + 1, 0, none⟩) 2 2, .slice none 0 0, .int .i64 0], .exact) := by rw [row_app]; rfl
  have r2 : getRow (mkB0 h) (h.length + 2) = some (names5.map .string, .exact) := by rw [row_app]; rfl
  rw [fa_ptr, oW_some, ldW_one, r0]
  show oW (some (.slice (some ⟨h.length + 2, 0, none⟩) 5 5)) _
  rw [oW_some, n_add (by omega), oW_some, show ((2 : Int) + (n : Int)) = ((2 + n : Nat) : Int) by omega]
  have sl : slS 1 (mkB0 h) (.slice (some ⟨h.length + 2, 0, none⟩) 5 5) none (some (.int .i64 ((2 + n : Nat) : Int))) none = some (.slice (some ⟨h.length + 2, 0, none⟩) (2 + n) 5) := by
    simp only [slS, asNat]
    rw [if_pos (by omega)]
    simp only [Int.toNat_natCast]
    rw [if_pos ⟨by omega, by omega, by omega, by omega, by simp⟩, r2]
    simp [Md.openSize]
  rw [sl, oW_some, oW_some, st1 r0 (by simp) rfl rfl rfl (by simp), sW_some]
  have e1 : (mkB0 h).set (h.length + 3) (.row ([.slice (some ⟨h.length + 2, 0, none⟩) 5 5, .int .i64 2, .slice (some ⟨h.length + 1, 0, none⟩) 2 2, .slice none 0 0, .int .i64 0].set (0 + 0) (.slice (some ⟨h.length + 2, 0, none⟩) (2 + n) 5)) .exact) =
      h ++ [zg, .row [.int .i64 0, .int .i64 1] .exact, .row (names5.map .string) .exact, .row [.slice (some ⟨h.length + 2, 0, none⟩) (2 + n) 5, .int .i64 2, .slice (some ⟨h.length + 1, 0, none⟩) 2 2, .slice none 0 0, .int .i64 0] .exact] := by rw [set_app]; rfl
  rw [e1, fa_ptr, oW_some, st1 (c := [.slice (some ⟨h.length + 2, 0, none⟩) (2 + n) 5, .int .i64 2, .slice (some ⟨h.length + 1, 0, none⟩) 2 2, .slice none 0 0, .int .i64 0]) (m := .exact) (by rw [row_app]; rfl) (by simp) rfl rfl rfl (by simp), sW_some]
  have e2 : (h ++ [zg, .row [.int .i64 0, .int .i64 1] .exact, .row (names5.map .string) .exact, .row [.slice (some ⟨h.length + 2, 0, none⟩) (2 + n) 5, .int .i64 2, .slice (some ⟨h.length + 1, 0, none⟩) 2 2, .slice none 0 0, .int .i64 0] .exact]).set (h.length + 3)
      (.row ([.slice (some ⟨h.length + 2, 0, none⟩) (2 + n) 5, .int .i64 2, .slice (some ⟨h.length + 1, 0, none⟩) 2 2, .slice none 0 0, .int .i64 0].set (0 + 4) (.int .i64 2)) .exact) = mkB h n (.slice none 0 0) ++ [] := by rw [set_app, List.append_nil]; rfl
  rw [e2]
  refine ⟨MkS h s n, n, gcL_same ⟨0, .slice none 0 0, [], [], rfl, rfl, ⟨Acc.nil, rfl, by simp, by simp⟩, mkAt_le (Nat.zero_le _), by omega, by omega⟩, ?_⟩
  rintro k x34 x35 x36 x37 x38 x39 h40 ⟨y, rv, T, vals, hv, rfl, ra, hat, hk, hy⟩
  simp only [List.cons.injEq, and_true] at hv
  obtain ⟨rfl, rfl, rfl, rfl, rfl, rfl⟩ := hv
  have hlen : ((List.range y).foldl (mkSym (bytesN s) n) (mkAt (bytesN s) 0, [])).2.length ≤ 3 * y := by
    obtain ⟨new, e, hl, _⟩ := mkAll_ok (bs := bytesN s) (n := n) (k := y) (st := (mkAt (bytesN s) 0, []))
    rw [e]; simpa using hl
  rw [n_lss, oW_some, bW_dec]
  constructor
  · intro hlt
    have hsucc : (List.range (y + 1)).foldl (mkSym (bytesN s) n) (mkAt (bytesN s) 0, []) = mkSym (bytesN s) n ((List.range y).foldl (mkSym (bytesN s) n) (mkAt (bytesN s) 0, [])) y := by rw [List.range_succ, List.foldl_append]; rfl
    generalize (List.range y).foldl (mkSym (bytesN s) n) (mkAt (bytesN s) 0, []) = st at *
    obtain ⟨a, rs⟩ := st
    simp only at ra hat hlen
    have done : ∀ (a1 c : Nat), a1 = mkAt (bytesN s) a → c = mkCnt (bytesN s) a → RuleBlk (MkS h s n) k (.string s) (.pointer (some ⟨h.length, 0, none⟩)) (.int .i64 (a1 : Int)) (.pointer (some ⟨h.length + 3, 0, none⟩)) (.int .i64 (n : Int)) (.int .i64 (y : Int)) (.int .i64 (c : Int)) (mkB h n rv ++ T) h Q := fun a1 c h1 h2 => by
      have hc := mkCnt_le (bs := bytesN s) (a := a)
      refine ruleBlk_spec hs hn3 (by rw [h1]; exact mkAt_le hat) (by omega) (by omega) (by omega) ra fun rv' T' vals' ra2 ha2 => ?_
      subst h1 h2
      exact ⟨n - (y + 1), by omega, gcL_same ⟨y + 1, rv', T', vals', by rw [hsucc]; rfl, rfl, by rw [hsucc]; exact ra2, by rw [hsucc]; exact ha2, rfl, by omega⟩⟩
    rw [lenStr_str, oW_some, n_lss, oW_some, bW_dec]
    constructor
    · intro hla
      have hla' : a < s.size := by simp only at hla; omega
      have hb := byteZ_lt hla'
      refine ixZ_str hla' ?_
      rw [cvb hb, oW_some, show (3 : Int) = ((3 : Nat) : Int) from rfl, remN (by omega), oW_some, n_add (by omega), oW_some, n_add (by simp only; omega), oW_some]
      have e := done (a + 1) (1 + (bytesN s)[a]! % 3) (by unfold mkAt; rw [if_pos (by rw [blen]; exact hla')]) (by unfold mkCnt; rw [if_pos (by rw [blen]; exact hla')])
      rw [show (((a + 1 : Nat)) : Int) = (a : Int) + 1 from by omega, show (((1 + (bytesN s)[a]! % 3 : Nat)) : Int) = 1 + (((bytesN s)[a]! % 3 : Nat) : Int) from by omega] at e
      exact e
    · intro hla
      have e := done a 1 (by unfold mkAt; rw [if_neg (by rw [blen]; simp only at hla; omega)]) (by unfold mkCnt; rw [if_neg (by rw [blen]; simp only at hla; omega)])
      exact e
  · intro hge
    have hyn : y = n := by omega
    subst hyn
    have hres : ((List.range y).foldl (mkSym (bytesN s) y) (mkAt (bytesN s) 0, [])).2 = (mkG (bytesN s)).rules := by
      show _ = (mkAll (bytesN s)).2
      unfold mkAll
      rw [hn]
    rw [hres] at ra
    have ld : ldW true 5 (mkB h y rv ++ T) (.pointer (some ⟨h.length + 3, 0, none⟩)) = some (.agg #[.slice (some ⟨h.length + 2, 0, none⟩) (2 + y) 5, .int .i64 2, .slice (some ⟨h.length + 1, 0, none⟩) 2 2, rv, .int .i64 2]) := by rw [ldW_agg, mkB_row]; rfl
    obtain ⟨c1, c2, c3⟩ := acc_cell ra.acc
    have hz : getRow (mkB h y rv ++ T) h.length = some ([(.slice none 0 0), (.int .i64 0), (.slice none 0 0), (.slice none 0 0), (.int .i64 0)], .exact) := by rw [List.append_assoc, row_app0]; rfl
    rw [ld, oW_some, stW_agg, hz, Option.bind_some, if_pos (by simp [okCell]; exact c3), sW_some]
    generalize hHf : (mkB h y rv ++ T).set h.length _ = Hf
    have hHf' : Hf = h ++ (.row [.slice (some ⟨h.length + 2, 0, none⟩) (2 + y) 5, .int .i64 2, .slice (some ⟨h.length + 1, 0, none⟩) 2 2, rv, .int .i64 2] .exact :: .row [.int .i64 0, .int .i64 1] .exact :: .row (names5.map .string) .exact :: .row [.slice (some ⟨h.length + 2, 0, none⟩) (2 + y) 5, .int .i64 2, .slice (some ⟨h.length + 1, 0, none⟩) 2 2, rv, .int .i64 2] .exact :: T) := by
      rw [← hHf, List.append_assoc, set_app0]; rfl
    have ra3 : RowsAt (h.length + 4) Hf rv vals (mkG (bytesN s)).rules := ra.congr fun q hq => by
      have hq4 : h.length + 4 ≤ q := by
        rcases hq with z | ⟨w, hw, z⟩
        · exact ra.acc.ge z
        · obtain ⟨p, hp, rfl⟩ := List.mem_iff_getElem.1 hw
          exact (ra.row p hp (by rw [← ra.len]; exact hp)).ge z
      rw [← hHf, List.getElem?_set_ne (by omega)]
    have hr0 : getRow Hf h.length = some ([.slice (some ⟨h.length + 2, 0, none⟩) (2 + y) 5, .int .i64 2, .slice (some ⟨h.length + 1, 0, none⟩) 2 2, rv, .int .i64 2], .exact) := by rw [hHf', row_app0]; rfl
    rw [ldP_agg, hr0]
    show oW (some (.agg #[.slice (some ⟨h.length + 2, 0, none⟩) (2 + y) 5, .int .i64 2, .slice (some ⟨h.length + 1, 0, none⟩) 2 2, rv, .int .i64 2])) _
    rw [oW_some]
    have e := hq rv vals T
    rw [hn] at e
    rw [hHf'] at ra3 ⊢
    exact e ra3
theorem mkH_gv {bs : List Nat} {h T : Heap} {rv : Value} {vals : List Value} (ra3 : RowsAt (h.length + 4) (mkH h (mkN bs) rv T) rv vals (mkG bs).rules) {Q : Value → Heap → Prop} (hq : Q (mkG bs).enc h) : gcV h Q (mkV h (mkN bs) rv) (mkH h (mkN bs) rv T) := by
  have hr1 : (mkH h (mkN bs) rv T)[h.length + 1]? = some (.row [.int .i64 0, .int .i64 1] .exact) := by rw [List.getElem?_append_right (by omega)]; simp
  have hr2 : (mkH h (mkN bs) rv T)[h.length + 2]? = some (.row (names5.map .string) .exact) := by rw [List.getElem?_append_right (by omega)]; simp
  have hn3 : mkN bs ≤ 3 := mkCnt_le (bs := bs) (a := 0) |>.2
  have hg := ra3.gv (h0 := h) (by omega)
  have fr : ∀ j, h.length ≤ j → frOf h.length [] j := fun j hj => ⟨hj, by simp⟩
  have gn : Gv (frOf h.length []) (rOf h.length []) (mkH h (mkN bs) rv T) (lit ((mkG bs).names.map .string)) (.slice (some ⟨h.length + 2, 0, none⟩) (2 + mkN bs) 5) := by
    show Gv _ _ _ (lit ((names5.take (2 + mkN bs)).map .string)) _
    refine Gv.frz (sz := 1) (fr _ (by omega)) hr2 (by omega) (fun e he => by obtain ⟨b, _, rfl⟩ := List.mem_map.1 he; rfl) (names_take hn3) (by simp [names5]; omega) (fun e he x hx => by
      obtain ⟨b, _, rfl⟩ := List.mem_map.1 he
      simp at hx; subst hx; exact .str _)
  have gt : Gv (frOf h.length []) (rOf h.length []) (mkH h (mkN bs) rv T) (ints (mkG bs).tokens) (.slice (some ⟨h.length + 1, 0, none⟩) 2 2) :=
    Gv.frz1 (fr _ (by omega)) hr1 rfl fun e he => by
      obtain ⟨b, _, rfl⟩ := List.mem_map.1 he
      exact ⟨rfl, .int _ _⟩
  refine gcV_end (v2 := (mkG bs).enc) (.agg _ _ rfl fun i p q => ?_) hq
  match i, p with
  | 0, _ => exact gn
  | 1, _ => exact .cl (.int _ _)
  | 2, _ => exact gt
  | 3, _ => exact hg
  | 4, _ => exact .cl (.int _ _)
theorem make16_spec {s : ByteArray} (hs : s.size ≤ 1000) {h : Heap} {Q : Value → Heap → Prop} (hq : Q (mkG (bytesN s)).enc h) : acall Try.prog F_homographref16_Make [.string s] h Q :=
  make16_raw hs fun _ _ _ ra => mkH_gv ra hq
end Go.Ax
