/- Ax, rules 4: single steps, for marching through words. -/
import Derived.Test.YtoaohmmdhmefpaaC3
namespace Go.Ax
open Go.RowKit

abbrev natV (n : Nat) : Value := .int .i64 (n : Int)
section
variable {K : Value → Prop} {KH : Value → Heap → Prop} {KS : Heap → Prop} {A B : Prop}
theorem row_last {h : Heap} {c : List Value} {m : Md} : getRow (h ++ [.row c m]) h.length = some (c, m) := by simp
theorem s_some {v : Value} (k : K v) : oW (some v) K := oW_some.2 k
theorem s_inc {a : Nat} (h : a < 9223372036854775807) (k : K (natV (a + 1))) : oW (binN .add (natV a) (.int .i64 1)) K := by rw [n_add (by omega), show ((a : Int) + 1) = ((a + 1 : Nat) : Int) by omega]; exact oW_some.2 k
theorem s_dec {a : Nat} (h0 : 0 < a) (h : a ≤ 9223372036854775807) (k : K (natV (a - 1))) : oW (binN .sub (natV a) (.int .i64 1)) K := by
  rw [n_sub (by omega), show ((a : Int) - 1) = ((a - 1 : Nat) : Int) by omega]; exact oW_some.2 k
theorem s_addN {a b : Nat} (h : a + b ≤ 9223372036854775807) (k : K (natV (a + b))) : oW (binN .add (natV a) (natV b)) K := by rw [n_add (by omega), show ((a : Int) + b) = ((a + b : Nat) : Int) by omega]; exact oW_some.2 k
theorem s_subN {a b : Nat} (h0 : b ≤ a) (h : a ≤ 9223372036854775807) (k : K (natV (a - b))) : oW (binN .sub (natV a) (natV b)) K := by
  rw [n_sub (by omega), show ((a : Int) - b) = ((a - b : Nat) : Int) by omega]; exact oW_some.2 k
theorem s_add {a b : Int} (h : inI (a + b)) (k : K (.int .i64 (a + b))) : oW (binN .add (.int .i64 a) (.int .i64 b)) K := by rw [n_add h]; exact oW_some.2 k
theorem s_sub {a b : Int} (h : inI (a - b)) (k : K (.int .i64 (a - b))) : oW (binN .sub (.int .i64 a) (.int .i64 b)) K := by rw [n_sub h]; exact oW_some.2 k
theorem s_mul {a b : Int} (h : inI (a * b)) (k : K (.int .i64 (a * b))) : oW (binN .mul (.int .i64 a) (.int .i64 b)) K := by rw [n_mul h]; exact oW_some.2 k
theorem s_lss {q : IntKind} {a b : Int} (k : K (.bool (decide (a < b)))) : oW (binN .lss (.int q a) (.int q b)) K := by rw [n_lss]; exact oW_some.2 k
theorem s_leq {q : IntKind} {a b : Int} (k : K (.bool (decide (a ≤ b)))) : oW (binN .leq (.int q a) (.int q b)) K := by rw [n_leq]; exact oW_some.2 k
theorem s_gtr {q : IntKind} {a b : Int} (k : K (.bool (decide (b < a)))) : oW (binN .gtr (.int q a) (.int q b)) K := by rw [n_gtr]; exact oW_some.2 k
theorem s_geq {q : IntKind} {a b : Int} (k : K (.bool (decide (b ≤ a)))) : oW (binN .geq (.int q a) (.int q b)) K := by rw [n_geq]; exact oW_some.2 k
theorem s_eql {q : IntKind} {a b : Int} (k : K (.bool (decide (a = b)))) : oW (binN .eql (.int q a) (.int q b)) K := by rw [n_eql]; exact oW_some.2 k
theorem s_neq {q : IntKind} {a b : Int} (k : K (.bool (decide (a ≠ b)))) : oW (binN .neq (.int q a) (.int q b)) K := by rw [n_neq]; exact oW_some.2 k
theorem s_rng {n i : Nat} {q : IntKind} (hi : i < n) (k : K (plit [natV i])) : oW (iaS 1 (nats (List.range n)) (.int q (i : Int))) K := ix_lit (n := i) (by simpa using hi) rfl (by simpa using k)
theorem s_rep {n i : Nat} {b : Bool} {q : IntKind} (hi : i < n) (k : K (plit [.bool b])) : oW (iaS 1 (bools (List.replicate n b)) (.int q (i : Int))) K := ix_lit (n := i) (by simpa using hi) rfl (by simpa using k)
theorem s_not {b : Bool} (k : K (.bool !b)) : oW (unA .not (.bool b)) K := oW_some.2 k
theorem s_br {p : Prop} [Decidable p] (a : p → A) (b : ¬ p → B) : bW (.bool (decide p)) A B := bW_dec.2 ⟨a, b⟩
theorem s_brT (a : A) : bW (.bool true) A B := bW_true.2 a
theorem s_brF (b : B) : bW (.bool false) A B := bW_false.2 b
theorem s_brB {p : Bool} (a : p = true → A) (b : p = false → B) : bW (.bool p) A B := bW_bool.2 ⟨a, b⟩
theorem s_lenL {es : List Value} (k : K (natV es.length)) : oW (lenS (lit es)) K := by rw [lenS_lit]; exact oW_some.2 k
theorem s_lenM {α : Type} {f : α → Value} {l : List α} (k : K (natV l.length)) : oW (lenS (lit (l.map f))) K := by rw [lenS_lit, List.length_map]; exact oW_some.2 k
theorem s_lenA {sz n : Nat} {H : Heap} {v : Value} {l : List Value} (a : Acc sz n H v l) (k : K (natV l.length)) : oW (lenS v) K := by rw [a.len]; exact oW_some.2 k
theorem s_lenAM {α : Type} {f : α → Value} {sz n : Nat} {H : Heap} {v : Value} {l : List α} (a : Acc sz n H v (l.map f)) (k : K (natV l.length)) : oW (lenS v) K := by rw [a.len, List.length_map]; exact oW_some.2 k
theorem s_ix {α : Type} {f : α → Value} {sz : Nat} {l : List α} {n : Nat} {k : IntKind} (hn : n < l.length) (hz : (cellsOf (f l[n])).length = sz) (k1 : K (plit (cellsOf (f l[n])))) :
    oW (iaS sz (lit (l.map f)) (.int k (n : Int))) K := ix_lit hn hz k1
theorem s_ix0 {α : Type} {f : α → Value} {sz : Nat} {l : List α} {k : IntKind} (hn : 0 < l.length) (hz : (cellsOf (f l[0])).length = sz) (k1 : K (plit (cellsOf (f l[0])))) :
    oW (iaS sz (lit (l.map f)) (.int k 0)) K := ix_lit (n := 0) hn hz k1
theorem s_fap {off : Nat} {cs : List Value} {v : Value} {h : Heap} {sz : Nat} {K : Value → Value → Prop} (e : cs[off]? = some v) (k : K (plit ((cs.drop off).take 1)) v) : oW (faW off 1 (plit cs)) fun p => oW (ldW false sz h p) (K p) := by
  have hl : off < cs.length := (List.getElem?_eq_some_iff.1 e).1
  refine ⟨_, fa_plit (by omega), v, ?_, k⟩
  have : (cs.drop off).take 1 = [v] := by rw [List.drop_eq_getElem_cons hl, List.take_succ_cons, List.take_zero]; rw [List.getElem?_eq_getElem hl] at e; cases e; rfl
  rw [this]; exact ld_plit1
theorem s_ld1 {h : Heap} {sz : Nat} {cs : List Value} {v : Value} (e : cs[0]? = some v) (k : K v) : oW (ldW false sz h (plit cs)) K := by
  cases cs with
  | nil => cases e
  | cons a cs => cases e; exact ⟨_, ld_plit1, k⟩
theorem s_lda {e : Value} {sz : Nat} {h : Heap} (hs : (cellsOf e).length = sz) (he : .agg (cellsOf e).toArray = e) (k : K e) : oW (ldW true sz h (plit (cellsOf e))) K := ⟨_, (ld_plit hs).trans (by rw [he]), k⟩
theorem s_ldA {sz : Nat} {h : Heap} {cs : List Value} (hs : cs.length = sz) (k : K (.agg cs.toArray)) : oW (ldW true sz h (plit cs)) K := ⟨_, ld_plit hs, k⟩
theorem s_row {sz : Nat} {h : Heap} {i o : Nat} {c : List Value} {m : Md} {v : Value} (e : getRow h i = some (c, m)) (hv : c[o]? = some v) (k : K v) : oW (ldW false sz h (.pointer (some ⟨i, o, none⟩))) K := by
  rw [ldW_one, e]; exact ⟨v, hv, k⟩
theorem s_fld {sz sz2 : Nat} {h : Heap} {i off : Nat} {c : List Value} {m : Md} {v : Value} {K : Value → Value → Prop} (e : getRow h i = some (c, m)) (hv : c[off]? = some v) (k : K (.pointer (some ⟨i, 0 + off, none⟩)) v) :
    oW (faW off sz2 (.pointer (some ⟨i, 0, none⟩))) fun p => oW (ldW false sz h p) (K p) := ⟨_, fa_ptr, by rw [Nat.zero_add] at *; exact s_row e hv k⟩
theorem s_rowA {sz : Nat} {h : Heap} {i : Nat} {c : List Value} {m : Md} (e : getRow h i = some (c, m)) (hs : c.length = sz) (k : K (.agg c.toArray)) : oW (ldW true sz h (.pointer (some ⟨i, 0, none⟩))) K := by
  rw [ldW_agg, e, Option.bind_some, if_pos (by simp [hs])]
  refine s_some ?_
  rw [List.drop_zero, ← hs, List.take_length]; exact k
theorem s_fa {sz : Nat} {i o off : Nat} (k : K (.pointer (some ⟨i, o + off, none⟩))) : oW (faW off sz (.pointer (some ⟨i, o, none⟩))) K := s_some k
theorem s_nc {a : Addr} (k : K (.pointer (some a))) : oW (nilCheckA (.pointer (some a))) K := s_some k
theorem s_box {h : Heap} {cs : Array Value} (k : KH (.pointer (some ⟨h.length, 0, none⟩)) (h ++ [.row cs.toList .exact])) : hW (boxA h (.agg cs)) KH := by rw [box_agg]; exact hW_some.2 k
theorem s_ext {a b v : Value} {i : Nat} (e : #[a, b][i]? = some v) (k : K v) : oW (extractA (.tuple #[a, b]) i) K := by rw [extract_tuple, e]; exact oW_some.2 k
theorem s_ext3 {a b c v : Value} {i : Nat} (e : #[a, b, c][i]? = some v) (k : K v) : oW (extractA (.tuple #[a, b, c]) i) K := by rw [extract_tuple3, e]; exact oW_some.2 k
theorem s_e20 {a b : Value} (k : K a) : oW (extractA (.tuple #[a, b]) 0) K := s_ext rfl k
theorem s_e21 {a b : Value} (k : K b) : oW (extractA (.tuple #[a, b]) 1) K := s_ext rfl k
theorem s_e30 {a b c : Value} (k : K a) : oW (extractA (.tuple #[a, b, c]) 0) K := s_ext3 rfl k
theorem s_e31 {a b c : Value} (k : K b) : oW (extractA (.tuple #[a, b, c]) 1) K := s_ext3 rfl k
theorem s_e32 {a b c : Value} (k : K c) : oW (extractA (.tuple #[a, b, c]) 2) K := s_ext3 rfl k
theorem s_pickT {a b : Value} (k : K a) : oW (pickA (.bool true) a b) K := oW_some.2 k
theorem s_pickF {a b : Value} (k : K b) : oW (pickA (.bool false) a b) K := oW_some.2 k
theorem s_eqB {a b : Bool} (k : K (.bool (a == b))) : oW (eqB (.bool a) (.bool b)) K := oW_some.2 k
theorem s_neB {a b : Bool} (k : K (.bool !(a == b))) : oW (neB (.bool a) (.bool b)) K := oW_some.2 k
theorem s_call {P : Program} {g : FuncId} {args : List Value} {h : Heap} (k : acall P g args h KH) : callW P (.func (.func g) #[] #[]) args h KH := callW_plain.2 k

theorem s_let {h : Heap} (k : KS h) : letH h KS := k
theorem s_stA {h : Heap} {sz : Nat} {zs : List Value} {cs : Array Value} (h1 : zs.length = sz) (h2 : cs.size = sz) (h3 : cs.toList.all okCell = true) (k : KS (h ++ [.row cs.toList .exact])) :
    sW (stW sz (h ++ [.row zs .exact]) (.pointer (some ⟨h.length, 0, none⟩)) (.agg cs)) KS := by
  rw [stW_agg, row_app0, row_0, Option.bind_some, if_pos ⟨by simp, h2, h3, by simp [h1]⟩, writeL_all (by simp [h1, h2])]
  refine sW_some.2 ?_
  rw [set_app0]; exact k
theorem s_stV {h : Heap} {z v : Value} (h1 : okVal v = true) (h2 : cellsOf v = [v]) (h3 : okCell v = true) (k : KS (h ++ [.row [v] .exact])) : sW (stW 1 (h ++ [.row [z] .exact]) (.pointer (some ⟨h.length, 0, none⟩)) v) KS := by
  rw [st1 row_last (by simp) h1 h2 h3 (by simp)]
  refine sW_some.2 ?_
  rw [set_app0]; exact k
theorem s_callC {P : Program} {g : FuncId} {c : Value} {args : List Value} {h : Heap} (k : acall P g (args ++ [c]) h KH) : callW P (.func (.func g) #[] #[c]) args h KH := by rw [callW_known]; simpa using k
theorem s_callC2 {P : Program} {g : FuncId} {c d : Value} {args : List Value} {h : Heap} (k : acall P g (args ++ [c, d]) h KH) : callW P (.func (.func g) #[] #[c, d]) args h KH := by rw [callW_known]; simpa using k
theorem s_bld2 {a b : Int} {z1 z2 : Value} (k : K (.agg #[.int .i64 a, .int .i64 b])) : oW (bldW [z1, z2] [(0, 1, .int .i64 a), (1, 1, .int .i64 b)]) K := by
  refine ⟨_, ?_, k⟩; simp [writeL]
theorem s_bld3 {a b c : Int} {z1 z2 z3 : Value} (k : K (.agg #[.int .i64 a, .int .i64 b, .int .i64 c])) : oW (bldW [z1, z2, z3] [(0, 1, .int .i64 a), (1, 1, .int .i64 b), (2, 1, .int .i64 c)]) K := by
  refine ⟨_, ?_, k⟩; simp [writeL]
theorem s_bsl2 {h : Heap} {a b : Int} {z1 z2 : Value} (k : KH (.slice (some ⟨h.length, 0, none⟩) 2 2) (h ++ [.row [.int .i64 a, .int .i64 b] .exact])) : hW (bslW h 2 [z1, z2] [(0, 1, .int .i64 a), (1, 1, .int .i64 b)]) KH := by
  refine ⟨_, _, by simp [bslW, writeL], k⟩
theorem s_bldV2 {u v : Value} {z1 z2 : Value} (h1 : cellsOf u = [u]) (h2 : okVal u = true) (h3 : cellsOf v = [v]) (h4 : okVal v = true) (k : K (.agg #[u, v])) : oW (bldW [z1, z2] [(0, 1, u), (1, 1, v)]) K := by
  refine ⟨_, ?_, k⟩; simp [writeL, h1, h2, h3, h4]
theorem s_kept {vs : List Value} {h : Heap} {C : Prop} (k : C) : keptW vs h h ∧ C := ⟨fun _ _ _ _ => rfl, k⟩
/-- At a loop: values are told in another way; what lies behind the first heap is plain. -/
theorem gcL_cl {h0 t : Heap} {F : List Value → Heap → Prop} {vs vs2 : List Value} (ht : ∀ o ∈ t, ∃ c m, o = .row c m ∧ ∀ x ∈ c, Cl x)
    (gv : GvL (fun _ => False) (idR (h0 ++ t)) (h0 ++ t) vs2 vs) (hf : F vs2 (h0 ++ t)) : gcL h0 F vs (h0 ++ t) := by
  refine .inr ⟨_, _, vs2, _, ⟨fun j hj => idR_lt (by simp; omega), by simp, fun j i e => (idR_of e).1, fun j c m hj => ?_, fun j es hj => ?_, fun j k i hj hk _ _ => by rw [← (idR_of hj).2, ← (idR_of hk).2]⟩, gv, hf⟩
  · have hlt : j < (h0 ++ t).length := (List.getElem?_eq_some_iff.1 hj).1
    refine ⟨j, c, m, idR_lt hlt, hj, rfl, ?_, .inl rfl, fun q => q.elim⟩
    by_cases q : j < h0.length
    · rw [List.getElem?_append_left q] at hj
      exact .inr ⟨rfl, m, hj⟩
    · rw [List.getElem?_append_right (by omega)] at hj
      obtain ⟨c', m', e, hc⟩ := ht _ (List.mem_of_getElem? hj)
      cases e
      refine .inl fun k x y hx hy => ?_
      rw [hx] at hy; cases hy
      exact .cl (hc x (List.mem_of_getElem? hx))
  · have hlt : j < (h0 ++ t).length := (List.getElem?_eq_some_iff.1 hj).1
    refine ⟨j, es, idR_lt hlt, id, hj, rfl, ?_⟩
    by_cases q : j < h0.length
    · rw [List.getElem?_append_left q] at hj
      exact .inr ⟨rfl, hj⟩
    · rw [List.getElem?_append_right (by omega)] at hj
      obtain ⟨c', m', e, hc⟩ := ht _ (List.mem_of_getElem? hj)
      cases e
theorem Gv.here {h : Heap} {i o : Nat} (hi : i < h.length) : Gv (fun _ => False) (idR h) h (.pointer (some ⟨i, o, none⟩)) (.pointer (some ⟨i, o, none⟩)) := .ptr i i o (idR_lt hi)

/-! Things of one cell. -/
abbrev vi (n : Int) : Value := .int .i64 n
theorem vi_len {l : List Int} : ∀ x ∈ l.map vi, (cellsOf x).length = 1 := fun x hx => by obtain ⟨b, _, rfl⟩ := List.mem_map.1 hx; rfl
theorem nv_len {l : List Nat} : ∀ x ∈ l.map natV, (cellsOf x).length = 1 := fun x hx => by obtain ⟨b, _, rfl⟩ := List.mem_map.1 hx; rfl
theorem vb_len {l : List Bool} : ∀ x ∈ l.map Value.bool, (cellsOf x).length = 1 := fun x hx => by obtain ⟨b, _, rfl⟩ := List.mem_map.1 hx; rfl

/-- What lies in a row of things: how many cells, and that they may be stored. -/
structure Things (sz : Nat) {α : Type} (f : α → Value) : Prop where
  len : ∀ x, (cellsOf (f x)).length = sz
  okv : ∀ x, okVal (f x) = true
  okc : ∀ x, (cellsOf (f x)).all okCell = true
  cl : ∀ x, ∀ c ∈ cellsOf (f x), Cl c
section
variable {α : Type} {f : α → Value} {sz : Nat}
theorem Things.lens (t : Things sz f) {l : List α} : ∀ x ∈ l.map f, (cellsOf x).length = sz := fun x hx => by obtain ⟨b, _, rfl⟩ := List.mem_map.1 hx; exact t.len b
theorem Things.oks (t : Things sz f) {l : List α} : ∀ x ∈ l.map f, (cellsOf x).all okCell = true := fun x hx => by obtain ⟨b, _, rfl⟩ := List.mem_map.1 hx; exact t.okc b
theorem Things.cls (t : Things sz f) {l : List α} : ∀ e ∈ l.map f, ∀ x ∈ cellsOf e, Cl x := fun x hx => by obtain ⟨b, _, rfl⟩ := List.mem_map.1 hx; exact t.cl b
theorem Things.clL (t : Things sz f) {l : List α} : Cl (lit (l.map f)) := .lit _ fun e he => t.cls e (by simpa using he)
theorem Things.src (t : Things sz f) {H : Heap} {l : List α} : srcA H sz (lit (l.map f)) = some ((l.map f).length, (l.map f).flatMap cellsOf) := by
  have hz := t.lens (l := l)
  simp only [srcA, List.size_toArray]
  rw [if_pos (by rw [List.all_eq_true]; intro e he; simpa using hz e (by simpa using he))]
/-- One more. -/
theorem Things.push (t : Things sz f) (hs : 0 < sz) {bytes n : Nat} {B g : Heap} {v : Value} {l : List α} {x : α} {zs : List Value} (a : Acc sz n (B ++ g) v (l.map f)) (hB : B.length = n) (hzs : zs.length = sz)
    (hb : (l.length + 1) * bytes ≤ 140737488355328) (h63 : l.length + 1 ≤ 9223372036854775807)
    (k : ∀ v' g', Acc sz n (B ++ g') v' ((l ++ [x]).map f) → (∀ j, j < (B ++ g).length → ¬ lies v j → (B ++ g')[j]? = (B ++ g)[j]?) → (∀ j, lies v' j → lies v j ∨ (B ++ g).length ≤ j) → (B ++ g).length ≤ (B ++ g').length → KH v' (B ++ g')) :
    hW (bslW (B ++ g) 1 zs [(0, sz, f x)]) fun v1 h1 => hW (apW sz bytes h1 v v1) KH :=
  Acc.push hB a hs t.lens (t.len x) (t.okv x) (t.okc x) hzs (by simpa using hb) (by simpa using h63) fun v' g' a' q1 q2 q3 => k v' g' (by rw [List.map_append]; exact a') q1 q2 q3
/-- Several more. -/
theorem Things.more (t : Things sz f) (hs : 0 < sz) {bytes n : Nat} {B g : Heap} {v : Value} {l es : List α} (a : Acc sz n (B ++ g) v (l.map f)) (hB : B.length = n)
    (hb : (l.length + es.length) * bytes ≤ 140737488355328) (h63 : l.length + es.length ≤ 9223372036854775807)
    (k : ∀ v' g', Acc sz n (B ++ g') v' ((l ++ es).map f) → (∀ j, j < (B ++ g).length → ¬ lies v j → (B ++ g')[j]? = (B ++ g)[j]?) → (∀ j, lies v' j → lies v j ∨ (B ++ g).length ≤ j) → (B ++ g).length ≤ (B ++ g').length → KH v' (B ++ g')) :
    hW (apW sz bytes (B ++ g) v (lit (es.map f))) KH :=
  Acc.more hB a hs t.lens t.lens t.oks t.src (by simpa using hb) (by simpa using h63) fun v' g' a' q1 q2 q3 => k v' g' (by rw [List.map_append]; exact a') q1 q2 q3
theorem Things.at1 (t : Things sz f) (hs : 0 < sz) (h1 : ∀ x, cellsOf (f x) = [f x]) {n : Nat} {H : Heap} {v : Value} {l : List α} (a : Acc sz n H v (l.map f)) {j : Nat} {q : IntKind} (hj : j < l.length) (k : K (f l[j])) :
    oW (iaS sz v (.int q (j : Int))) fun p => oW (ldW false sz H p) K :=
  a.at_ hs t.lens (by simpa using hj) (fun z => by cases z) (fun _ => by rw [List.getElem_map]; exact h1 _) (by rw [List.getElem_map]; exact k)
theorem Things.gv (t : Things sz f) (hs : 0 < sz) {n : Nat} {H : Heap} {v : Value} {l : List α} {fr : Nat → Prop} {r : Nat → Option Nat} (a : Acc sz n H v (l.map f)) (hf : ∀ i, n ≤ i → lies v i → fr i) : Gv fr r H (lit (l.map f)) v :=
  a.gv (fun i hi => hf i (a.ge hi) hi) hs t.lens t.cls
/-- A literal of one thing. -/
theorem Things.lit1 (t : Things sz f) {h : Heap} {x : α} {zs : List Value} (hzs : zs.length = sz) (k : ∀ v, Acc sz h.length (h ++ [.row (cellsOf (f x)) .exact]) v ([x].map f) → KH v (h ++ [.row (cellsOf (f x)) .exact])) : hW (bslW h 1 zs [(0, sz, f x)]) KH :=
  bsl1 (t.len x) (t.okv x) hzs (k _ (by
    have := Acc.made (sz := sz) (n := h.length) (H := h) (l := [f x]) (fun y hy => by rw [List.mem_singleton.1 hy]; exact t.len x) (Nat.le_refl _)
    rw [List.flatMap_singleton] at this
    exact this))
theorem Things.done (t : Things sz f) (hs : 0 < sz) {n : Nat} {h0 B g : Heap} {v : Value} {l : List α} {Q : Value → Heap → Prop} (a : Acc sz n (B ++ g) v (l.map f)) (hB : B.length = n) (hB0 : ∃ t, B = h0 ++ t) (hq : Q (lit (l.map f)) h0) : gcV h0 Q v (B ++ g) :=
  a.done hB hB0 hs t.lens t.cls hq
theorem Things.sl (t : Things sz f) {l : List α} {a : Nat} {h : Heap} (hn : a ≤ l.length) : slS sz h (lit (l.map f)) (some (.int .i64 (a : Int))) none none = some (lit ((l.drop a).map f)) := by
  simp only [slS, isLit, litSlice, asNat]
  rw [if_pos (by rw [List.all_eq_true]; intro e he; simpa using t.lens (l := l) e (by simpa using he))]
  have e : ((l.map f).drop a).take (l.length - a) = (l.map f).drop a := List.take_of_length_le (by simp)
  simp [hn, e]
theorem Things.slT (t : Things sz f) {l : List α} {a : Nat} {h : Heap} (hn : a ≤ l.length) : slS sz h (lit (l.map f)) none (some (.int .i64 (a : Int))) none = some (lit ((l.take a).map f)) := by
  simp only [slS, isLit, litSlice, asNat]
  rw [if_pos (by rw [List.all_eq_true]; intro e he; simpa using t.lens (l := l) e (by simpa using he))]
  simp [hn]
theorem Things.slD (t : Things sz f) {l : List α} {a : Nat} {h : Heap} (hn : a ≤ l.length) (k : K (lit ((l.drop a).map f))) : oW (slS sz h (lit (l.map f)) (some (.int .i64 (a : Int))) none none) K := ⟨_, t.sl hn, k⟩
theorem Things.sl1 (t : Things sz f) {l : List α} {h : Heap} (hn : 1 ≤ l.length) (k : K (lit ((l.drop 1).map f))) : oW (slS sz h (lit (l.map f)) (some (.int .i64 1)) none none) K := ⟨_, t.sl (a := 1) hn, k⟩
theorem Things.slK (t : Things sz f) {l : List α} {a : Nat} {h : Heap} (hn : a ≤ l.length) (k : K (lit ((l.take a).map f))) : oW (slS sz h (lit (l.map f)) none (some (.int .i64 (a : Int))) none) K := ⟨_, t.slT hn, k⟩
end
theorem tInt : Things 1 vi := ⟨fun _ => rfl, fun _ => rfl, fun _ => rfl, fun x c hc => by simp only [cellsOf_int, List.mem_singleton] at hc; subst hc; exact .int _ _⟩
theorem tNat : Things 1 natV := ⟨fun _ => rfl, fun _ => rfl, fun _ => rfl, fun x c hc => by simp only [cellsOf_int, List.mem_singleton] at hc; subst hc; exact .int _ _⟩
theorem tBool : Things 1 Value.bool := ⟨fun _ => rfl, fun _ => rfl, fun _ => rfl, fun x c hc => by simp only [cellsOf_bool, List.mem_singleton] at hc; subst hc; exact .bool _⟩
/-- Rows of rows: each a frozen slice. -/
theorem tLit {α : Type} {f : α → Value} {sz : Nat} (t : Things sz f) : Things 1 fun l : List α => lit (l.map f) :=
  ⟨fun _ => rfl, fun _ => rfl, fun _ => rfl, fun x c hc => by
    have : c = lit (x.map f) := by simpa [cellsOf] using hc
    subst this; exact t.clL⟩
theorem ret_end {h t : Heap} {v : Value} {Q : Value → Heap → Prop} (c : Cl v) (hq : Q v h) : gcV h Q v (h ++ t) := gcV_end (.cl c) hq
theorem ret_end2 {h t u : Heap} {v : Value} {Q : Value → Heap → Prop} (c : Cl v) (hq : Q v h) : gcV h Q v (h ++ t ++ u) := by rw [List.append_assoc]; exact gcV_end (.cl c) hq
end
end Go.Ax
