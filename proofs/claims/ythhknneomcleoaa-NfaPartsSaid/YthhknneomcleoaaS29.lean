/- The walk of the law NfaParts. -/
import Derived.Test.YthhknneomcleoaaT3
namespace Go.Ax
open Go Go.Proofs Go.RowKit

theorem slStr_to {s : ByteArray} {i : Nat} (h : i ≤ s.size) : slStr (.string s) none (some (.int .i64 (i : Int))) = some (.string (s.extract 0 i)) := by
  simp only [slStr, asNat]
  rw [if_pos (by omega)]
  simp only [Int.toNat_natCast]
  rw [if_pos ⟨by omega, h⟩]
theorem slStr_from {s : ByteArray} {i : Nat} (h : i ≤ s.size) : slStr (.string s) (some (.int .i64 (i : Int))) none = some (.string (s.extract i s.size)) := by
  simp only [slStr, asNat]
  rw [if_pos (by omega)]
  simp only [Int.toNat_natCast]
  rw [if_pos ⟨h, by omega⟩]
theorem bytesN_to {s : ByteArray} {i : Nat} : bytesN (s.extract 0 i) = (bytesN s).take i := by
  simp [bytesN, ByteArray.data_extract, List.map_take]
theorem bytesN_from {s : ByteArray} {i : Nat} : bytesN (s.extract i s.size) = (bytesN s).drop i := by
  unfold bytesN
  rw [ByteArray.data_extract, Array.toList_extract, List.extract_eq_take_drop, List.map_take, List.map_drop, List.take_of_length_le]
  simp

/-- Plain, with a closer bound. -/
theorem plainR_spec8 {s : ByteArray} (hs : s.size ≤ 10) {h : Heap} {Q : Value → Heap → Prop} (hq : ∀ n : Nd, n.Ok 20 → n.wt ≤ 1 + 6 ^ s.size → Q n.enc h) : acall Try.prog F_homographref02_Plain [.string s] h Q := by
  apply W_homographref02_Plain_ok
  unfold W_homographref02_Plain
  refine ⟨PlI h s, s.size, gcL_same ⟨0, .slice none 0 0, [], [], rfl, by rw [List.append_nil], rfl, by omega, Acc.nil, by simp, by simp⟩, ?_⟩
  rintro k x6 x7 x8 x9 H ⟨i, v, g, bs, hv, rfl, hk, hi, ac, hl, hbs⟩
  simp only [List.cons.injEq, and_true] at hv
  obtain ⟨rfl, rfl, rfl, rfl⟩ := hv
  have hB : (h ++ [zrow8]).length = h.length + 1 := by simp
  rw [lenStr_str, oW_some, n_lss, oW_some, bW_dec]
  constructor
  · intro hlt
    have hlt' : i < s.size := by omega
    have hb := byte_lt hlt'
    refine ixS_str hlt' ?_
    generalize hc : (bytesN s)[i]! = c at hb
    have r8 : binN .rem (byte c) (.int .u8 8) = some (byte (c % 8)) := by
      have e : (c : Int).tmod 8 = ((c % 8 : Nat) : Int) := by rw [Int.tmod_eq_emod_of_nonneg (by omega)]; omega
      rw [n_rem (by omega), e]
    rw [r8, oW_some, n_lss, oW_some, bW_dec]
    constructor
    · intro h6
      refine ixS_str hlt' ?_
      rw [hc]
      refine Acc.push hB ac (by omega) byte_len rfl rfl rfl rfl (by simp; omega) (by simp; omega) fun v' g' a2 _ _ _ => ?_
      rw [n_add (by omega), oW_some]
      refine ⟨s.size - (i + 1), by omega, gcL_same ⟨i + 1, v', g', bs ++ [c], by simp, rfl, rfl, by omega, by simpa using a2, by simp; omega, fun b hb' => ?_⟩⟩
      rcases List.mem_append.1 hb' with q | q
      · exact hbs b q
      · simp at q; subst q; omega
    · intro h6
      rw [n_add (by omega), oW_some]
      exact ⟨s.size - (i + 1), by omega, gcL_same ⟨i + 1, x8, g, bs, by simp, rfl, rfl, by omega, ac, by omega, hbs⟩⟩
  · intro hge
    obtain ⟨t, e1, e2⟩ := cvBS_acc ac fun b hb => (hbs b hb).1
    have ht : t.size = bs.length := by rw [← e2, bytesN_len]
    rw [e1, oW_some]
    refine callW_plain.2 (make_spec (by omega) (fun b hb => (hbs b (by rw [← e2]; exact hb)).2) fun n hn hw => ?_)
    refine retN (hq n hn (Nat.le_trans hw ?_))
    have := Nat.pow_le_pow_right (n := 6) (by omega) (show t.size ≤ s.size by omega)
    omega

/-- What is built of a pattern, and its error. -/
theorem built_any {n : Nd} (hn : n.Ok 64) (hw : n.wt ≤ 10000000) : ∃ (m : Mch) (e : Int), n.built = .tuple #[m.enc, .int .i64 e] ∧
    (e = 0 → m.ok ∧ m.eps.length ≤ 1000000000 ∧ m.count ≤ 5000 ∧ m.arcs.length ≤ 100000000 ∧ ∀ w, m.whole w = true ↔ n.lg w) := by
  have g := good_of hn.1 hn.2.1
  have gw := pc_by g bs0
  unfold Bs.grows at gw
  unfold Nd.built
  rw [if_pos ⟨hn.1, hn.2.1⟩]
  by_cases hf : (n.pc bs0).full = true
  · rw [if_pos hf]; exact ⟨_, _, rfl, fun q => by omega⟩
  · rw [if_neg hf]
    have hf' : (n.pc bs0).full = false := by simpa using hf
    have e1 : bs0.eps.length = 0 := rfl
    have e2 : bs0.arcs.length = 0 := rfl
    have c := mach_count g hf'
    exact ⟨_, _, rfl, fun _ => ⟨mach_ok g, by simp only [Nd.mach]; omega, by omega, by simp only [Nd.mach]; omega, fun w => mach_lg g hf'⟩⟩

abbrev row16 (x y : Nd) (m : Md) : AObj := .row (([x, y].map Nd.enc).flatMap cellsOf) m
/-- The pair, as a frozen slice. -/
theorem manyW {op : Int} {A T : Heap} {x y : Nd} {m : Md} {K : Value → Heap → Prop} (k : K (Nd.mk op BS.none 0 0 [x, y]).enc (A ++ row16 x y .ro :: T)) :
    callW Try.prog (fn F_homographref02_Many) [.int .i64 op, .slice (some ⟨A.length, 0, none⟩) 2 2] (A ++ row16 x y m :: T) K := by
  have hi : (A ++ row16 x y m :: T)[A.length]? = some (row16 x y m) := by simp
  refine callW_plain.2 (acall_frz (gh_ro hi) (args2 := [.int .i64 op, lit ([x, y].map Nd.enc)]) ⟨.cl (.int _ _), ?_, trivial⟩ (many_spec ?_))
  · have hl := flat_len (sz := 8) (es := [x, y].map Nd.enc) Nd.map_len
    exact Gv.frz (sz := 8) (len := 2) rfl hi (by omega) Nd.map_len (by rw [List.drop_zero, List.take_of_length_le (by rw [hl]; simp)]) rfl Nd.map_cl
  · rw [set_app0]; exact k

def PtI (H : Heap) (s : ByteArray) (p q c d : Mch) (k : Nat) (vs : List Value) (G : Heap) : Prop :=
  ∃ i : Nat, vs = [.string s, .pointer (some ⟨H.length + 3, 0, none⟩), .pointer (some ⟨H.length + 4, 0, none⟩), .pointer (some ⟨H.length + 5, 0, none⟩), .pointer (some ⟨H.length + 6, 0, none⟩), .bool (decide (∃ j, j < i ∧ p.whole ((bytesN s).take j) = true ∧ q.whole ((bytesN s).drop j) = true)), .int .i64 (i : Int)] ∧
    k = s.size + 1 - i ∧ i ≤ s.size + 1

theorem nfaParts_walk {a b s : ByteArray} (has : a.size ≤ 1000000000000000) (hbs : b.size ≤ 1000000000000000) (hss : s.size ≤ 1000000000000000) {h : Heap} :
    acall Try.prog F_homographlaw06_NfaParts [.string a, .string b, .string s] h fun v _ => v = .bool true := by
  apply W_homographlaw06_NfaParts_ok
  unfold W_homographlaw06_NfaParts
  refine callW_plain.2 (awake_spec fun t => ?_)
  rw [u_not, oW_some, bW_bool]
  refine ⟨(fun q => by cases q), fun _ => ?_⟩
  generalize h ++ t = H
  refine ⟨fun vs G => vs = [.string a, .string b, .string s] ∧ G = H ∧ a.size ≤ 8 ∧ b.size ≤ 8 ∧ s.size ≤ 8, ?_, ?_⟩
  · rw [lenStr_str, oW_some, n_gtr, oW_some, bW_dec]
    refine ⟨fun _ => by rw [bW_true]; exact gcV_same rfl, fun h1 => ?_⟩
    rw [lenStr_str, oW_some, n_gtr, oW_some, bW_dec]
    refine ⟨fun _ => by rw [bW_true]; exact gcV_same rfl, fun h2 => ?_⟩
    rw [lenStr_str, oW_some, n_gtr, oW_some, bW_dec]
    exact ⟨fun _ => gcV_same rfl, fun h3 => gcL_same ⟨rfl, rfl, by omega, by omega, by omega⟩⟩
  rintro x11 x12 x13 G ⟨hv, rfl, ha, hb, hs⟩
  simp only [List.cons.injEq, and_true] at hv
  obtain ⟨rfl, rfl, rfl⟩ := hv
  have p6 : ∀ k, k ≤ 8 → 6 ^ k ≤ 1679616 := fun k hk => by
    have := Nat.pow_le_pow_right (n := 6) (by omega) hk
    omega
  refine callW_plain.2 (plainR_spec8 (by omega) fun x hx wx => ?_)
  rw [letH_eq]
  refine boxN (callW_plain.2 (plainR_spec8 (by omega) fun y hy wy => ?_))
  rw [letH_eq]
  refine boxN ?_
  have wx' := p6 _ ha
  have wy' := p6 _ hb
  have L1 : (G ++ [nrow x]).length = G.length + 1 := by simp
  have E2 : G ++ [nrow x] ++ [nrow y] = G ++ [nrow x, nrow y] := by simp
  have L2 : (G ++ [nrow x, nrow y]).length = G.length + 2 := by simp
  rw [L1, E2]
  have lx : ∀ T, ldW true 8 (G ++ nrow x :: T) (.pointer (some ⟨G.length, 0, none⟩)) = some x.enc := fun T => ldN (m := .exact) (by rw [row_app0]; rfl)
  have ly : ∀ T, ldW true 8 (G ++ nrow x :: nrow y :: T) (.pointer (some ⟨G.length + 1, 0, none⟩)) = some y.enc := fun T => ldN (m := .exact) (by rw [row_app]; rfl)
  rw [lx, oW_some, ly, oW_some]
  have eb : bslW (G ++ [nrow x, nrow y]) 2 [(.int .i64 0), (.int .u64 0), (.int .u64 0), (.int .u64 0), (.int .u64 0), (.int .i64 0), (.int .i64 0), (.slice none 0 0), (.int .i64 0), (.int .u64 0), (.int .u64 0), (.int .u64 0), (.int .u64 0), (.int .i64 0), (.int .i64 0), (.slice none 0 0)] [(0, 8, x.enc), (8, 8, y.enc)] =
      some (.slice (some ⟨(G ++ [nrow x, nrow y]).length, 0, none⟩) 2 2, G ++ [nrow x, nrow y] ++ [row16 x y .exact]) := by
    simp only [bslW, fill2]; rfl
  rw [eb, hW_some, L2]
  have E3 : G ++ [nrow x, nrow y] ++ [row16 x y .exact] = G ++ [nrow x, nrow y, row16 x y .exact] := by simp
  rw [E3, lx, oW_some]
  have ox := hx.mono (e := 64) (by omega)
  have oy := hy.mono (e := 64) (by omega)
  have h21 : ∀ k ∈ [x, y], k.Ok 20 := fun k hk => by simp at hk; rcases hk with rfl | rfl <;> assumption
  have oc : (Nd.mk 1 BS.none 0 0 [x, y]).Ok 64 := (ok_many (.inl rfl) (by simp) h21).mono (by omega)
  have od : (Nd.mk 2 BS.none 0 0 [x, y]).Ok 64 := (ok_many (.inr rfl) (by simp) h21).mono (by omega)
  have wc : (Nd.mk 1 BS.none 0 0 [x, y]).wt ≤ 10000000 := by rw [wt_many (.inl rfl), wts_two]; omega
  have wd : (Nd.mk 2 BS.none 0 0 [x, y]).wt ≤ 10000000 := by rw [wt_many (.inr rfl), wts_two]; omega
  obtain ⟨p, e1, b1, f1⟩ := built_any ox (by omega)
  obtain ⟨q, e2, b2, f2⟩ := built_any oy (by omega)
  obtain ⟨c, e3, b3, f3⟩ := built_any oc wc
  obtain ⟨d, e4, b4, f4⟩ := built_any od wd
  refine callW_plain.2 (build_spec ox.2.2 (by omega) ?_)
  rw [b1, ex0, ex1, oW_some, oW_some, letH_eq]
  refine boxM ?_
  have L3 : (G ++ [nrow x, nrow y, row16 x y .exact]).length = G.length + 3 := by simp
  have E4 : G ++ [nrow x, nrow y, row16 x y .exact] ++ [mrow p] = G ++ [nrow x, nrow y, row16 x y .exact, mrow p] := by simp
  rw [L3, E4, ly, oW_some]
  refine callW_plain.2 (build_spec oy.2.2 (by omega) ?_)
  rw [b2, ex0, ex1, oW_some, oW_some, letH_eq]
  refine boxM ?_
  have L4 : (G ++ [nrow x, nrow y, row16 x y .exact, mrow p]).length = G.length + 4 := by simp
  have E5 : G ++ [nrow x, nrow y, row16 x y .exact, mrow p] ++ [mrow q] = (G ++ [nrow x, nrow y]) ++ row16 x y .exact :: [mrow p, mrow q] := by simp
  rw [L4, E5]
  rw [← L2]
  refine manyW (callW_plain.2 (build_spec oc.2.2 (by omega) ?_))
  rw [b3, ex0, ex1, oW_some, oW_some, letH_eq]
  refine boxM ?_
  have L5 : (G ++ [nrow x, nrow y] ++ row16 x y .ro :: [mrow p, mrow q]).length = G.length + 5 := by simp
  have E6 : G ++ [nrow x, nrow y] ++ row16 x y .ro :: [mrow p, mrow q] ++ [mrow c] = (G ++ [nrow x, nrow y]) ++ row16 x y .ro :: [mrow p, mrow q, mrow c] := by simp
  rw [L5, E6]
  refine manyW (callW_plain.2 (build_spec od.2.2 (by omega) ?_))
  rw [b4, ex0, ex1, oW_some, oW_some, letH_eq]
  refine boxM ?_
  have L6 : (G ++ [nrow x, nrow y] ++ row16 x y .ro :: [mrow p, mrow q, mrow c]).length = G.length + 6 := by simp
  have E7 : G ++ [nrow x, nrow y] ++ row16 x y .ro :: [mrow p, mrow q, mrow c] ++ [mrow d] = G ++ [nrow x, nrow y, row16 x y .ro, mrow p, mrow q, mrow c, mrow d] := by simp
  rw [L6, E7]
  generalize hHf : G ++ [nrow x, nrow y, row16 x y .ro, mrow p, mrow q, mrow c, mrow d] = Hf
  have lp : ldW true 5 Hf (.pointer (some ⟨G.length + 3, 0, none⟩)) = some p.enc := by rw [← hHf, ldW_agg, row_app]; rfl
  have lq : ldW true 5 Hf (.pointer (some ⟨G.length + 4, 0, none⟩)) = some q.enc := by rw [← hHf, ldW_agg, row_app]; rfl
  have lc : ldW true 5 Hf (.pointer (some ⟨G.length + 5, 0, none⟩)) = some c.enc := by rw [← hHf, ldW_agg, row_app]; rfl
  have ld : ldW true 5 Hf (.pointer (some ⟨G.length + 6, 0, none⟩)) = some d.enc := by rw [← hHf, ldW_agg, row_app]; rfl
  refine ⟨fun vs H' => vs = [.string s, .pointer (some ⟨G.length + 3, 0, none⟩), .pointer (some ⟨G.length + 4, 0, none⟩), .pointer (some ⟨G.length + 5, 0, none⟩), .pointer (some ⟨G.length + 6, 0, none⟩)] ∧ H' = Hf ∧ e1 = 0 ∧ e2 = 0 ∧ e3 = 0 ∧ e4 = 0, ?_, ?_⟩
  · rw [n_neq, oW_some, bW_dec]
    refine ⟨fun _ => by rw [bW_true]; exact gcV_same rfl, fun h1 => ?_⟩
    rw [n_neq, oW_some, bW_dec]
    refine ⟨fun _ => by rw [bW_true]; exact gcV_same rfl, fun h2 => ?_⟩
    rw [n_neq, oW_some, bW_dec]
    refine ⟨fun _ => by rw [bW_true]; exact gcV_same rfl, fun h3 => ?_⟩
    rw [n_neq, oW_some, bW_dec]
    exact ⟨fun _ => gcV_same rfl, fun h4 => gcL_same ⟨rfl, rfl, by omega, by omega, by omega, by omega⟩⟩
  rintro x62 x63 x64 x65 x66 H' ⟨hv, rfl, z1, z2, z3, z4⟩
  simp only [List.cons.injEq, and_true] at hv
  obtain ⟨rfl, rfl, rfl, rfl, rfl⟩ := hv
  obtain ⟨o1, p1, q1, r1, w1⟩ := f1 z1
  obtain ⟨o2, p2, q2, r2, w2⟩ := f2 z2
  obtain ⟨o3, p3, q3, r3, w3⟩ := f3 z3
  obtain ⟨o4, p4, q4, r4, w4⟩ := f4 z4
  have blen : (bytesN s).length = s.size := bytesN_len
  clear hHf
  refine ⟨fun k vs K => PtI G s p q c d k vs K ∧ K = H', s.size + 1, gcL_same ⟨⟨0, by simp, by omega, by omega⟩, rfl⟩, ?_⟩
  rintro k x72 x73 x74 x75 x76 x77 x78 h79 ⟨⟨i, hv, hk, hi⟩, rfl⟩
  simp only [List.cons.injEq, and_true] at hv
  obtain ⟨rfl, rfl, rfl, rfl, rfl, rfl, rfl⟩ := hv
  have kp : ∀ vs, keptW vs h79 h79 := fun vs => fun v hv r hr => rfl
  have next : ∀ v : Bool, (v = true ↔ ∃ j, j < i + 1 ∧ p.whole ((bytesN s).take j) = true ∧ q.whole ((bytesN s).drop j) = true) → i ≤ s.size →
      oW (binN .add (.int .i64 (i : Int)) (.int .i64 1)) fun v82 => ∃ m70, m70 < k ∧ gcL h (fun vs K => PtI G s p q c d m70 vs K ∧ K = h79) [.string s, .pointer (some ⟨G.length + 3, 0, none⟩), .pointer (some ⟨G.length + 4, 0, none⟩), .pointer (some ⟨G.length + 5, 0, none⟩), .pointer (some ⟨G.length + 6, 0, none⟩), .bool v, v82] h79 := fun v hv hle => by
    rw [n_add (by omega), oW_some]
    refine ⟨s.size + 1 - (i + 1), by omega, gcL_same ⟨⟨i + 1, ?_, rfl, by omega⟩, rfl⟩⟩
    have : v = decide (∃ j, j < i + 1 ∧ p.whole ((bytesN s).take j) = true ∧ q.whole ((bytesN s).drop j) = true) := by rw [Bool.eq_iff_iff, hv, decide_eq_true_eq]
    rw [this]; simp
  rw [lenStr_str, oW_some, n_leq, oW_some, bW_dec]
  constructor
  · intro hle
    have hle' : i ≤ s.size := by omega
    rw [bW_dec]
    constructor
    · rintro ⟨j, j1, j2⟩
      exact next true ⟨fun _ => ⟨j, by omega, j2⟩, fun _ => rfl⟩ hle'
    · intro hno
      rw [lp, oW_some, slStr_to hle', oW_some]
      refine callW_plain.2 (whole_spec o1 p1 r1 q1 (by simp; omega) ⟨kp _, ?_⟩)
      rw [bytesN_to, bW_bool]
      constructor
      · intro t1
        rw [lq, oW_some, slStr_from hle', oW_some]
        refine callW_plain.2 (whole_spec o2 p2 r2 q2 (by simp; omega) ⟨kp _, ?_⟩)
        rw [bytesN_from]
        refine next _ ⟨fun t2 => ⟨i, by omega, t1, t2⟩, fun ⟨j, j1, j2, j3⟩ => ?_⟩ hle'
        by_cases hji : j = i
        · subst hji; exact j3
        · exact absurd ⟨j, by omega, j2, j3⟩ hno
      · intro t1
        refine next false ⟨(fun z => by cases z), fun ⟨j, j1, j2, j3⟩ => ?_⟩ hle'
        by_cases hji : j = i
        · subst hji; rw [t1] at j2; cases j2
        · exact absurd ⟨j, by omega, j2, j3⟩ hno
  · intro hge
    have hii : i = s.size + 1 := by omega
    subst hii
    rw [lc, oW_some]
    refine callW_plain.2 (whole_spec o3 p3 r3 q3 (by omega) ⟨kp _, ?_⟩)
    have ec : c.whole (bytesN s) = decide (∃ j, j < s.size + 1 ∧ p.whole ((bytesN s).take j) = true ∧ q.whole ((bytesN s).drop j) = true) := by
      rw [Bool.eq_iff_iff, decide_eq_true_eq, w3, lg_cat]
      constructor
      · rintro ⟨u, v, e, h1, u', v', e', h2, e''⟩
        have e'' : v' = [] := e''
        subst e''
        rw [List.append_nil] at e'
        subst e'
        refine ⟨u.length, by have := congrArg List.length e; simp at this; omega, ?_, ?_⟩
        · rw [e, List.take_left, w1]; exact h1
        · rw [e, List.drop_left, w2]; exact h2
      · rintro ⟨j, _, h1, h2⟩
        exact ⟨_, _, (List.take_append_drop j (bytesN s)).symm, (w1 _).1 h1, _, [], (List.append_nil _).symm, (w2 _).1 h2, rfl⟩
    rw [eqB_bool, oW_some, ec, beq_self_eq_true, bW_true, ld, oW_some, lp, oW_some]
    have ed : d.whole (bytesN s) = (p.whole (bytesN s) || q.whole (bytesN s)) := by
      rw [Bool.eq_iff_iff, Bool.or_eq_true, w4, lg_alt, w1, w2]
      simp
    refine callW_plain.2 (whole_spec o4 p4 r4 q4 (by omega) ⟨kp _, callW_plain.2 (whole_spec o1 p1 r1 q1 (by omega) ⟨kp _, ?_⟩)⟩)
    rw [bW_bool]
    constructor
    · intro t1
      rw [eqB_bool, oW_some, ed, t1]
      exact gcV_same rfl
    · intro t1
      rw [lq, oW_some]
      refine callW_plain.2 (whole_spec o2 p2 r2 q2 (by omega) ⟨kp _, ?_⟩)
      rw [eqB_bool, oW_some, ed, t1]
      exact gcV_same (by simp)

end Go.Ax
