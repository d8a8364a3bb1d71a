/- Specs: patterns out of raw bytes. -/
import Derived.Test.YthhknneomcleoaaS14
namespace Go.Ax
open Go Go.Proofs Go.RowKit

/-- Patterns that may be, so deep. -/
def Nd.Ok (d : Nat) (n : Nd) : Prop := n.may d = true ∧ n.plain = true ∧ n.Fin
theorem may_mono : ∀ {d : Nat} {n : Nd}, n.may d = true → n.may (d + 1) = true
  | 0, n, h => by rw [Nd.may] at h; cases h
  | d + 1, .mk op s mn mx ks, h => by
    rw [Nd.may] at h ⊢
    simp only [Bool.and_eq_true, List.all_eq_true] at h ⊢
    exact ⟨h.1, fun k hk => may_mono (h.2 k hk)⟩
theorem Nd.Ok.mono {d e : Nat} {n : Nd} (h : n.Ok d) (he : d ≤ e) : n.Ok e := by
  induction he with
  | refl => exact h
  | step _ ih => exact ⟨may_mono ih.1, ih.2⟩
theorem ok_letter {s : BS} {d : Nat} : (letterN s).Ok (d + 1) := ⟨by simp [Nd.may, Nd.cnt], by simp [Nd.plain, Nd.plains], .mk (by simp) (by simp)⟩
theorem ok_many {op : Int} {ks : List Nd} {d : Nat} (ho : op = 1 ∨ op = 2) (hl : ks.length ≤ 1000000000) (hk : ∀ k ∈ ks, k.Ok d) : (Nd.mk op BS.none 0 0 ks).Ok (d + 1) := by
  refine ⟨?_, ?_, .mk hl fun k h => (hk k h).2.2⟩
  · rw [Nd.may]
    simp only [Nd.cnt, Bool.and_eq_true, List.all_eq_true]
    refine ⟨?_, fun k h => (hk k h).1⟩
    rcases ho with rfl | rfl <;> simp
  · rw [Nd.plain, Nd.plains_eq]
    simp only [Bool.and_eq_true, List.all_eq_true]
    refine ⟨?_, fun k h => (hk k h).2.1⟩
    rcases ho with rfl | rfl <;> simp
theorem ok_rep {k : Nd} {a b : Int} {d : Nat} (h1 : 0 ≤ a) (h2 : a ≤ 32) (h3 : b ≤ 32) (h4 : b < 0 ∨ a ≤ b) (hk : k.Ok d) : (Nd.mk 3 BS.none a b [k]).Ok (d + 1) := by
  refine ⟨?_, ?_, .mk (by simp) fun k' h => by simp at h; subst h; exact hk.2.2⟩
  · rw [Nd.may]
    simp only [Nd.cnt, Bool.and_eq_true, List.all_eq_true, Bool.or_eq_true, decide_eq_true_eq]
    refine ⟨?_, fun k' h => by simp at h; subst h; exact hk.1⟩
    simp; omega
  · rw [Nd.plain, Nd.plains_eq]
    simp [hk.2.1]
theorem wts_append : ∀ {a b : List Nd}, Nd.wts (a ++ b) = Nd.wts a + Nd.wts b
  | [], b => by simp [Nd.wts]
  | k :: a, b => by rw [List.cons_append, Nd.wts, Nd.wts, wts_append]; omega
theorem wts_one {n : Nd} : Nd.wts [n] = n.wt := by simp [Nd.wts]
theorem wts_two {a b : Nd} : Nd.wts [a, b] = a.wt + b.wt := by simp [Nd.wts]
theorem wt_letter {s : BS} : (letterN s).wt = 1 := by simp [Nd.wt, Nd.wts]
theorem wt_many {op : Int} {s : BS} {ks : List Nd} (h : op = 1 ∨ op = 2) : (Nd.mk op s 0 0 ks).wt = 1 + Nd.wts ks := by rw [Nd.wt, if_neg (by omega)]

/-- The row of patterns after so many bytes. -/
def StkOk (i : Nat) (l : List Nd) : Prop := (∀ n ∈ l, n.Ok (i + 1)) ∧ Nd.wts l ≤ 6 ^ i ∧ l.length ≤ i
theorem stk_push {i : Nat} {l : List Nd} (h : StkOk i l) {s : BS} : StkOk (i + 1) (l ++ [letterN s]) := by
  refine ⟨fun n hn => ?_, ?_, by simp; exact h.2.2⟩
  · rcases List.mem_append.1 hn with q | q
    · exact (h.1 n q).mono (by omega)
    · simp at q; subst q; exact ok_letter
  · have := h.2.1
    rw [wts_append, wts_one, wt_letter, Nat.pow_succ]
    have : 1 ≤ 6 ^ i := Nat.pow_pos (by omega)
    omega
theorem stk_pair {i : Nat} {l : List Nd} {a b : Nd} (h : StkOk i (l ++ [a, b])) {op : Int} (ho : op = 1 ∨ op = 2) : StkOk (i + 1) (l ++ [.mk op BS.none 0 0 [a, b]]) := by
  refine ⟨fun n hn => ?_, ?_, by have := h.2.2; simp at this ⊢; omega⟩
  · rcases List.mem_append.1 hn with q | q
    · exact (h.1 n (by simp [q])).mono (by omega)
    · simp at q; subst q
      exact ok_many ho (by simp) fun k hk => h.1 k (by simp at hk ⊢; exact .inr hk)
  · have := h.2.1
    rw [wts_append, wts_two] at this
    rw [wts_append, wts_one, wt_many ho, wts_two, Nat.pow_succ]
    have : 1 ≤ 6 ^ i := Nat.pow_pos (by omega)
    omega
theorem stk_rep {i : Nat} {l : List Nd} {k : Nd} (h : StkOk i (l ++ [k])) {a b : Int} (h1 : 0 ≤ a) (h2 : a ≤ 2) (h3 : b ≤ a + 2) (h4 : b < 0 ∨ a ≤ b) : StkOk (i + 1) (l ++ [.mk 3 BS.none a b [k]]) := by
  refine ⟨fun n hn => ?_, ?_, by have := h.2.2; simp at this ⊢; omega⟩
  · rcases List.mem_append.1 hn with q | q
    · exact (h.1 n (by simp [q])).mono (by omega)
    · simp at q; subst q
      exact ok_rep h1 (by omega) (by omega) h4 (h.1 k (by simp))
  · have := h.2.1
    rw [wts_append, wts_one] at this
    rw [wts_append, wts_one, Nd.wt, if_pos rfl, wts_one, Nat.pow_succ]
    have hm : (a.toNat + (b - a).toNat + 1) * k.wt ≤ 5 * k.wt := Nat.mul_le_mul_right _ (by omega)
    have : 1 ≤ 6 ^ i := Nat.pow_pos (by omega)
    have := Nd.wt_pos (n := k)
    omega

theorem Acc.setT {sz n : Nat} {H : Heap} {v e : Value} {l : List Value} (hn : n ≤ H.length) (a : Acc sz n H v l) (hs : 0 < sz) (hz : ∀ x ∈ l, (cellsOf x).length = sz) (he : (cellsOf e).length = sz) (hk : okVal e = true) (hok : (cellsOf e).all okCell = true)
    {j : Nat} {k : IntKind} {K : Heap → Prop} (hj : j < l.length)
    (k1 : ∀ H', Acc sz n H' v (l.set j e) → (∀ j, ¬ lies v j → H'[j]? = H[j]?) → n ≤ H'.length → K H') : oW (iaS sz v (.int k (j : Int))) fun p => sW (stW sz H p e) K := by
  have hB : (H.take n).length = n := by simp; omega
  have eH : H = H.take n ++ H.drop n := (List.take_append_drop n H).symm
  have a' := a
  rw [eH] at a'
  have key := Acc.set hB a' hs hz he hk hok (k := k) hj (K := K) fun g' x1 x2 => by
    rw [← eH] at x2
    exact k1 _ x1 x2 (by rw [List.length_append, hB]; omega)
  rwa [← eH] at key
theorem fill2 {a b : Nd} : fillL [(.int .i64 0), (.int .u64 0), (.int .u64 0), (.int .u64 0), (.int .u64 0), (.int .i64 0), (.int .i64 0), (.slice none 0 0), (.int .i64 0), (.int .u64 0), (.int .u64 0), (.int .u64 0), (.int .u64 0), (.int .i64 0), (.int .i64 0), (.slice none 0 0)] [(0, 8, a.enc), (8, 8, b.enc)] = some (([a, b].map Nd.enc).flatMap cellsOf) := by
  cases a; cases b
  simp [Nd.enc_mk]

/-- Two patterns are put together. -/
theorem pairW {op : Int} {lo : Nat} {H : Heap} {v : Value} {l0 : List Nd} {a b : Nd} {K : Value → Heap → Prop} (hbig : l0.length + 2 ≤ 1000000000) (hlo : lo ≤ H.length) (ac : Acc 8 lo H v ((l0 ++ [a, b]).map Nd.enc))
    (k : ∀ v' H', Acc 8 lo H' v' ((l0 ++ [Nd.mk op BS.none 0 0 [a, b]]).map Nd.enc) → (∀ j, j < lo → H'[j]? = H[j]?) → lo ≤ H'.length → K v' H') :
    (oW (binN .sub (.int .i64 ((l0.length + 2 : Nat) : Int)) (.int .i64 2)) fun v40 =>
    (oW (iaS 8 v v40) fun v41 =>
    (oW (ldW true 8 H v41) fun v42 =>
    (oW (binN .sub (.int .i64 ((l0.length + 2 : Nat) : Int)) (.int .i64 1)) fun v43 =>
    (oW (iaS 8 v v43) fun v44 =>
    (oW (ldW true 8 H v44) fun v45 =>
    ((True) ∧
    (hW (bslW H 2 [(.int .i64 0), (.int .u64 0), (.int .u64 0), (.int .u64 0), (.int .u64 0), (.int .i64 0), (.int .i64 0), (.slice none 0 0), (.int .i64 0), (.int .u64 0), (.int .u64 0), (.int .u64 0), (.int .u64 0), (.int .i64 0), (.int .i64 0), (.slice none 0 0)] [(0, 8, v42), (8, 8, v45)]) fun v46 h47 =>
    (keptW [v44, v41] H h47 ∧
    ((True) ∧
    (callW Try.prog (fn F_homographref02_Many) [(.int .i64 op), v46] h47 fun v48 h49 =>
    (keptW [v44, v41] h47 h49 ∧
    (letH (h49 ++ [.row [(.int .i64 0), (.int .u64 0), (.int .u64 0), (.int .u64 0), (.int .u64 0), (.int .i64 0), (.int .i64 0), (.slice none 0 0)] .exact]) fun h50 =>
    (keptW [v44, v41] h49 h50 ∧
    (sW (stW 8 h50 (.pointer (some ⟨h49.length, 0, none⟩)) v48) fun h51 =>
    (oW (binN .sub (.int .i64 ((l0.length + 2 : Nat) : Int)) (.int .i64 1)) fun v52 =>
    (oW (slS 8 h51 v none (some v52) none) fun v53 =>
    (oW (binN .sub (.int .i64 ((l0.length + 2 : Nat) : Int)) (.int .i64 2)) fun v54 =>
    (oW (ldW true 8 h51 (.pointer (some ⟨h49.length, 0, none⟩))) fun v55 =>
    (oW (iaS 8 v53 v54) fun v56 =>
    (sW (stW 8 h51 v56 v55) fun h57 => K v53 h57))))))))))))))))))))) := by
  have hl := ac.len
  have ll : ((l0 ++ [a, b]).map Nd.enc).length = l0.length + 2 := by simp
  have s2 : binN .sub (.int .i64 ((l0.length + 2 : Nat) : Int)) (.int .i64 2) = some (.int .i64 (l0.length : Int)) := by rw [n_sub (by omega)]; congr 2; omega
  have s1 : binN .sub (.int .i64 ((l0.length + 2 : Nat) : Int)) (.int .i64 1) = some (.int .i64 ((l0.length + 1 : Nat) : Int)) := by rw [n_sub (by omega)]; congr 2; omega
  have ga : ((l0 ++ [a, b]).map Nd.enc)[l0.length]'(by rw [ll]; omega) = a.enc := by simp
  have gb : ((l0 ++ [a, b]).map Nd.enc)[l0.length + 1]'(by rw [ll]; omega) = b.enc := by simp
  have ldE : ∀ (G : Heap) {n : Nd} {i o : Nat} {c : List Value} {m : Md}, getRow G i = some (c, m) → o + 8 ≤ c.length → (c.drop o).take 8 = cellsOf n.enc → ldW true 8 G (.pointer (some ⟨i, o, none⟩)) = some n.enc := fun G n i o c m e1 e2 e3 => by
    obtain ⟨cs, q1, q2⟩ := n.enc_agg
    rw [ldW_agg, e1, Option.bind_some, if_pos e2, e3, q1]; simp
  rw [s2, oW_some]
  refine ac.ptr (by omega) Nd.map_len (j := l0.length) (by rw [ll]; omega) fun i1 o1 c1 m1 p1 p2 p3 p4 p5 p6 => ?_
  rw [ldE H p3 p5 (p6.trans (by rw [ga])), oW_some, s1, oW_some]
  refine ac.ptr (by omega) Nd.map_len (j := l0.length + 1) (by rw [ll]; omega) fun i2 o2 c2 m2 r1 r2 r3 r4 r5 r6 => ?_
  rw [ldE H r3 r5 (r6.trans (by rw [gb])), oW_some]
  have i1l := getRow_lt p3
  have i2l := getRow_lt r3
  have eb : bslW H 2 [(.int .i64 0), (.int .u64 0), (.int .u64 0), (.int .u64 0), (.int .u64 0), (.int .i64 0), (.int .i64 0), (.slice none 0 0), (.int .i64 0), (.int .u64 0), (.int .u64 0), (.int .u64 0), (.int .u64 0), (.int .i64 0), (.int .i64 0), (.slice none 0 0)] [(0, 8, a.enc), (8, 8, b.enc)] =
      some (.slice (some ⟨H.length, 0, none⟩) 2 2, H ++ [.row (([a, b].map Nd.enc).flatMap cellsOf) .exact]) := by
    simp only [bslW, fill2]; rfl
  rw [eb]
  refine ⟨trivial, hW_some.2 ⟨?_, trivial, ?_⟩⟩
  · rw [keptW_ptr, keptW_ptr]
    exact ⟨List.getElem?_append_left i2l, List.getElem?_append_left i1l, by rw [keptW_nil]; trivial⟩
  have am := Acc.made (sz := 8) (n := H.length) (H := H) (l := [a, b].map Nd.enc) Nd.map_len (Nat.le_refl _)
  obtain ⟨fr, r, g', f1, f2, f3, f4, f5⟩ := am.frz rfl (by omega) Nd.map_len Nd.map_cl
  refine callW_plain.2 (acall_frz f1 (args2 := [.int .i64 op, lit ([a, b].map Nd.enc)]) ⟨.cl (.int _ _), f2, trivial⟩ (many_spec ?_))
  refine ⟨?_, ?_⟩
  · rw [keptW_ptr, keptW_ptr]
    exact ⟨by rw [List.getElem?_append_left i2l, List.getElem?_append_left i2l], by rw [List.getElem?_append_left i1l, List.getElem?_append_left i1l], by rw [keptW_nil]; trivial⟩
  rw [letH_eq]
  refine ⟨?_, ?_⟩
  · rw [keptW_ptr, keptW_ptr]
    exact ⟨List.getElem?_append_left (by rw [List.length_append]; omega), List.getElem?_append_left (by rw [List.length_append]; omega), by rw [keptW_nil]; trivial⟩
  refine boxN ?_
  have a5 : Acc 8 lo (H ++ g' ++ [AObj.row (cellsOf (Nd.mk op BS.none 0 0 [a, b]).enc) .exact]) v ((l0 ++ [a, b]).map Nd.enc) := (ac.app (t := g')).app
  rw [oW_some]
  refine a5.pop (by omega) Nd.map_len (k := l0.length + 1) (by rw [ll]; omega) fun v' a6 hv' => ?_
  have e6 : ((l0 ++ [a, b]).map Nd.enc).take (l0.length + 1) = (l0 ++ [a]).map Nd.enc := by
    rw [← List.map_take]
    congr 1
    rw [List.take_append, List.take_of_length_le (by omega)]
    simp
  rw [e6] at a6
  rw [oW_some, ldN (n := Nd.mk op BS.none 0 0 [a, b]) (m := .exact) (by rw [row_app0]; rfl), oW_some]
  refine Acc.setT (by simp; omega) a6 (by omega) Nd.map_len (Nd.enc_len _) (Nd.enc_okv _) (Nd.enc_ok _) (j := l0.length) (by simp) fun H' a7 f7 f8 => k v' H' ?_ (fun j hj => ?_) f8
  · have e7 : ((l0 ++ [a]).map Nd.enc).set l0.length (Nd.mk op BS.none 0 0 [a, b]).enc = (l0 ++ [Nd.mk op BS.none 0 0 [a, b]]).map Nd.enc := by
      rw [← List.map_set]
      congr 1
      simp
    rwa [e7] at a7
  · rw [f7 j fun q => by have := a6.ge q; omega, List.append_assoc, List.getElem?_append_left (by omega)]

end Go.Ax
