/- SetsMore: helpers of the walk, and the plain law. -/
import Derived.Test.YthhknneomcleoaaI2
namespace Go.Ax
open Go Go.Proofs Go.RowKit

theorem RowsAt.low {n0 n1 : Nat} {H : Heap} {v : Value} {vals : List Value} {rows : List (List Int)} (a : RowsAt n0 H v vals rows) (hn : n1 ≤ n0) : RowsAt n1 H v vals rows :=
  ⟨a.acc.low hn, a.len, fun i p q => (a.row i p q).low hn, a.sep⟩
theorem RowsAt.push2 {n0 : Nat} {B g : Heap} {v : Value} {vals : List Value} {rows : List (List Int)} (hB : B.length = n0) (a : RowsAt n0 (B ++ g) v vals rows) {x : Value} {r : List Int} (ax : Acc 1 n0 (B ++ g) x (r.map fun x => .int .i64 x)) (hx : ∀ j, lies x j → ¬ lies v j) (hb : rows.length ≤ 1000000) {K : Value → Heap → Prop}
    (k : ∀ v' g', RowsAt n0 (B ++ g') v' (vals ++ [x]) (rows ++ [r]) → (∀ j, j < (B ++ g).length → ¬ lies v j → (B ++ g')[j]? = (B ++ g)[j]?) → (∀ j, lies v' j → lies v j ∨ (B ++ g).length ≤ j) → K v' (B ++ g')) : hW (bslW (B ++ g) 1 [(.slice none 0 0)] [(0, 1, x)]) fun v1 h1 => hW (apW 1 24 h1 v v1) K := by
  have hl := a.len
  obtain ⟨c1, c2, c3⟩ := acc_cell ax
  refine Acc.push hB a.acc (by omega) a.cells (e := x) (by rw [c2]; rfl) c1 (by rw [c2]; simp [c3]) rfl (by omega) (by omega) fun v' g' a2 q1 q2 q3 => k v' g' ?_ q1 q2
  have keep : ∀ {y : Value} {l : List Value}, Acc 1 n0 (B ++ g) y l → (∀ j, lies y j → ¬ lies v j) → Acc 1 n0 (B ++ g') y l := fun ay hy => ay.congr fun j hj => q1 j (ay.lt hj) (hy j hj)
  refine ⟨a2, by simp [hl], fun i p q => ?_, fun i p j hj hv => ?_⟩
  · by_cases hi : i < vals.length
    · rw [List.getElem_append_left hi, List.getElem_append_left (by omega)]
      exact keep (a.row i hi (by omega)) fun j hj => a.sep i hi j hj
    · have hie : i = vals.length := by simp at p; omega
      subst hie
      rw [List.getElem_append_right (by omega), List.getElem_append_right (by omega)]
      simp only [hl, Nat.sub_self, List.getElem_singleton]
      exact keep ax hx
  · by_cases hi : i < vals.length
    · rw [List.getElem_append_left hi] at hj
      rcases q2 j hv with w | w
      · exact a.sep i hi j hj w
      · have := (a.row i hi (by omega)).lt hj
        omega
    · have hie : i = vals.length := by simp at p; omega
      subst hie
      rw [List.getElem_append_right (by omega)] at hj
      simp only [Nat.sub_self, List.getElem_singleton] at hj
      rcases q2 j hv with w | w
      · exact hx j hj w
      · have := ax.lt hj
        omega

theorem kept_lt {vs : List Value} {B x y : Heap} (h : ∀ w ∈ vs, ∀ r, ptrId w = some r → r < B.length) : keptW vs (B ++ x) (B ++ y) := fun w hw r e => by
  have := h w hw r e
  rw [List.getElem?_append_left this, List.getElem?_append_left this]
theorem kept_app {vs : List Value} {H t : Heap} (h : ∀ w ∈ vs, ∀ r, ptrId w = some r → r < H.length) : keptW vs H (H ++ t) := fun w hw r e => by
  rw [List.getElem?_append_left (h w hw r e)]
/-- A number more, with addresses kept. -/
theorem Acc.pushKept {n : Nat} {B g : Heap} {v : Value} {l : List Int} {a : Int} (hB : B.length = n) (acc : Acc 1 n (B ++ g) v (l.map fun x => .int .i64 x)) (hl : l.length ≤ 1000) {vs : List Value} (hv : ∀ w ∈ vs, ∀ r, ptrId w = some r → r < n) {K : Value → Heap → Prop}
    (k : ∀ v' g', Acc 1 n (B ++ g') v' ((l ++ [a]).map fun x => .int .i64 x) → K v' (B ++ g')) :
    hW (bslW (B ++ g) 1 [(.int .i64 0)] [(0, 1, .int .i64 a)]) fun v1 h1 => keptW vs (B ++ g) h1 ∧ hW (apW 1 8 h1 v v1) fun v2 h2 => keptW vs h1 h2 ∧ K v2 h2 := by
  subst hB
  rw [bs1i, hW_some]
  refine ⟨kept_app fun w hw r e => by rw [List.length_append]; have := hv w hw r e; omega, ?_⟩
  have ac : Acc 1 B.length (B ++ (g ++ [.row [.int .i64 a] .exact])) v (l.map fun x => .int .i64 x) := by rw [← List.append_assoc]; exact acc.app
  rw [List.append_assoc]
  refine Acc.more (es := [.int .i64 a]) rfl ac (by omega) int_len (by simp [cellsOf]) (by simp [cellsOf, okCell]) ?_ (by simp; omega) (by simp; omega) fun v' g' a2 _ _ _ => ⟨kept_lt hv, k v' g' (by rw [List.map_append]; exact a2)⟩
  have hr : getRow (B ++ (g ++ [.row [.int .i64 a] .exact])) (B ++ g).length = some ([.int .i64 a], .exact) := by rw [← List.append_assoc, row_app0]; rfl
  simp only [srcA, hr]
  simp [cellsOf]
theorem ix_row {H : Heap} {i n k : Nat} {c : List Value} {m : Md} {v : Value} (e : getRow H i = some (c, m)) (hk : k < n) (hc : c[k]? = some v) {K : Value → Prop} (h : K v) : oW (iaS 1 (.slice (some ⟨i, 0, none⟩) n n) (.int .i64 (k : Int))) fun p => oW (ldW false 1 H p) K := by
  refine ⟨_, iaS_slice hk, ?_⟩
  show oW (ldW false 1 H (.pointer (some ⟨i, 0 + k * 1, none⟩))) K
  rw [ldW_one, e]
  refine ⟨v, ?_, h⟩
  show c[0 + k * 1]? = _
  rw [Nat.zero_add, Nat.mul_one]; exact hc

/-- What each row of one has the same row of the other one has. -/
theorem within_spec {a b : List (List Int)} (hl : a.length = b.length) (hs : ∀ i (p : i < a.length) (q : i < b.length), ∀ x ∈ a[i], x ∈ b[i]) (ha : a.length ≤ 1000000000) (hra : ∀ r ∈ a, r.length ≤ 1000000000) (hrb : ∀ r ∈ b, r.length ≤ 1000000000) {h : Heap} {Q : Value → Heap → Prop} (hq : Q (.bool true) h) : acall Try.prog F_homographlaw17_within [lit (a.map ints), lit (b.map ints)] h Q := by
  apply W_homographlaw17_within_ok
  unfold W_homographlaw17_within
  refine ⟨fun k vs g => ∃ i : Nat, vs = [lit (a.map ints), lit (b.map ints), .int .i64 (i : Int)] ∧ g = h ∧ k = a.length - i ∧ i ≤ a.length, a.length, gcL_same ⟨0, rfl, rfl, by omega, by omega⟩, ?_⟩
  rintro k x5 x6 x7 g ⟨i, hv, rfl, hk, hi⟩
  simp only [List.cons.injEq, and_true] at hv
  obtain ⟨rfl, rfl, rfl⟩ := hv
  rw [lenR, oW_some, n_lss, oW_some, bW_dec]
  constructor
  · intro hlt
    have h1 : i < a.length := by omega
    have h2 : i < b.length := by omega
    have r1 := hra _ (List.getElem_mem h1)
    have r2 := hrb _ (List.getElem_mem h2)
    have sub := hs i h1 h2
    refine ⟨fun k vs g' => ∃ j : Nat, vs = [lit (a.map ints), lit (b.map ints), .int .i64 (i : Int), .int .i64 (j : Int)] ∧ g' = g ∧ k = a[i].length - j ∧ j ≤ a[i].length, a[i].length, gcL_same ⟨0, rfl, rfl, by omega, by omega⟩, ?_⟩
    rintro k2 x15 x16 x17 x18 g2 ⟨j, hv, rfl, hk2, hj⟩
    simp only [List.cons.injEq, and_true] at hv
    obtain ⟨rfl, rfl, rfl, rfl⟩ := hv
    refine ix_rules h1 ?_
    rw [lenI, oW_some, n_lss, oW_some, bW_dec]
    constructor
    · intro hltj
      have j1 : j < a[i].length := by omega
      have hin := sub _ (List.getElem_mem j1)
      refine ⟨fun k vs g' => ∃ z : Nat, vs = [lit (a.map ints), lit (b.map ints), .int .i64 (i : Int), .int .i64 (j : Int), .bool (decide (a[i][j] ∈ b[i].take z)), .int .i64 (z : Int)] ∧ g' = g2 ∧ k = b[i].length - z ∧ z ≤ b[i].length, b[i].length, gcL_same ⟨0, by simp, rfl, by omega, by omega⟩, ?_⟩
      rintro k3 x28 x29 x30 x31 x32 x33 g3 ⟨z, hv, rfl, hk3, hz⟩
      simp only [List.cons.injEq, and_true] at hv
      obtain ⟨rfl, rfl, rfl, rfl, rfl, rfl⟩ := hv
      refine ix_rules h2 ?_
      rw [lenI, oW_some, n_lss, oW_some, bW_dec]
      constructor
      · intro hlz
        have z1 : z < b[i].length := by omega
        rw [bW_dec]
        constructor
        · intro hm
          rw [n_add (by omega), oW_some]
          refine ⟨b[i].length - (z + 1), by omega, gcL_same ⟨z + 1, ?_, rfl, rfl, by omega⟩⟩
          rw [decide_eq_true ((mem_take_succ z1).2 (.inl hm))]; rfl
        · intro hm
          refine ix_rules h2 (ix_ints z1 (ix_rules h1 (ix_ints j1 ?_)))
          rw [n_eql, oW_some, n_add (by omega), oW_some]
          refine ⟨b[i].length - (z + 1), by omega, gcL_same ⟨z + 1, ?_, rfl, rfl, by omega⟩⟩
          have : decide (a[i][j] ∈ b[i].take (z + 1)) = decide (b[i][z] = a[i][j]) := by
            rw [decide_eq_decide, mem_take_succ z1]
            exact ⟨fun q => q.resolve_left hm, .inr⟩
          rw [this]; rfl
      · intro hgz
        rw [List.take_of_length_le (by omega), decide_eq_true hin, u_not, oW_some, bW_bool]
        refine ⟨(fun q => by cases q), fun _ => ?_⟩
        rw [n_add (by omega), oW_some]
        exact ⟨a[i].length - (j + 1), by omega, gcL_same ⟨j + 1, rfl, rfl, rfl, by omega⟩⟩
    · intro _
      rw [n_add (by omega), oW_some]
      exact ⟨a.length - (i + 1), by omega, gcL_same ⟨i + 1, rfl, rfl, rfl, by omega⟩⟩
  · intro _
    rw [oW_some, lenR, oW_some, n_eql, oW_some, decide_eq_true (by omega)]
    exact gcV_same hq

/-! The plain law: with a rule more nothing is taken away. -/
def Gr.more (g : Gr) (r : List Int) : Gr := ⟨g.names, g.terms, g.tokens, g.rules ++ [r], g.start⟩
theorem more_ok {g : Gr} (ok : g.ok) {r : List Int} (hr : g.fits r) (hl : g.rules.length ≤ 200) : (g.more r).ok := by
  refine ⟨ok.t0, ok.tn, ok.tk, ok.nn, ?_, ?_, ok.st, fun x hx => ?_, fun s h1 h2 => ?_⟩
  · show 1 ≤ (g.rules ++ [r]).length; simp
  · show (g.rules ++ [r]).length ≤ 256; simp; omega
  · rcases List.mem_append.1 hx with q | q
    · exact ok.fit x q
    · simp only [List.mem_singleton] at q; subst q; exact hr
  · obtain ⟨x, hx, e⟩ := ok.all s h1 h2
    exact ⟨x, List.mem_append_left _ hx, e⟩
section
variable {g : Gr} {r : List Int}
theorem more_mem {x : List Int} (h : x ∈ g.rules) : x ∈ (g.more r).rules := List.mem_append_left _ h
theorem more_null {i : Nat} (h : g.null i) : (g.more r).null i := Dl.mono (fun _ ⟨x, hx, e⟩ => ⟨x, more_mem hx, e⟩) h
theorem more_prod {i : Nat} (h : g.prod i) : (g.more r).prod i := Dl.mono (fun _ q => q.elim .inl fun ⟨x, hx, e⟩ => .inr ⟨x, more_mem hx, e⟩) h
theorem more_reach {i : Nat} (h : g.reach i) : (g.more r).reach i := Dl.mono (fun _ q => q.elim .inl fun ⟨x, hx, e⟩ => .inr ⟨x, more_mem hx, e⟩) h
theorem more_first {s t : Nat} (h : g.first s t) : (g.more r).first s t :=
  ⟨h.1, Dl.mono (fun _ q => q.elim .inl fun ⟨x, hx, a, y, b, e, hn, hc⟩ => .inr ⟨x, more_mem hx, a, y, b, e, fun z hz => more_null (hn z hz), hc⟩) h.2⟩
theorem more_rowF : ∀ {l : List Int} {t : Nat}, g.rowF l t → (g.more r).rowF l t
  | [], _, h => h.elim
  | _ :: _, _, ⟨h1, h2⟩ => ⟨h1, h2.elim (fun q => .inl (more_first q)) fun q => .inr ⟨more_null q.1, more_rowF q.2⟩⟩
theorem more_rowE {l : List Int} (h : g.rowE l) : (g.more r).rowE l := fun x hx => ⟨(h x hx).1, more_null (h x hx).2⟩
theorem more_follow {s t : Nat} (h : g.follow s t) : (g.more r).follow s t :=
  ⟨h.1, Dl.mono (fun _ q => q.elim .inl fun ⟨x, hx, a, y, b, e, hc⟩ => .inr ⟨x, more_mem hx, a, y, b, e, hc.elim (fun z => .inl ⟨more_rowF z.1, z.2⟩) fun z => .inr ⟨more_rowE z.1, z.2⟩⟩) h.2⟩
end
theorem setL_mono {n : Nat} {S T : Nat → Prop} (h : ∀ i, S i → T i) {i : Nat} (q : onL (setL n S) i) : onL (setL n T) i := by
  rw [setL_on] at q ⊢
  exact ⟨q.1, h i q.2⟩
theorem riseL_mono {n : Nat} {S T : Nat → Prop} (h : ∀ i, S i → T i) {x : Int} (q : x ∈ riseL n S) : x ∈ riseL n T := by
  rw [mem_riseL] at q ⊢
  exact ⟨q.1, h _ q.2⟩
theorem mkG_rules {bs : List Nat} : (mkG bs).rules.length ≤ 9 := by
  obtain ⟨new, e, hl, _⟩ := mkAll_ok (bs := bs) (n := mkN bs) (k := mkN bs) (st := (mkAt bs 0, []))
  have := (mkCnt_le (bs := bs) (a := 0)).2
  have hN : mkN bs = mkCnt bs 0 := rfl
  show (mkAll bs).2.length ≤ 9
  unfold mkAll
  rw [e]
  simp only [List.nil_append]
  omega

end Go.Ax
