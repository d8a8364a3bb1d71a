/- Plain law of chapter 28: least sizes, round by round. -/
import Derived.Test.YtoaohmmdhmefpaaB1
import Derived.Test.YtoaohmmdhmefpaaG0
import Derived.Test.YtoaohmmdhmefpaaC4
import Derived.Test.YtoaohmmdhmefpaaWc
import Derived.Test.YtoaohmmdhmefpaaC5
namespace Go.Ax

/-- A way's least size is told of its knot. -/
def sumL (out : List Nat) (l : List Nat) : Nat := (l.map fun x => out.getD x 0).sum
def updL (i : Nat) (out : List Nat) (l : List Nat) : List Nat := if (∀ x ∈ l, 0 < out.getD x 0) ∧ (out.getD i 0 = 0 ∨ 1 + sumL out l < out.getD i 0) then out.set i (1 + sumL out l) else out
def knotL (k : List (List (List Nat))) (out : List Nat) (i : Nat) : List Nat := (k.getD i []).foldl (updL i) out
def roundL (k : List (List (List Nat))) (out : List Nat) : List Nat := (List.range k.length).foldl (knotL k) out
def leastR (k : List (List (List Nat))) : List Nat := itr (roundL k) (k.length + 1) (List.replicate k.length 0)

/-- Knots' kids are knots, so many at most. -/
structure KOk (k : List (List (List Nat))) (W : Nat) : Prop where
  kid : ∀ i, ∀ l ∈ k.getD i [], ∀ x ∈ l, x < k.length
  wid : ∀ i, ∀ l ∈ k.getD i [], l.length ≤ W
  big : (W + 1) ^ (k.length + 1) ≤ topN
/-- How many have a size so far. -/
def cntL (out : List Nat) : Nat := out.countP fun x => decide (0 < x)
structure LOk (k : List (List (List Nat))) (W : Nat) (out : List Nat) : Prop where
  len : out.length = k.length
  snd : ∀ i, out.getD i 0 = 0 ∨ SizT k i (out.getD i 0)
  bnd : ∀ i, out.getD i 0 ≤ (W + 1) ^ cntL out
/-- Sizes come up, and go down. -/
def LeL (a b : List Nat) : Prop := ∀ i, 0 < a.getD i 0 → 0 < b.getD i 0 ∧ b.getD i 0 ≤ a.getD i 0
theorem LeL.refl {a : List Nat} : LeL a a := fun _ h => ⟨h, Nat.le_refl _⟩
theorem LeL.trans {a b c : List Nat} (h : LeL a b) (k : LeL b c) : LeL a c := fun i q => ⟨(k i (h i q).1).1, Nat.le_trans (k i (h i q).1).2 (h i q).2⟩
theorem getD_set {out : List Nat} {i v j : Nat} (h : i < out.length) : (out.set i v).getD j 0 = if j = i then v else out.getD j 0 := by
  rw [List.getD_eq_getElem?_getD, List.getElem?_set]
  by_cases q : i = j
  · rw [if_pos q, if_pos h, if_pos q.symm]; rfl
  · rw [if_neg q, if_neg (Ne.symm q), List.getD_eq_getElem?_getD]
theorem sumL_le {out : List Nat} {b : Nat} (h : ∀ i, out.getD i 0 ≤ b) : ∀ {l : List Nat}, sumL out l ≤ l.length * b
  | [] => by simp [sumL]
  | x :: l => by
    have := sumL_le h (l := l)
    have h2 := h x
    unfold sumL at *
    rw [List.map_cons, List.sum_cons, List.length_cons, Nat.succ_mul]; omega
theorem cntL_set {out : List Nat} {v : Nat} (hv : 0 < v) : ∀ {i : Nat}, i < out.length → out.getD i 0 = 0 → cntL (out.set i v) = cntL out + 1 := by
  unfold cntL
  induction out with
  | nil => intro i h; simp at h
  | cons x out ih =>
    intro i h h0
    cases i with
    | zero =>
      simp at h0; subst h0
      simp [List.countP_cons, hv]
    | succ i =>
      simp only [List.set_cons_succ, List.countP_cons]
      rw [ih (by simpa using h) (by simpa using h0)]; omega
theorem cntL_set' {out : List Nat} {v : Nat} (hv : 0 < v) : ∀ {i : Nat}, i < out.length → 0 < out.getD i 0 → cntL (out.set i v) = cntL out := by
  unfold cntL
  induction out with
  | nil => intro i h; simp at h
  | cons x out ih =>
    intro i h h0
    cases i with
    | zero =>
      simp at h0
      simp [List.countP_cons, hv, h0]
    | succ i =>
      simp only [List.set_cons_succ, List.countP_cons]
      rw [ih (by simpa using h) (by simpa using h0)]
theorem cntL_le {out : List Nat} : cntL out ≤ out.length := List.countP_le_length
section
variable {k : List (List (List Nat))} {W : Nat} {out : List Nat}
theorem LOk.sum_le (ok : KOk k W) (o : LOk k W out) {i : Nat} {l : List Nat} (hl : l ∈ k.getD i []) : 1 + sumL out l ≤ (W + 1) ^ (cntL out + 1) := by
  have h1 := sumL_le o.bnd (l := l)
  have h2 := Nat.mul_le_mul_right ((W + 1) ^ cntL out) (ok.wid i l hl)
  have h3 : 0 < (W + 1) ^ cntL out := Nat.pow_pos (by omega)
  rw [Nat.pow_succ, Nat.mul_comm, Nat.succ_mul]; omega
theorem LOk.sum_top (ok : KOk k W) (o : LOk k W out) {i : Nat} {l : List Nat} (hl : l ∈ k.getD i []) : 1 + sumL out l ≤ topN := by
  have h1 := o.sum_le ok hl
  have h2 : (W + 1) ^ (cntL out + 1) ≤ (W + 1) ^ (k.length + 1) := Nat.pow_le_pow_right (by omega) (by have := cntL_le (out := out); rw [o.len] at this; omega)
  have := ok.big
  omega
theorem LOk.top (ok : KOk k W) (o : LOk k W out) (i : Nat) : out.getD i 0 ≤ topN := by
  have h1 := o.bnd i
  have h2 : (W + 1) ^ cntL out ≤ (W + 1) ^ (k.length + 1) := Nat.pow_le_pow_right (by omega) (by have := cntL_le (out := out); rw [o.len] at this; omega)
  have := ok.big
  omega
theorem siz_sum {l : List Nat} {i : Nat} (hl : l ∈ k.getD i []) (hs : ∀ x ∈ l, SizT k x (out.getD x 0)) : SizT k i (1 + sumL out l) := by
  rw [Nat.add_comm]
  exact .mk l (l.map fun x => out.getD x 0) hl (by simp) fun j p q => by rw [List.getElem_map]; exact hs _ (List.getElem_mem p)
theorem updL_ok (ok : KOk k W) (o : LOk k W out) {i : Nat} (hi : i < k.length) {l : List Nat} (hl : l ∈ k.getD i []) : LOk k W (updL i out l) ∧ LeL out (updL i out l) ∧ ((∀ x ∈ l, 0 < out.getD x 0) → 0 < (updL i out l).getD i 0 ∧ (updL i out l).getD i 0 ≤ 1 + sumL out l) := by
  have hil : i < out.length := by rw [o.len]; exact hi
  unfold updL
  split
  · rename_i h
    have hv : 0 < 1 + sumL out l := by omega
    have hc : cntL out ≤ cntL (out.set i (1 + sumL out l)) ∧ 1 + sumL out l ≤ (W + 1) ^ cntL (out.set i (1 + sumL out l)) := by
      rcases Nat.eq_zero_or_pos (out.getD i 0) with q | q
      · rw [cntL_set hv hil q]
        exact ⟨by omega, o.sum_le ok hl⟩
      · rw [cntL_set' hv hil q]
        refine ⟨Nat.le_refl _, ?_⟩
        have := h.2.resolve_left (by omega)
        have := o.bnd i
        omega
    refine ⟨⟨by rw [List.length_set]; exact o.len, fun j => ?_, fun j => ?_⟩, fun j hj => ?_, fun _ => ?_⟩
    · rw [getD_set hil]
      split
      · rename_i e; subst e
        exact .inr (siz_sum hl fun x hx => (o.snd x).resolve_left (by have := h.1 x hx; omega))
      · exact o.snd j
    · rw [getD_set hil]
      split
      · exact hc.2
      · exact Nat.le_trans (o.bnd j) (Nat.pow_le_pow_right (by omega) hc.1)
    · rw [getD_set hil]
      split
      · rename_i e; subst e
        have := h.2.resolve_left (by omega)
        omega
      · exact ⟨hj, Nat.le_refl _⟩
    · rw [getD_set hil, if_pos rfl]; omega
  · rename_i h
    refine ⟨o, .refl, fun hx => ?_⟩
    have : ¬ (out.getD i 0 = 0 ∨ 1 + sumL out l < out.getD i 0) := fun q => h ⟨hx, q⟩
    omega
theorem sumL_mono {a b : List Nat} (h : LeL a b) : ∀ {l : List Nat}, (∀ x ∈ l, 0 < a.getD x 0) → sumL b l ≤ sumL a l
  | [], _ => by simp [sumL]
  | x :: l, q => by
    have := sumL_mono h (l := l) fun y hy => q y (by simp [hy])
    have h2 := (h x (q x (by simp))).2
    unfold sumL at *
    simp only [List.map_cons, List.sum_cons]; omega
theorem foldL_ok (ok : KOk k W) {i : Nat} (hi : i < k.length) : ∀ {ls : List (List Nat)} {out : List Nat}, LOk k W out → (∀ l ∈ ls, l ∈ k.getD i []) → LOk k W (ls.foldl (updL i) out) ∧ LeL out (ls.foldl (updL i) out) ∧
    ∀ l ∈ ls, (∀ x ∈ l, 0 < out.getD x 0) → 0 < (ls.foldl (updL i) out).getD i 0 ∧ (ls.foldl (updL i) out).getD i 0 ≤ 1 + sumL out l
  | [], out, o, _ => ⟨o, .refl, fun l h => by cases h⟩
  | l :: ls, out, o, hm => by
    obtain ⟨a1, a2, a3⟩ := updL_ok ok o hi (hm l (by simp))
    obtain ⟨b1, b2, b3⟩ := foldL_ok ok hi (ls := ls) a1 fun l' h' => hm l' (by simp [h'])
    refine ⟨b1, a2.trans b2, fun l' h' hx => ?_⟩
    rcases List.mem_cons.1 h' with rfl | h'
    · obtain ⟨c1, c2⟩ := a3 hx
      obtain ⟨d1, d2⟩ := b2 i c1
      exact ⟨d1, Nat.le_trans d2 c2⟩
    · obtain ⟨c1, c2⟩ := b3 l' h' fun x hx' => (a2 x (hx x hx')).1
      exact ⟨c1, Nat.le_trans c2 (Nat.add_le_add_left (sumL_mono a2 hx) 1)⟩
theorem rangeL_ok (ok : KOk k W) : ∀ {n : Nat} {out : List Nat}, n ≤ k.length → LOk k W out → LOk k W ((List.range n).foldl (knotL k) out) ∧ LeL out ((List.range n).foldl (knotL k) out) ∧
    ∀ i, i < n → ∀ l ∈ k.getD i [], (∀ x ∈ l, 0 < out.getD x 0) → 0 < ((List.range n).foldl (knotL k) out).getD i 0 ∧ ((List.range n).foldl (knotL k) out).getD i 0 ≤ 1 + sumL out l
  | 0, out, _, o => ⟨o, .refl, fun i h => by omega⟩
  | n + 1, out, hn, o => by
    obtain ⟨a1, a2, a3⟩ := rangeL_ok ok (n := n) (by omega) o
    rw [List.range_succ, List.foldl_append]
    obtain ⟨b1, b2, b3⟩ := foldL_ok ok (i := n) (by omega) (ls := k.getD n []) a1 fun l h => h
    refine ⟨b1, a2.trans b2, fun i hi l hl hx => ?_⟩
    by_cases q : i = n
    · subst q
      obtain ⟨c1, c2⟩ := b3 l hl fun x hx' => (a2 x (hx x hx')).1
      exact ⟨c1, Nat.le_trans c2 (Nat.add_le_add_left (sumL_mono a2 hx) 1)⟩
    · obtain ⟨c1, c2⟩ := a3 i (by omega) l hl hx
      obtain ⟨d1, d2⟩ := b2 i c1
      exact ⟨d1, Nat.le_trans d2 c2⟩
theorem roundL_ok (ok : KOk k W) (o : LOk k W out) : LOk k W (roundL k out) ∧ LeL out (roundL k out) ∧ ∀ i, i < k.length → ∀ l ∈ k.getD i [], (∀ x ∈ l, 0 < out.getD x 0) → 0 < (roundL k out).getD i 0 ∧ (roundL k out).getD i 0 ≤ 1 + sumL out l :=
  rangeL_ok ok (Nat.le_refl _) o
theorem LOk.zero : LOk k W (List.replicate k.length 0) := by
  have h : ∀ i, (List.replicate k.length 0).getD i 0 = 0 := fun i => by
    rw [List.getD_eq_getElem?_getD, List.getElem?_replicate]; split <;> rfl
  exact ⟨by simp, fun i => .inl (h i), fun i => by rw [h]; exact Nat.zero_le _⟩
theorem itrL_ok (ok : KOk k W) : ∀ {r : Nat}, LOk k W (itr (roundL k) r (List.replicate k.length 0))
  | 0 => .zero
  | r + 1 => by rw [itr_succ]; exact (roundL_ok ok (itrL_ok ok)).1
theorem getD_len {out : List Nat} {i : Nat} (h : out.length ≤ i) : out.getD i 0 = 0 := by rw [List.getD_eq_getElem?_getD, List.getElem?_eq_none h]; rfl
theorem noway {i : Nat} (h : k.length ≤ i) : k.getD i [] = [] := by rw [List.getD_eq_getElem?_getD, List.getElem?_eq_none h]; rfl
/-- So many rounds tell the least sizes. -/
theorem leastR_all (ok : KOk k W) {i : Nat} (hi : i < k.length) : (∀ m, MinT k i m → (leastR k).getD i 0 = m) ∧ ((¬ ∃ s, SizT k i s) → (leastR k).getD i 0 = 0) := by
  refine rounds_all (n := k.length) (out := fun r i => (itr (roundL k) r (List.replicate k.length 0)).getD i 0) (fun r i => (itrL_ok ok).snd i) (fun r i h => ?_) (fun r i l hi hl hx => ?_) ok.kid hi
  · rw [itr_succ]; exact (roundL_ok ok (itrL_ok ok)).2.1 i h
  · rw [itr_succ]
    obtain ⟨h1, h2⟩ := (roundL_ok ok (itrL_ok ok)).2.2 i hi l hl hx
    exact ⟨h1, by unfold sumL at h2; omega⟩
/-- What a round leaves as it is, is just that. -/
theorem leastR_fix (ok : KOk k W) (o : LOk k W out) (h : roundL k out = out) : out = leastR k := by
  have f : ∀ i, (∀ m, MinT k i m → out.getD i 0 = m) ∧ ((¬ ∃ s, SizT k i s) → out.getD i 0 = 0) := fun i => by
    refine fix_all (out := fun i => out.getD i 0) o.snd fun i l hl hx => ?_
    by_cases q : i < k.length
    · obtain ⟨h1, h2⟩ := (roundL_ok ok o).2.2 i q l hl hx
      rw [h] at h1 h2
      exact ⟨h1, by unfold sumL at h2; omega⟩
    · rw [noway (by omega)] at hl; cases hl
  apply List.ext_getElem?
  intro i
  have hlen : (leastR k).length = k.length := (itrL_ok ok).len
  by_cases q : i < k.length
  · have e : out.getD i 0 = (leastR k).getD i 0 := by
      by_cases q2 : ∃ s, SizT k i s
      · obtain ⟨s, hs⟩ := q2
        obtain ⟨m, hm⟩ := minT_of hs
        rw [(f i).1 m hm, (leastR_all ok q).1 m hm]
      · rw [(f i).2 q2, (leastR_all ok q).2 q2]
    rw [List.getD_eq_getElem?_getD, List.getD_eq_getElem?_getD] at e
    have h1 : i < out.length := by rw [o.len]; exact q
    rw [List.getElem?_eq_getElem h1, List.getElem?_eq_getElem (by omega)] at e ⊢
    exact congrArg some e
  · rw [List.getElem?_eq_none (by rw [o.len]; omega), List.getElem?_eq_none (by omega)]
/-- A knot has a size there, just if it has a tree. -/
theorem leastR_pos (ok : KOk k W) {i : Nat} (hi : i < k.length) : 0 < (leastR k).getD i 0 ↔ ∃ s, SizT k i s := by
  constructor
  · intro h
    apply Classical.byContradiction
    intro q
    rw [(leastR_all ok hi).2 q] at h; omega
  · rintro ⟨s, hs⟩
    obtain ⟨m, hm⟩ := minT_of hs
    rw [(leastR_all ok hi).1 m hm]
    exact siz_pos hm.1
end
end Go.Ax

namespace Go.Ax
open Go Go.Proofs Go.RowKit

theorem addC_spec {a b : Nat} (ha : a ≤ topN) (hb : b ≤ topN) {h : Heap} {Q : Value → Heap → Prop} (hq : Q (natV (addN a b)) h) : acall Try.prog F_count_add [natV a, natV b] h Q := by
  have e : topN = 9223372036854775807 := rfl
  apply W_count_add_ok
  unfold W_count_add
  rw [n_sub (by omega), oW_some, n_gtr, oW_some, bW_dec]
  unfold addN at hq
  constructor
  · intro q
    rw [if_pos (by omega)] at hq
    exact gcV_same hq
  · intro q
    rw [if_neg (by omega)] at hq
    rw [n_add (by omega), oW_some]
    exact gcV_same hq
theorem mostC_spec {h : Heap} {Q : Value → Heap → Prop} (hq : Q (natV topN) h) : acall Try.prog F_homographref28_most [] h Q := by
  apply W_homographref28_most_ok
  unfold W_homographref28_most
  exact gcV_same hq
theorem refAdd_spec {a b : Nat} (ha : a ≤ topN) (hb : b ≤ topN) {h : Heap} {Q : Value → Heap → Prop} (hq : Q (natV (addN a b)) h) : acall Try.prog F_homographref28_Add [natV a, natV b] h Q := by
  have e : topN = 9223372036854775807 := rfl
  apply W_homographref28_Add_ok
  unfold W_homographref28_Add
  refine callW_plain.2 (mostC_spec ?_)
  rw [n_sub (by omega), oW_some, n_gtr, oW_some, bW_dec]
  unfold addN at hq
  constructor
  · intro q
    rw [if_pos (by omega)] at hq
    exact callW_plain.2 (mostC_spec (gcV_same hq))
  · intro q
    rw [if_neg (by omega)] at hq
    rw [n_add (by omega), oW_some]
    exact gcV_same hq

theorem quoN {b : Nat} (hb : 0 < b) : binN .quo (.int .i64 9223372036854775807) (natV b) = some (natV (topN / b)) := by
  have e : ((9223372036854775807 : Int).tdiv (b : Int)) = ((topN / b : Nat) : Int) := by
    rw [Int.tdiv_eq_ediv_of_nonneg (by omega)]; rfl
  have hle : topN / b ≤ topN := Nat.div_le_self ..
  have ht : topN = 9223372036854775807 := rfl
  generalize topN / b = c at *
  rw [n_quo (by omega) (by rw [e]; omega), e]
theorem mulFits {a b : Nat} (h : ¬ (b > 0 ∧ a > topN / b)) : a * b ≤ topN := by
  by_cases h0 : b = 0
  · subst h0; simp
  · have h2 : a ≤ topN / b := by
      have : ¬ a > topN / b := fun q => h ⟨by omega, q⟩
      omega
    exact (Nat.le_div_iff_mul_le (by omega)).1 h2
theorem mulC_spec {a b : Nat} (ha : a ≤ topN) (hb : b ≤ topN) {h : Heap} {Q : Value → Heap → Prop} (hq : Q (natV (mulN a b)) h) : acall Try.prog F_count_mul [natV a, natV b] h Q := by
  have e : topN = 9223372036854775807 := rfl
  apply W_count_mul_ok
  unfold W_count_mul
  unfold mulN at hq
  have fit : ¬ (b > 0 ∧ a > topN / b) → oW (binN .mul (natV a) (natV b)) fun v => gcV h Q v h := fun q => by
    have hm := mulFits q
    rw [if_neg q] at hq
    rw [n_mul (by rw [← Int.natCast_mul]; omega), oW_some, ← Int.natCast_mul]
    exact gcV_same hq
  rw [n_gtr, oW_some, bW_dec]
  constructor
  · intro h0
    have hle : topN / b ≤ topN := Nat.div_le_self ..
    rw [quoN (by omega), oW_some, n_gtr, oW_some, bW_dec]
    constructor
    · intro q
      rw [if_pos ⟨by omega, by omega⟩] at hq
      exact gcV_same hq
    · intro q
      exact fit fun z => q (by omega)
  · intro h0
    rw [bW_false]
    exact fit fun z => h0 (by omega)

end Go.Ax

namespace Go.Ax
open Go Go.Proofs Go.RowKit

theorem refMul_spec {a b : Nat} (ha : a ≤ topN) (hb : b ≤ topN) {h : Heap} {Q : Value → Heap → Prop} (hq : Q (natV (mulN a b)) h) : acall Try.prog F_homographref28_Mul [natV a, natV b] h Q := by
  have e : topN = 9223372036854775807 := rfl
  apply W_homographref28_Mul_ok
  unfold W_homographref28_Mul
  unfold mulN at hq
  have fit : ¬ (b > 0 ∧ a > topN / b) → oW (binN .mul (natV a) (natV b)) fun v => gcV h Q v h := fun q => by
    have hm := mulFits q
    rw [if_neg q] at hq
    rw [n_mul (by rw [← Int.natCast_mul]; omega), oW_some, ← Int.natCast_mul]
    exact gcV_same hq
  rw [n_gtr, oW_some, bW_dec]
  constructor
  · intro h0
    refine callW_plain.2 (mostC_spec ?_)
    have hle : topN / b ≤ topN := Nat.div_le_self ..
    have eq : binN .quo (natV topN) (natV b) = some (natV (topN / b)) := quoN (by omega)
    rw [eq, oW_some, n_gtr, oW_some, bW_dec]
    constructor
    · intro q
      rw [if_pos ⟨by omega, by omega⟩] at hq
      exact callW_plain.2 (mostC_spec (gcV_same hq))
    · intro q
      exact fit fun z => q (by omega)
  · intro h0
    rw [bW_false]
    exact fit fun z => h0 (by omega)

/-- A fact, as a value. -/
abbrev Fct.enc (f : Fct) : Value := .agg #[.int .i64 f.1, .int .i64 f.2.1, .int .i64 f.2.2]
abbrev frow (f : Fct) : AObj := .row [.int .i64 f.1, .int .i64 f.2.1, .int .i64 f.2.2] .exact
/-- A fact in a box. -/
def FAt (H : Heap) (p : Nat) (f : Fct) : Prop := ∃ m, getRow H p = some ([.int .i64 f.1, .int .i64 f.2.1, .int .i64 f.2.2], m)
theorem box_fct {h : Heap} {f : Fct} : boxA h (Fct.enc f) = some (.pointer (some ⟨h.length, 0, none⟩), h ++ [frow f]) := by rw [box_agg]
theorem FAt.box {h : Heap} {f : Fct} : FAt (h ++ [frow f]) h.length f := ⟨.exact, by rw [row_app0]; rfl⟩
theorem FAt.app {H t : Heap} {p : Nat} {f : Fct} (a : FAt H p f) : FAt (H ++ t) p f := let ⟨m, e⟩ := a; ⟨m, getRow_app e⟩
section
variable {H : Heap} {p : Nat} {f : Fct} (a : FAt H p f) {K : Value → Prop}
include a
theorem FAt.sym (k : K (.int .i64 f.1)) : oW (faW 0 1 (.pointer (some ⟨p, 0, none⟩))) fun v => oW (ldW false 1 H v) K := by
  obtain ⟨m, e⟩ := a; rw [fa_ptr, oW_some, ldW_one, e]; exact oW_some.2 k
theorem FAt.from_ (k : K (.int .i64 f.2.1)) : oW (faW 1 1 (.pointer (some ⟨p, 0, none⟩))) fun v => oW (ldW false 1 H v) K := by
  obtain ⟨m, e⟩ := a; rw [fa_ptr, oW_some, ldW_one, e]; exact oW_some.2 k
theorem FAt.to_ (k : K (.int .i64 f.2.2)) : oW (faW 2 1 (.pointer (some ⟨p, 0, none⟩))) fun v => oW (ldW false 1 H v) K := by
  obtain ⟨m, e⟩ := a; rw [fa_ptr, oW_some, ldW_one, e]; exact oW_some.2 k
omit a in
theorem FAt.ld (a : FAt H p f) : ldW true 3 H (.pointer (some ⟨p, 0, none⟩)) = some (Fct.enc f) := by
  obtain ⟨m, e⟩ := a; rw [ldW_agg, e]; rfl
end
theorem less_spec {x y : Fct} {h : Heap} {Q : Value → Heap → Prop} (hq : Q (.bool (lessF x y)) h) : acall Try.prog F_homographref26_Less [Fct.enc x, Fct.enc y] h Q := by
  apply W_homographref26_Less_ok
  unfold W_homographref26_Less
  rw [box_fct, hW_some, box_fct, hW_some]
  have a : FAt (h ++ [frow x] ++ [frow y]) h.length x := FAt.box.app
  have b : FAt (h ++ [frow x] ++ [frow y]) (h ++ [frow x]).length y := FAt.box
  have fin : ∀ {c : Bool}, lessF x y = c → gcV h Q (.bool c) (h ++ [frow x] ++ [frow y]) := fun e => by
    rw [List.append_assoc]
    exact gcV_end (.cl (.bool _)) (by rw [← e]; exact hq)
  unfold lessF at fin
  refine a.sym (b.sym ?_)
  rw [n_neq, oW_some, bW_dec]
  constructor
  · intro h1
    refine a.sym (b.sym ?_)
    rw [n_lss, oW_some]
    exact fin (by rw [if_pos h1])
  · intro h1
    refine a.from_ (b.from_ ?_)
    rw [n_neq, oW_some, bW_dec]
    constructor
    · intro h2
      refine a.from_ (b.from_ ?_)
      rw [n_lss, oW_some]
      exact fin (by rw [if_neg h1, if_pos h2])
    · intro h2
      refine a.to_ (b.to_ ?_)
      rw [n_lss, oW_some]
      exact fin (by rw [if_neg h1, if_neg h2])

end Go.Ax

namespace Go.Ax
open Go Go.Proofs Go.RowKit

/-- '==' of structs, over any program. -/
theorem eql_agg {P : Program} {t : TypeId} {xs ys : Array Value} {a b : List Lit} (hg : P.eqGuardType P.depth t = false) (ha : aggLits P t (.agg xs) = some a) (hb : aggLits P t (.agg ys) = some b) :
    binA P .eql t (.agg xs) (.agg ys) = some (.bool (cellsEq xs.toList ys.toList)) := by
  have : eqlA P t (.agg xs) (.agg ys) = some (cellsEq xs.toList ys.toList) := by
    simp only [eqlA]
    rw [if_pos hg, ha, hb]
  simp only [binA]
  rw [this]
  rfl

theorem keyLits_int {P : Program} {d : Nat} {t : TypeId} (ht : P.underlying t = some (.int .i64)) {n : Int} (hn : inI n) : P.keyLits (d + 1) t [.int .i64 n] = some [.int .i64 n] := by
  have w : (Lit.int .i64 n).wf = true := by
    have : n.natAbs ≤ n.natAbs := Nat.le_refl _
    simp only [Lit.wf, Bool.and_eq_true, decide_eq_true_eq]
    exact ⟨hn.1, hn.2⟩
  simp only [Program.keyLits, ht]
  rw [if_pos ⟨trivial, w⟩]

theorem keyLits_three {P : Program} {d : Nat} {t : TypeId} {fs : Array Field} {f1 f2 f3 : Field} (ht : P.underlying t = some (.struct fs)) (hf : fs.toList = [f1, f2, f3]) (hc : P.cellsOf t = 3)
    (hn : fs.all (·.name != "_") = true) (o1 : f1.offset = 0) (o2 : f2.offset = 1) (o3 : f3.offset = 2) (c1 : P.cellsOf f1.type = 1) (c2 : P.cellsOf f2.type = 1) (c3 : P.cellsOf f3.type = 1)
    (h1 : P.underlying f1.type = some (.int .i64)) (h2 : P.underlying f2.type = some (.int .i64)) (h3 : P.underlying f3.type = some (.int .i64)) {a b c : Int} (ha : inI a) (hb : inI b) (hcc : inI c) :
    P.keyLits (d + 2) t [.int .i64 a, .int .i64 b, .int .i64 c] = some [.int .i64 a, .int .i64 b, .int .i64 c] := by
  rw [Program.keyLits.eq_def]
  dsimp only
  rw [ht]
  dsimp only
  rw [if_pos ⟨by rw [hc]; rfl, hn⟩, hf]
  simp only [List.mapM_cons, List.mapM_nil, o1, o2, o3, c1, c2, c3, List.drop, List.take, keyLits_int h1 ha, keyLits_int h2 hb, keyLits_int h3 hcc]
  rfl

def isI64 : Option TypeDesc → Bool
  | some (.int .i64) => true
  | _ => false
theorem isI64_eq {t : Option TypeDesc} (h : isI64 t = true) : t = some (.int .i64) := by
  unfold isI64 at h
  split at h
  · rfl
  · cases h
/-- Three numbers, one after another. -/
def threeI (P : Program) (t : TypeId) : Bool :=
  match P.underlying t with
  | some (.struct fs) => match fs.toList with
    | [f1, f2, f3] => (P.cellsOf t == 3) && fs.all (·.name != "_") && (f1.offset == 0) && (f2.offset == 1) && (f3.offset == 2) && (P.cellsOf f1.type == 1) && (P.cellsOf f2.type == 1) && (P.cellsOf f3.type == 1) &&
        isI64 (P.underlying f1.type) && isI64 (P.underlying f2.type) && isI64 (P.underlying f3.type)
    | _ => false
  | _ => false
theorem keyLits_threeI {P : Program} {d : Nat} {t : TypeId} (h : threeI P t = true) {a b c : Int} (ha : inI a) (hb : inI b) (hcc : inI c) :
    P.keyLits (d + 2) t [.int .i64 a, .int .i64 b, .int .i64 c] = some [.int .i64 a, .int .i64 b, .int .i64 c] := by
  unfold threeI at h
  split at h
  · rename_i fs e
    split at h
    · rename_i f1 f2 f3 ef
      simp only [Bool.and_eq_true, beq_iff_eq] at h
      obtain ⟨⟨⟨⟨⟨⟨⟨⟨⟨⟨hc, hn⟩, o1⟩, o2⟩, o3⟩, c1⟩, c2⟩, c3⟩, h1⟩, h2⟩, h3⟩ := h
      exact keyLits_three e ef hc hn o1 o2 o3 c1 c2 c3 (isI64_eq h1) (isI64_eq h2) (isI64_eq h3) ha hb hcc
    · cases h
  · cases h

/-- The numbers of a fact are ints. -/
def inF (f : Fct) : Prop := inI f.1 ∧ inI f.2.1 ∧ inI f.2.2

theorem fct_lits {f : Fct} (hf : inF f) : ∃ l, aggLits Try.prog 78 (Fct.enc f) = some l := by
  have h1 : Try.prog.keyTypeAt 40 78 = true := by kernel_rfl
  have h2 : Try.prog.tiled 40 78 = true := by kernel_rfl
  have h3 : (Fct.enc f).formed Try.prog 78 = true := by kernel_rfl
  have h4 : threeI Try.prog 78 = true := by kernel_rfl
  have h5 : Try.prog.keyLits 41 78 [.int .i64 f.1, .int .i64 f.2.1, .int .i64 f.2.2] = some _ := keyLits_threeI h4 hf.1 hf.2.1 hf.2.2
  exact ⟨_, by
    simp only [aggLits]
    rw [if_pos ⟨h1, h2, h3⟩]
    exact h5⟩
theorem eq_fct {x y : Fct} (hx : inF x) (hy : inF y) : binA Try.prog .eql 78 (Fct.enc x) (Fct.enc y) = some (.bool (decide (x = y))) := by
  obtain ⟨a, ha⟩ := fct_lits hx
  obtain ⟨b, hb⟩ := fct_lits hy
  have hg : Try.prog.eqGuardType Try.prog.depth 78 = false := by kernel_rfl
  rw [eql_agg hg ha hb]
  obtain ⟨x1, x2, x3⟩ := x
  obtain ⟨y1, y2, y3⟩ := y
  have : cellsEq [.int .i64 x1, .int .i64 x2, .int .i64 x3] [.int .i64 y1, .int .i64 y2, .int .i64 y3] = decide ((x1, x2, x3) = (y1, y2, y3)) := by
    rw [Bool.eq_iff_iff, decide_eq_true_eq]
    simp [cellsEq, cellEq]
  exact congrArg (fun z => some (Value.bool z)) this

end Go.Ax

namespace Go.Ax
open Go Go.Proofs Go.RowKit

theorem putF_split {x : Fct} : ∀ {l : List Fct} {k : Nat}, k ≤ l.length → (∀ j (hj : j < l.length), j < k → lessF l[j] x = true) → (∀ (hk : k < l.length), lessF l[k] x = false) →
    putF l x = if (if h : k < l.length then decide (l[k] = x) else false) = true then l else l.take k ++ [x] ++ l.drop k
  | [], k, hk, _, _ => by
    have : k = 0 := by simpa using hk
    subst this; rfl
  | y :: l, 0, _, _, h2 => by
    have := h2 (by simp)
    simp only [List.getElem_cons_zero] at this
    rw [putF, if_neg (by rw [this]; decide)]
    simp
  | y :: l, k + 1, hk, h1, h2 => by
    have hy := h1 0 (by simp) (by omega)
    simp only [List.getElem_cons_zero] at hy
    rw [putF, if_pos hy, putF_split (l := l) (k := k) (by simpa using hk) (fun j hj q => by have := h1 (j + 1) (by simpa using hj) (by omega); simpa using this) (fun q => by have := h2 (by simpa using q); simpa using this)]
    simp only [List.length_cons, Nat.add_lt_add_iff_right, List.getElem_cons_succ, List.take_succ_cons, List.drop_succ_cons, List.cons_append]
    split
    · split <;> rfl
    · rfl

abbrev facts (l : List Fct) : Value := lit (l.map Fct.enc)
theorem fct_len {l : List Fct} : ∀ x ∈ l.map Fct.enc, (cellsOf x).length = 3 := fun x hx => by
  obtain ⟨f, _, rfl⟩ := List.mem_map.1 hx; rfl
theorem fct_ok {l : List Fct} : ∀ x ∈ l.map Fct.enc, (cellsOf x).all okCell = true := fun x hx => by
  obtain ⟨f, _, rfl⟩ := List.mem_map.1 hx; rfl
theorem fct_cl {l : List Fct} : ∀ e ∈ l.map Fct.enc, ∀ x ∈ cellsOf e, Cl x := fun e he x hx => by
  obtain ⟨f, _, rfl⟩ := List.mem_map.1 he
  simp only [cellsOf_agg, List.mem_cons, List.not_mem_nil, or_false] at hx
  rcases hx with rfl | rfl | rfl <;> exact .int _ _
theorem sl_facts {l : List Fct} {a : Nat} {h : Heap} (hn : a ≤ l.length) : slS 3 h (facts l) (some (.int .i64 (a : Int))) none none = some (facts (l.drop a)) := by
  simp only [slS, isLit, litSlice, asNat]
  rw [if_pos (by rw [List.all_eq_true]; intro e he; simpa using fct_len e (by simpa using he))]
  have e : ((l.map Fct.enc).drop a).take (l.length - a) = (l.map Fct.enc).drop a := List.take_of_length_le (by simp)
  simp [hn, e]
theorem sl_factsT {l : List Fct} {a : Nat} {h : Heap} (hn : a ≤ l.length) : slS 3 h (facts l) none (some (.int .i64 (a : Int))) none = some (facts (l.take a)) := by
  simp only [slS, isLit, litSlice, asNat]
  rw [if_pos (by rw [List.all_eq_true]; intro e he; simpa using fct_len e (by simpa using he))]
  simp [hn]
theorem src_facts {H : Heap} {l : List Fct} : srcA H 3 (facts l) = some ((l.map Fct.enc).length, (l.map Fct.enc).flatMap cellsOf) := by
  have hz := fct_len (l := l)
  simp only [srcA, List.size_toArray]
  rw [if_pos (by simp)]

theorem ins_ok {l : List Fct} {x : Fct} {k : Nat} {h : Heap} {Q : Value → Heap → Prop} (hk : k ≤ l.length) (hl : l.length ≤ 1000000000) (hq : Q (facts (l.take k ++ [x] ++ l.drop k)) h) :
    (oW (slS 3 (h ++ [frow x]) (facts l) none (some (.int .i64 (k : Int))) none) fun v25 =>
    (hW (apW 3 24 (h ++ [frow x]) (.slice none 0 0) v25) fun v26 h27 =>
    (oW (ldW true 3 h27 (.pointer (some ⟨h.length, 0, none⟩))) fun v28 =>
    (hW (bslW h27 1 [(.int .i64 0), (.int .i64 0), (.int .i64 0)] [(0, 3, v28)]) fun v29 h30 =>
    (hW (apW 3 24 h30 v26 v29) fun v31 h32 =>
    (oW (slS 3 h32 (facts l) (some (.int .i64 (k : Int))) none none) fun v33 =>
    (hW (apW 3 24 h32 v31 v33) fun v34 h35 =>
    (gcV h Q v34 h35)))))))) := by
  rw [sl_factsT hk, oW_some]
  have hB : (h ++ [frow x]).length = h.length + 1 := by simp
  rw [← List.append_nil (h ++ [frow x])]
  refine Acc.more (n := h.length + 1) (l := []) hB Acc.nil (by omega) (by simp) fct_len fct_ok src_facts (by simp; omega) (by simp; omega) fun v26 g27 a _ _ _ => ?_
  have hx : FAt (h ++ [frow x] ++ g27) h.length x := FAt.box.app
  rw [hx.ld, oW_some]
  rw [List.nil_append] at a
  refine Acc.push (e := Fct.enc x) hB a (by omega) fct_len rfl rfl rfl rfl (by simp; omega) (by simp; omega) fun v31 g32 a2 _ _ _ => ?_
  rw [sl_facts hk, oW_some]
  have e1 : (l.take k).map Fct.enc ++ [Fct.enc x] = (l.take k ++ [x]).map Fct.enc := by simp
  rw [e1] at a2
  refine Acc.more hB a2 (by omega) fct_len fct_len fct_ok src_facts (by simp; omega) (by simp; omega) fun v34 g35 a3 _ _ _ => ?_
  rw [← List.map_append] at a3
  exact a3.done hB ⟨_, rfl⟩ (by omega) fct_len fct_cl hq

theorem ldF {f : Fct} {H : Heap} : ldW true 3 H (plit (cellsOf (Fct.enc f))) = some (Fct.enc f) := ld_plit (sz := 3) (cs := cellsOf (Fct.enc f)) rfl
theorem gc_facts {l : List Fct} {h t : Heap} {Q : Value → Heap → Prop} (hq : Q (facts l) h) : gcV h Q (facts l) (h ++ t) :=
  gcV_end (.cl (.lit _ fun e he => fct_cl e (by simpa using he))) hq
def PutI (l : List Fct) (x : Fct) (h : Heap) (m : Nat) (vs : List Value) (H : Heap) : Prop :=
  ∃ k : Nat, vs = [facts l, .pointer (some ⟨h.length, 0, none⟩), .int .i64 (k : Int)] ∧ H = h ++ [frow x] ∧ k ≤ l.length ∧ (∀ j (hj : j < l.length), j < k → lessF l[j] x = true) ∧ m = l.length - k
theorem putFact_spec {l : List Fct} {x : Fct} (hl : l.length ≤ 1000000000) (hi : ∀ f ∈ l, inF f) (hx : inF x) {h : Heap} {Q : Value → Heap → Prop} (hq : Q (facts (putF l x)) h) :
    acall Try.prog F_homographref26_PutFact [facts l, Fct.enc x] h Q := by
  apply W_homographref26_PutFact_ok
  unfold W_homographref26_PutFact
  rw [box_fct, hW_some]
  refine ⟨PutI l x h, l.length, gcL_same ⟨0, rfl, rfl, by omega, fun _ _ q => absurd q (by omega), by omega⟩, ?_⟩
  rintro m x7 x8 x9 h10 ⟨k, hv, rfl, hk, hlt, hm⟩
  simp only [List.cons.injEq, and_true] at hv
  obtain ⟨rfl, rfl, rfl⟩ := hv
  have fx : FAt (h ++ [frow x]) h.length x := FAt.box
  have ll : lenS (facts l) = some (.int .i64 (l.length : Int)) := by simp
  rw [ll, oW_some, n_lss, oW_some, bW_dec]
  constructor
  · intro h1
    have hk' : k < l.length := by omega
    refine ix_lit hk' rfl ?_
    rw [ldF, oW_some, fx.ld, oW_some]
    refine callW_plain.2 (less_spec ⟨by simp, ?_⟩)
    rw [bW_bool]
    constructor
    · intro h2
      rw [n_add (by omega), oW_some]
      exact ⟨l.length - (k + 1), by omega, gcL_same ⟨k + 1, by simp, rfl, by omega, fun j hj q => by
        by_cases e : j = k
        · subst e; exact h2
        · exact hlt j hj (by omega), rfl⟩⟩
    · intro h2
      have hs := putF_split hk hlt (fun _ => h2)
      rw [dif_pos hk'] at hs
      rw [oW_some, n_lss, oW_some, bW_dec]
      refine ⟨fun _ => ?_, fun q => absurd (by omega) q⟩
      refine ix_lit hk' rfl ?_
      rw [ldF, oW_some, fx.ld, oW_some, eq_fct (hi _ (List.getElem_mem _)) hx, oW_some, bW_bool]
      constructor
      · intro h3
        rw [if_pos h3] at hs
        exact gc_facts (by rw [← hs]; exact hq)
      · intro h3
        rw [if_neg (by rw [h3]; decide)] at hs
        exact ins_ok hk hl (by rw [← hs]; exact hq)
  · intro h1
    have hs := putF_split hk hlt (fun q => absurd q (by omega))
    rw [dif_neg (by omega), if_neg (by decide)] at hs
    rw [bW_false, oW_some, n_lss, oW_some, bW_dec]
    refine ⟨fun q => absurd q (by omega), fun _ => ?_⟩
    rw [bW_false]
    exact ins_ok hk hl (by rw [← hs]; exact hq)

end Go.Ax

namespace Go.Ax
open Go Go.Proofs Go.RowKit

/-- A net of so many tokens, one behind the other. -/
abbrev edgeL (i : Nat) : Value := .agg #[.int .i64 0, .int .i64 (i : Int), .int .i64 ((i + 1 : Nat) : Int)]
abbrev lineC (n : Nat) : List Value := [.int .i64 (n : Int), nats (List.range (n + 1)), lit ((List.range n).map edgeL)]
abbrev lineV (n : Nat) : Value := .agg #[.int .i64 (n : Int), nats (List.range (n + 1)), lit ((List.range n).map edgeL)]
abbrev lrow (n : Nat) : AObj := .row (lineC n) .exact
/-- The net lies at a place. -/
def LnAt (H : Heap) (p n : Nat) : Prop := ∃ m, getRow H p = some (lineC n, m)
section
variable {H : Heap} {p n : Nat} (a : LnAt H p n) {K : Value → Prop}
include a
theorem LnAt.size (k : K (.int .i64 (n : Int))) : oW (faW 0 1 (.pointer (some ⟨p, 0, none⟩))) fun v => oW (ldW false 1 H v) K := by
  obtain ⟨m, e⟩ := a; rw [fa_ptr, oW_some, ldW_one, e]; exact oW_some.2 k
theorem LnAt.skip (k : K (nats (List.range (n + 1)))) : oW (faW 1 1 (.pointer (some ⟨p, 0, none⟩))) fun v => oW (ldW false 1 H v) K := by
  obtain ⟨m, e⟩ := a; rw [fa_ptr, oW_some, ldW_one, e]; exact oW_some.2 k
theorem LnAt.edges (k : K (lit ((List.range n).map edgeL))) : oW (faW 2 1 (.pointer (some ⟨p, 0, none⟩))) fun v => oW (ldW false 1 H v) K := by
  obtain ⟨m, e⟩ := a; rw [fa_ptr, oW_some, ldW_one, e]; exact oW_some.2 k
end
theorem box_line {h : Heap} {n : Nat} : boxA h (lineV n) = some (.pointer (some ⟨h.length, 0, none⟩), h ++ [lrow n]) := by rw [box_agg]
theorem skipAt {n i : Nat} (hi : i ≤ n) {h : Heap} {K : Value → Prop} (k : K (.int .i64 (i : Int))) : oW (iaS 1 (nats (List.range (n + 1))) (.int .i64 (i : Int))) fun v => oW (ldW false 1 h v) K := by
  refine ix_lit (n := i) (by simp; omega) rfl ?_
  exact ⟨_, ld_plit1, by simpa using k⟩
theorem edgeAt {n i : Nat} (hi : i < n) {K : Value → Prop} (k : K (plit [.int .i64 0, .int .i64 (i : Int), .int .i64 ((i + 1 : Nat) : Int)])) : oW (iaS 3 (lit ((List.range n).map edgeL)) (.int .i64 (i : Int))) K := by
  refine ix_lit (n := i) (by simpa using hi) rfl ?_
  simpa using k
abbrev brow (l : List Bool) : AObj := .row (l.map .bool) .exact
/-- The marks as far as a place. -/
abbrev comeL (n k : Nat) : List Bool := List.replicate (k + 1) true ++ List.replicate (n - k) false
theorem comeL_at {n k : Nat} (hk : k ≤ n) : (comeL n k)[k]? = some true := by simp [comeL, List.getElem?_append]
theorem comeL_set {n k : Nat} (hk : k < n) : (comeL n k).set (k + 1) true = comeL n (k + 1) := by
  apply List.ext_getElem?
  intro j
  simp only [comeL, List.getElem?_set, List.getElem?_append, List.getElem?_replicate, List.length_replicate, List.length_append]
  split <;> split <;> (try split) <;> (try split) <;> (try split) <;> first | rfl | omega

/-- The marks, beside the net. -/
def MkL (h : Heap) (n : Nat) (l : List Bool) (H : Heap) : Prop := H = h ++ [lrow n, brow l] ∧ l.length = n + 1
abbrev comeV (h : Heap) (n : Nat) : Value := .slice (some ⟨h.length + 1, 0, none⟩) (n + 1) (n + 1)
section
variable {h H : Heap} {n : Nat} {l : List Bool} (m : MkL h n l H)
include m
theorem MkL.net : LnAt H h.length n := by rw [m.1]; exact ⟨.exact, by rw [row_app0]; rfl⟩
theorem MkL.row : getRow H (h.length + 1) = some (l.map .bool, .exact) := by rw [m.1, row_app]; rfl
theorem MkL.get {k : Nat} {b : Bool} (hk : k ≤ n) (hb : l[k]? = some b) {K : Value → Prop} (q : K (.bool b)) : oW (iaS 1 (comeV h n) (.int .i64 (k : Int))) fun v => oW (ldW false 1 H v) K := by
  rw [iaS_slice (by omega), oW_some, ldW_one, m.row, Option.bind_some]
  exact ⟨.bool b, by rw [Nat.zero_add, Nat.mul_one, List.getElem?_map, hb]; rfl, q⟩
theorem MkL.put {k : Nat} (hk : k ≤ n) {K : Heap → Prop} (q : ∀ H', MkL h n (l.set k true) H' → K H') : oW (iaS 1 (comeV h n) (.int .i64 (k : Int))) fun v => sW (stW 1 H v (.bool true)) K := by
  have hl := m.2
  rw [iaS_slice (by omega), oW_some, st1 m.row (by simp) rfl rfl rfl (by simp; omega), sW_some, m.1, set_app]
  exact q _ ⟨by simp [List.map_set], by simp [hl]⟩
theorem MkL.done {Q : Value → Heap → Prop} (hq : Q (bools l) h) : gcV h Q (comeV h n) H := by
  have hl := m.2
  rw [m.1]
  refine gcV_end (Gv.frz1 (i := h.length + 1) (m := .exact) ⟨by omega, by simp⟩ ?_ (by simp [hl]) (fun e he => by obtain ⟨b, _, rfl⟩ := List.mem_map.1 he; exact ⟨rfl, .bool _⟩)) hq
  rw [List.getElem?_append_right (by omega)]
  simp
end
def ComeI (h : Heap) (n : Nat) (m : Nat) (vs : List Value) (H : Heap) : Prop :=
  ∃ k : Nat, vs = [.pointer (some ⟨h.length, 0, none⟩), comeV h n, .int .i64 (k : Int)] ∧ MkL h n (comeL n k) H ∧ k ≤ n ∧ m = n - k
theorem come_spec {n : Nat} (hn : n ≤ 1000000) {h : Heap} {Q : Value → Heap → Prop} (hq : Q (bools (List.replicate (n + 1) true)) h) : acall Try.prog F_homographref23_Come [lineV n] h Q := by
  apply W_homographref23_Come_ok
  unfold W_homographref23_Come
  rw [box_line, hW_some]
  have a : LnAt (h ++ [lrow n]) h.length n := ⟨.exact, by rw [row_app0]; rfl⟩
  refine a.size ?_
  rw [n_add (by omega), oW_some]
  have hrep : repA [Value.bool false] (n + 1) = (List.replicate (n + 1) false).map Value.bool := by rw [repA_one, List.map_replicate]
  have L1 : (h ++ [lrow n]).length = h.length + 1 := by simp
  refine ⟨_, _, by
    simp only [mksW]
    rw [if_pos (by omega)], ?_⟩
  have en : ((n : Int) + 1).toNat = n + 1 := by omega
  rw [en, hrep, L1]
  have m0 : MkL h n (List.replicate (n + 1) false) (h ++ [lrow n] ++ [brow (List.replicate (n + 1) false)]) := ⟨by simp, by simp⟩
  refine m0.net.skip ?_
  refine skipAt (i := 0) (by omega) ?_
  refine m0.put (k := 0) (by omega) fun H1 m1 => ?_
  have e1 : (List.replicate (n + 1) false).set 0 true = comeL n 0 := by simp [comeL, List.replicate_succ]
  rw [e1] at m1
  refine ⟨ComeI h n, n, gcL_same ⟨0, rfl, m1, by omega, by omega⟩, ?_⟩
  clear m0 m1 a
  rintro m x18 x19 x20 h21 ⟨k, hv, mk, hk, hm⟩
  simp only [List.cons.injEq, and_true] at hv
  obtain ⟨rfl, rfl, rfl⟩ := hv
  refine mk.net.edges ?_
  have ll : lenS (lit ((List.range n).map edgeL)) = some (.int .i64 (n : Int)) := by simp
  rw [ll, oW_some, n_lss, oW_some, bW_dec]
  constructor
  · intro h1
    have hk' : k < n := by omega
    refine mk.net.edges (edgeAt hk' ?_)
    rw [fa_plit (by simp), oW_some]
    refine ⟨_, ld_plit1, ?_⟩
    refine mk.get (by omega) (comeL_at hk) ?_
    rw [bW_true]
    refine mk.net.skip (mk.net.edges (edgeAt hk' ?_))
    rw [fa_plit (by simp), oW_some]
    refine ⟨_, ld_plit1, ?_⟩
    refine skipAt (i := k + 1) (by omega) ?_
    refine mk.put (k := k + 1) (by omega) fun H2 m2 => ?_
    rw [comeL_set hk'] at m2
    rw [n_add (by omega), oW_some]
    exact ⟨n - (k + 1), by omega, gcL_same ⟨k + 1, by simp, m2, by omega, rfl⟩⟩
  · intro h1
    have : k = n := by omega
    subst this
    have e : comeL k k = List.replicate (k + 1) true := by simp [comeL]
    rw [e] at mk
    exact mk.done hq

end Go.Ax

namespace Go.Ax
open Go Go.Proofs Go.RowKit

/-- Where a symbol goes from a place. -/
def hitsF (l : List Fct) (x p : Int) : List Int := (l.filter fun f => decide (f.1 = x ∧ f.2.1 = p)).map fun f => f.2.2
theorem spanF_cons {l : List Fct} {at_ row : List Int} {x : Int} : spanF l at_ (x :: row) = spanF l (onceL (at_.flatMap (hitsF l x))) row := rfl
theorem hitsF_le {l : List Fct} {x p : Int} : (hitsF l x p).length ≤ l.length := by unfold hitsF; rw [List.length_map]; exact List.length_filter_le ..
theorem hitsF_sub {l : List Fct} {x p y : Int} (h : y ∈ hitsF l x p) : y ∈ l.map fun f => f.2.2 := by
  obtain ⟨f, hf, rfl⟩ := List.mem_map.1 h
  exact List.mem_map.2 ⟨f, (List.mem_filter.1 hf).1, rfl⟩
theorem hits_take {l : List Fct} {x p : Int} {j : Nat} (hj : j < l.length) : hitsF (l.take (j + 1)) x p = hitsF (l.take j) x p ++ if l[j].1 = x ∧ l[j].2.1 = p then [l[j].2.2] else [] := by
  unfold hitsF
  rw [List.take_succ_eq_append_getElem hj, List.filter_append, List.map_append]
  congr 1
  by_cases q : l[j].1 = x ∧ l[j].2.1 = p
  · rw [if_pos q]; simp [List.filter_cons, q]
  · rw [if_neg q]; simp [List.filter_cons, q]
theorem nodup_len {a : List Int} : ∀ {l : List Int}, a.Nodup → (∀ x ∈ a, x ∈ l) → a.length ≤ l.length := by
  induction a with
  | nil => intros; simp
  | cons x a ih =>
    intro l hn hs
    have hx := hs x (List.mem_cons_self ..)
    have := ih (l := l.erase x) (List.nodup_cons.1 hn).2 fun y hy => by
      have hne : y ≠ x := fun e => (List.nodup_cons.1 hn).1 (e ▸ hy)
      exact (List.mem_erase_of_ne hne).2 (hs y (List.mem_cons_of_mem _ hy))
    rw [List.length_erase_of_mem hx] at this
    have := List.length_pos_of_mem hx
    simp only [List.length_cons]; omega
theorem onceL_snoc {l : List Int} {y : Int} : onceL (l ++ [y]) = if y ∈ onceL l then onceL l else onceL l ++ [y] := by
  unfold onceL; rw [List.foldl_append]; rfl
theorem onceL_nodup {l : List Int} : (onceL l).Nodup := by
  have : ∀ (l a : List Int), a.Nodup → (l.foldl (fun a y => if y ∈ a then a else a ++ [y]) a).Nodup := by
    intro l
    induction l with
    | nil => exact fun _ h => h
    | cons x l ih =>
      intro a h
      rw [List.foldl_cons]
      refine ih _ ?_
      split
      · exact h
      · rename_i q
        rw [List.nodup_append]
        exact ⟨h, by simp, fun b hb c hc e => by simp at hc; subst hc; subst e; exact q hb⟩
  exact this l [] List.nodup_nil
theorem once_len {l : List Fct} {at_ : List Int} {x : Int} : (onceL (at_.flatMap (hitsF l x))).length ≤ l.length := by
  have := nodup_len (l := l.map fun f => f.2.2) (onceL_nodup (l := at_.flatMap (hitsF l x))) fun y hy => by
    rw [mem_onceL, List.mem_flatMap] at hy
    obtain ⟨p, _, hy⟩ := hy
    exact hitsF_sub hy
  rwa [List.length_map] at this

end Go.Ax

namespace Go.Ax
open Go Go.Proofs Go.RowKit

theorem cl_facts {l : List Fct} : Cl (facts l) := .lit _ fun e he => fct_cl e (by simpa using he)
theorem cl_ints {l : List Int} : Cl (ints l) := .lit _ fun e he => int_cl e (by simpa using he)
theorem gv_acc {h g : Heap} {v : Value} {l : List Int} (a : Acc 1 h.length (h ++ g) v (l.map fun x => .int .i64 x)) : Gv (frOf h.length []) (rOf h.length []) (h ++ g) (ints l) v :=
  a.gv (fun i hi => ⟨by have := a.ge hi; omega, by simp⟩) (by omega) int_len int_cl

def SpI (l : List Fct) (row : List Int) (res : List Int) (h : Heap) (m : Nat) (vs : List Value) (H : Heap) : Prop :=
  ∃ (at_ : List Int) (i : Nat), vs = [facts l, ints row, ints at_, .int .i64 (i : Int)] ∧ H = h ∧ i ≤ row.length ∧ at_.length ≤ l.length + 1 ∧ res = spanF l at_ (row.drop i) ∧ m = row.length - i
def SpJ (l : List Fct) (row at_ : List Int) (i : Nat) (x : Int) (h : Heap) (m : Nat) (vs : List Value) (H : Heap) : Prop :=
  ∃ (k : Nat) (v : Value) (g : Heap), vs = [facts l, ints row, ints at_, .int .i64 (i : Int), v, .int .i64 (k : Int)] ∧ H = h ++ g ∧ Acc 1 h.length (h ++ g) v (((at_.take k).flatMap (hitsF l x)).map fun x => .int .i64 x) ∧ k ≤ at_.length ∧ m = at_.length - k
def SpK (l : List Fct) (row at_ : List Int) (i : Nat) (x : Int) (k : Nat) (p : Int) (h : Heap) (m : Nat) (vs : List Value) (H : Heap) : Prop :=
  ∃ (j : Nat) (v : Value) (g : Heap), vs = [facts l, ints row, ints at_, .int .i64 (i : Int), v, .int .i64 (k : Int), .int .i64 (j : Int)] ∧ H = h ++ g ∧
    Acc 1 h.length (h ++ g) v (((at_.take k).flatMap (hitsF l x) ++ hitsF (l.take j) x p).map fun x => .int .i64 x) ∧ j ≤ l.length ∧ m = l.length - j
def SpL (l : List Fct) (row nx : List Int) (i : Nat) (h : Heap) (m : Nat) (vs : List Value) (H : Heap) : Prop :=
  ∃ (k : Nat) (v : Value) (g : Heap), vs = [facts l, ints row, v, .int .i64 (i : Int), ints nx, .int .i64 (k : Int)] ∧ H = h ++ g ∧ Acc 1 h.length (h ++ g) v ((onceL (nx.take k)).map fun x => .int .i64 x) ∧ k ≤ nx.length ∧ m = nx.length - k
def SpM (l : List Fct) (row nx : List Int) (i : Nat) (k : Nat) (y : Int) (v : Value) (H0 : Heap) (m : Nat) (vs : List Value) (H : Heap) : Prop :=
  ∃ j : Nat, vs = [facts l, ints row, v, .int .i64 (i : Int), ints nx, .int .i64 (k : Int), .bool (decide (y ∈ (onceL (nx.take k)).take j)), .int .i64 (j : Int)] ∧ H = H0 ∧ j ≤ (onceL (nx.take k)).length ∧ m = (onceL (nx.take k)).length - j

theorem flat_le {l : List Fct} {x : Int} : ∀ {ps : List Int}, (ps.flatMap (hitsF l x)).length ≤ ps.length * l.length
  | [] => by simp
  | a :: ps => by
    have := flat_le (l := l) (x := x) (ps := ps)
    have h2 := hitsF_le (l := l) (x := x) (p := a)
    rw [List.flatMap_cons, List.length_append, List.length_cons, Nat.add_mul, Nat.one_mul]
    omega
theorem spans_spec {l : List Fct} {row : List Int} {p : Int} (hl : l.length ≤ 10000) (hr : row.length ≤ 1000000) {h : Heap} {Q : Value → Heap → Prop} (hq : Q (ints (spanF l [p] row)) h) :
    acall Try.prog F_homographref26_spans [facts l, ints row, .int .i64 p] h Q := by
  apply W_homographref26_spans_ok
  unfold W_homographref26_spans
  generalize hres : spanF l [p] row = res at hq
  refine bsl1 rfl rfl rfl ?_
  have a0 : Acc 1 h.length (h ++ [.row (cellsOf (Value.int .i64 p)) .exact]) (.slice (some ⟨h.length, 0, none⟩) 1 1) ([p].map fun x => .int .i64 x) := Acc.made (l := [Value.int .i64 p]) (by simp) (Nat.le_refl _)
  refine ⟨SpI l row res h, row.length, gcL_app [] [] .nil [facts l, ints row, ints [p], .int .i64 0] trivial ⟨.cl cl_facts, .cl cl_ints, gv_acc a0, .cl (.int _ _), trivial⟩ ⟨[p], 0, rfl, by simp, by omega, by simp, hres.symm, by omega⟩, ?_⟩
  clear a0
  rintro m x7 x8 x9 x10 h11 ⟨at_, i, hv, rfl, hi, hat, hsp, hm⟩
  simp only [List.cons.injEq, and_true] at hv
  obtain ⟨rfl, rfl, rfl, rfl⟩ := hv
  have lr : lenS (ints row) = some (.int .i64 (row.length : Int)) := by simp
  rw [lr, oW_some, n_lss, oW_some, bW_dec]
  constructor
  rotate_left
  · intro h1
    have : i = row.length := by omega
    subst this
    rw [List.drop_length, spanF] at hsp
    subst hsp
    exact gcV_same hq
  intro h1
  have hi' : i < row.length := by omega
  have hdrop : row.drop i = row[i] :: row.drop (i + 1) := List.drop_eq_getElem_cons hi'
  rw [hdrop, spanF_cons] at hsp
  generalize hx : row[i] = x at hsp hdrop
  refine ⟨SpJ l row at_ i x h11, at_.length, gcL_same ⟨0, .slice none 0 0, [], rfl, (List.append_nil _).symm, Acc.nil, by omega, by omega⟩, ?_⟩
  rintro m2 x18 x19 x20 x21 x22 x23 h24 ⟨k, v, g, hv, rfl, ac, hk, hm2⟩
  simp only [List.cons.injEq, and_true] at hv
  obtain ⟨rfl, rfl, rfl, rfl, rfl, rfl⟩ := hv
  have la : lenS (ints at_) = some (.int .i64 (at_.length : Int)) := by simp
  rw [la, oW_some, n_lss, oW_some, bW_dec]
  constructor
  · intro h2
    have hk' : k < at_.length := by omega
    refine ⟨SpK l row at_ i x k at_[k] h11, l.length, gcL_same ⟨0, x22, g, rfl, rfl, by simpa [hitsF] using ac, by omega, by omega⟩, ?_⟩
    clear ac
    rintro m3 x31 x32 x33 x34 x35 x36 x37 h38 ⟨j, v, g, hv, rfl, ac, hj, hm3⟩
    simp only [List.cons.injEq, and_true] at hv
    obtain ⟨rfl, rfl, rfl, rfl, rfl, rfl, rfl⟩ := hv
    have lf : lenS (facts l) = some (.int .i64 (l.length : Int)) := by simp
    rw [lf, oW_some, n_lss, oW_some, bW_dec]
    constructor
    · intro h3
      have hj' : j < l.length := by omega
      have ht := hits_take (x := x) (p := at_[k]) hj'
      have no : ¬ (l[j].1 = x ∧ l[j].2.1 = at_[k]) → oW (binN .add (.int .i64 (j : Int)) (.int .i64 1)) fun v61 => ∃ m29, m29 < m3 ∧ gcL h11 (SpK l row at_ i x k at_[k] h11 m29) [facts l, ints row, ints at_, .int .i64 (i : Int), x35, .int .i64 (k : Int), v61] (h11 ++ g) := fun q => by
        rw [n_add (by omega), oW_some]
        rw [if_neg q, List.append_nil] at ht
        exact ⟨l.length - (j + 1), by omega, gcL_same ⟨j + 1, x35, g, by simp, rfl, by rw [ht]; exact ac, by omega, rfl⟩⟩
      refine ix_lit hj' rfl ?_
      rw [fa_plit (by simp), oW_some]
      refine ⟨_, ld_plit1, ?_⟩
      refine ix_ints hi' ?_
      rw [hx, n_eql, oW_some, bW_dec]
      constructor
      · intro q1
        refine ix_lit hj' rfl ?_
        rw [fa_plit (by simp), oW_some]
        refine ⟨_, ld_plit1, ?_⟩
        refine ix_ints hk' ?_
        rw [n_eql, oW_some, bW_dec]
        constructor
        · intro q2
          refine ix_lit hj' rfl ?_
          rw [fa_plit (by simp), oW_some]
          refine ⟨_, ld_plit1, ?_⟩
          rw [if_pos ⟨q1, q2⟩] at ht
          have b1 := flat_le (l := l) (x := x) (ps := at_.take k)
          have b2 : (at_.take k).length * l.length ≤ 10001 * 10000 := Nat.mul_le_mul (by rw [List.length_take]; omega) hl
          have b3 := hitsF_le (l := l.take j) (x := x) (p := at_[k])
          rw [List.length_take] at b3
          refine Acc.push (e := .int .i64 l[j].2.2) rfl ac (by omega) int_len rfl rfl rfl rfl (by simp only [List.length_map, List.length_append]; omega) (by simp only [List.length_map, List.length_append]; omega) fun v' g' a' _ _ _ => ?_
          rw [n_add (by omega), oW_some]
          refine ⟨l.length - (j + 1), by omega, gcL_same ⟨j + 1, v', g', by simp, rfl, ?_, by omega, rfl⟩⟩
          rw [ht, ← List.append_assoc, List.map_append]
          exact a'
        · exact fun q2 => no fun z => q2 z.2
      · intro q1
        rw [bW_false]
        exact no fun z => q1 z.1
    · intro h3
      have : j = l.length := by omega
      subst this
      rw [List.take_length] at ac
      rw [n_add (by omega), oW_some]
      refine ⟨at_.length - (k + 1), by omega, gcL_same ⟨k + 1, x35, g, by simp, rfl, ?_, by omega, rfl⟩⟩
      rw [List.take_succ_eq_append_getElem hk', List.flatMap_append]
      simpa using ac
  · intro h2
    have : k = at_.length := by omega
    subst this
    rw [List.take_length] at ac
    have b1 := flat_le (l := l) (x := x) (ps := at_)
    have b2 : at_.length * l.length ≤ 10001 * 10000 := Nat.mul_le_mul (by omega) hl
    have b4 := once_len (l := l) (at_ := at_) (x := x)
    generalize at_.flatMap (hitsF l x) = nx at *
    refine ⟨SpL l row nx i h11, nx.length, gcL_app [] [] .nil [facts l, ints row, .slice none 0 0, .int .i64 (i : Int), ints nx, .int .i64 0] trivial ⟨.cl cl_facts, .cl cl_ints, .cl .nilS, .cl (.int _ _), gv_acc ac, .cl (.int _ _), trivial⟩ ⟨0, .slice none 0 0, [], rfl, rfl, Acc.nil, by omega, by omega⟩, ?_⟩
    clear ac
    rintro m4 x76 x77 x78 x79 x80 x81 h82 ⟨k, v, g, hv, rfl, ac, hk, hm4⟩
    simp only [List.cons.injEq, and_true] at hv
    obtain ⟨rfl, rfl, rfl, rfl, rfl, rfl⟩ := hv
    have ln : lenS (ints nx) = some (.int .i64 (nx.length : Int)) := by simp
    rw [ln, oW_some, n_lss, oW_some, bW_dec]
    constructor
    rotate_left
    · intro h5
      have : k = nx.length := by omega
      subst this
      rw [List.take_length] at ac
      rw [n_add (by omega), oW_some]
      exact ⟨row.length - (i + 1), by omega, gcL_app [] [] .nil [facts l, ints row, ints (onceL nx), .int .i64 ((i : Int) + 1)] trivial ⟨.cl cl_facts, .cl cl_ints, gv_acc ac, .cl (.int _ _), trivial⟩ ⟨onceL nx, i + 1, by simp, by simp, by omega, by omega, hsp, rfl⟩⟩
    intro h5
    have hk' : k < nx.length := by omega
    refine ⟨SpM l row nx i k nx[k] x78 (h11 ++ g), (onceL (nx.take k)).length, gcL_same ⟨0, by simp, rfl, by omega, by omega⟩, ?_⟩
    rintro m5 x89 x90 x91 x92 x93 x94 x95 x96 h97 ⟨j, hv, rfl, hj, hm5⟩
    simp only [List.cons.injEq, and_true] at hv
    obtain ⟨rfl, rfl, rfl, rfl, rfl, rfl, rfl, rfl⟩ := hv
    have lb : (onceL (nx.take k)).length ≤ nx.length := by
      have := nodup_len (l := nx) (onceL_nodup (l := nx.take k)) fun y hy => List.mem_of_mem_take (mem_onceL.1 hy)
      exact this
    have lo := onceL_snoc (l := nx.take k) (y := nx[k])
    rw [← List.take_succ_eq_append_getElem hk'] at lo
    generalize hO : onceL (nx.take k) = O at *
    rw [ac.len, oW_some, List.length_map, n_lss, oW_some, bW_dec]
    constructor
    · intro h6
      have hj' : j < O.length := by omega
      have et : nx[k] ∈ O.take (j + 1) ↔ nx[k] ∈ O.take j ∨ O[j] = nx[k] := by
        rw [List.take_succ_eq_append_getElem hj', List.mem_append, List.mem_singleton, eq_comm (a := nx[k])]
      have step : ∀ b : Bool, b = decide (nx[k] ∈ O.take (j + 1)) → oW (binN .add (.int .i64 (j : Int)) (.int .i64 1)) fun v100 => ∃ m87, m87 < m5 ∧ gcL h11 (SpM l row nx i k nx[k] x91 (h11 ++ g) m87) [facts l, ints row, x91, .int .i64 (i : Int), ints nx, .int .i64 (k : Int), .bool b, v100] (h11 ++ g) := fun b hb => by
        rw [n_add (by omega), oW_some]
        exact ⟨O.length - (j + 1), by omega, gcL_same ⟨j + 1, by simp [hO, hb], rfl, by rw [hO]; omega, by rw [hO]⟩⟩
      rw [bW_dec]
      constructor
      · intro q
        exact step true (by rw [eq_comm, decide_eq_true_eq, et]; exact .inl q)
      · intro q
        refine ac.at_ (by omega) int_len (by simpa using hj') (fun z => by cases z) (fun _ => by simp) ?_
        rw [List.getElem_map]
        refine ix_ints hk' ?_
        rw [n_eql, oW_some]
        refine step _ ?_
        rw [decide_eq_decide, et]
        exact ⟨.inr, fun z => z.resolve_left q⟩
    · intro h6
      have : j = O.length := by omega
      subst this
      rw [List.take_length, u_not, oW_some]
      rw [bW_bool]
      constructor
      · intro q
        have q' : ¬ nx[k] ∈ O := by simpa using q
        rw [if_neg q'] at lo
        refine ix_ints hk' ?_
        refine Acc.push (e := .int .i64 nx[k]) rfl ac (by omega) int_len rfl rfl rfl rfl (by simp only [List.length_map]; omega) (by simp only [List.length_map]; omega) fun v' g' a' _ _ _ => ?_
        rw [n_add (by omega), oW_some]
        refine ⟨nx.length - (k + 1), by omega, gcL_same ⟨k + 1, v', g', by simp, rfl, ?_, by omega, rfl⟩⟩
        rw [lo, List.map_append]
        exact a'
      · intro q
        have q' : nx[k] ∈ O := by simpa using q
        rw [if_pos q'] at lo
        rw [n_add (by omega), oW_some]
        exact ⟨nx.length - (k + 1), by omega, gcL_same ⟨k + 1, x91, g, by simp, rfl, by rw [lo]; exact ac, by omega, rfl⟩⟩

end Go.Ax

namespace Go.Ax
open Go Go.Proofs Go.RowKit

theorem sub_len {α : Type} [DecidableEq α] {a : List α} : ∀ {l : List α}, a.Nodup → (∀ x ∈ a, x ∈ l) → a.length ≤ l.length := by
  induction a with
  | nil => intros; simp
  | cons x a ih =>
    intro l hn hs
    have hx := hs x (List.mem_cons_self ..)
    have := ih (l := l.erase x) (List.nodup_cons.1 hn).2 fun y hy => by
      have hne : y ≠ x := fun e => (List.nodup_cons.1 hn).1 (e ▸ hy)
      exact (List.mem_erase_of_ne hne).2 (hs y (List.mem_cons_of_mem _ hy))
    rw [List.length_erase_of_mem hx] at this
    have := List.length_pos_of_mem hx
    simp only [List.length_cons]; omega
theorem fold_take {α β : Type} {f : β → α → β} {l : List α} {a : β} {k : Nat} (h : k < l.length) : (l.take (k + 1)).foldl f a = f ((l.take k).foldl f a) l[k] := by
  rw [take_succ' h, List.foldl_append]; rfl

/-- Within bounds. -/
def boxF (m n : Nat) (f : Fct) : Prop := 0 ≤ f.1 ∧ f.1 < m ∧ 0 ≤ f.2.1 ∧ f.2.1 ≤ n ∧ 0 ≤ f.2.2 ∧ f.2.2 ≤ n ∧ f.2.1 ≤ f.2.2
def boxL (m n : Nat) : List Fct := (List.range m).flatMap fun (x : Nat) => (List.range (n + 1)).flatMap fun (p : Nat) => (List.range (n + 1)).map fun (t : Nat) => ((x : Int), (p : Int), (t : Int))
theorem boxL_len {m n : Nat} : (boxL m n).length = m * ((n + 1) * (n + 1)) := by
  unfold boxL
  simp [List.length_flatMap, List.map_const', List.sum_replicate_nat]
theorem mem_boxL {m n : Nat} {f : Fct} (h : boxF m n f) : f ∈ boxL m n := by
  obtain ⟨x, p, t⟩ := f
  obtain ⟨h1, h2, h3, h4, h5, h6, _⟩ := h
  dsimp only at *
  refine List.mem_flatMap.2 ⟨x.toNat, by simp; omega, List.mem_flatMap.2 ⟨p.toNat, by simp; omega, List.mem_map.2 ⟨t.toNat, by simp; omega, ?_⟩⟩⟩
  rw [Int.toNat_of_nonneg h1, Int.toNat_of_nonneg h3, Int.toNat_of_nonneg h5]
structure FInv (m n : Nat) (l : List Fct) : Prop where
  srt : SrtF l
  box : ∀ f ∈ l, boxF m n f
theorem FInv.nil {m n : Nat} : FInv m n [] := ⟨List.Pairwise.nil, by simp⟩
theorem FInv.put {m n : Nat} {l : List Fct} (h : FInv m n l) {x : Fct} (hx : boxF m n x) : FInv m n (putF l x) :=
  ⟨putF_srt h.srt, fun f hf => (mem_putF.1 hf).elim (h.box f) fun e => e ▸ hx⟩
theorem FInv.len {m n : Nat} {l : List Fct} (h : FInv m n l) : l.length ≤ m * ((n + 1) * (n + 1)) := by
  rw [← boxL_len]; exact sub_len h.srt.nodup fun f hf => mem_boxL (h.box f hf)
theorem FInv.inF {m n : Nat} {l : List Fct} (h : FInv m n l) (hm : m ≤ 1000000) (hn : n ≤ 1000000) : ∀ f ∈ l, inF f := fun f hf => by
  have := h.box f hf; unfold boxF at this; unfold Go.Ax.inF inI; omega
theorem FInv.putAll {m n : Nat} {x p : Int} {ts : List Int} : ∀ {l : List Fct}, FInv m n l → (∀ t ∈ ts, boxF m n (x, p, t)) → FInv m n (putAll x p l ts) := by
  induction ts with
  | nil => exact fun h _ => h
  | cons t ts ih => exact fun h ht => ih (h.put (ht t (by simp))) fun t' h' => ht t' (by simp [h'])
theorem FInv.span {m n : Nat} {l : List Fct} (h : FInv m n l) {p t : Int} (hp : 0 ≤ p ∧ p ≤ n) {row : List Int} (ht : t ∈ spanF l [p] row) : 0 ≤ t ∧ t ≤ n ∧ p ≤ t := by
  obtain ⟨q, hq, s⟩ := mem_spanF.1 ht
  simp at hq; subst hq
  clear ht
  induction s with
  | nil => exact ⟨hp.1, hp.2, Int.le_refl _⟩
  | cons h1 _ ih =>
    have := h.box _ h1
    have := ih ⟨this.2.2.2.2.1, this.2.2.2.2.2.1⟩
    unfold boxF at *; dsimp only at *; omega

/-- The places of a line, and its tokens. -/
def plcL (n : Nat) : List Int := (List.range (n + 1)).map fun (i : Nat) => (i : Int)
def tokF (i : Nat) : Fct := (0, (i : Int), ((i + 1 : Nat) : Int))
def tokL (n : Nat) : List Fct := (List.range n).foldl (fun l i => putF l (tokF i)) []
theorem plcL_len {n : Nat} : (plcL n).length = n + 1 := by simp [plcL]
theorem plcL_at {n i : Nat} (h : i < (plcL n).length) : (plcL n)[i] = (i : Int) := by simp [plcL]

/-- What All needs of a grammar. -/
structure GOk (g : Gr) (n : Nat) : Prop where
  syms : 0 < g.n
  nrules : g.rules.length ≤ 1000000
  fits : ∀ r ∈ g.rules, 0 < r.length ∧ r.length ≤ 1000000 ∧ 0 ≤ r.getD 0 0 ∧ r.getD 0 0 < g.n
  small : g.n * ((n + 1) * (n + 1)) ≤ 10000
theorem GOk.n_le {g : Gr} {n : Nat} (h : GOk g n) : n ≤ 10000 ∧ g.n ≤ 10000 := by
  have h1 := h.small
  have h2 := h.syms
  have h3 : n + 1 ≤ (n + 1) * (n + 1) := Nat.le_mul_of_pos_left _ (by omega)
  have h4 : (n + 1) * (n + 1) ≤ g.n * ((n + 1) * (n + 1)) := Nat.le_mul_of_pos_left _ h2
  have h5 : g.n * 1 ≤ g.n * ((n + 1) * (n + 1)) := Nat.mul_le_mul_left _ (by omega)
  omega
/-- One rule, from one place; from all; all rules. -/
def ruleF (r : List Int) (l : List Fct) (p : Int) : List Fct := putAll (r.getD 0 0) p l (spanF l [p] (r.drop 1))
def rulesF (ps : List Int) (l : List Fct) (r : List Int) : List Fct := ps.foldl (ruleF r) l
theorem roundF_eq {R : List (List Int)} {ps : List Int} {l : List Fct} : roundF R ps l = R.foldl (rulesF ps) l := rfl
theorem FInv.rule {g : Gr} {n : Nat} (hg : GOk g n) {l : List Fct} (h : FInv g.n n l) {r : List Int} (hr : r ∈ g.rules) {p : Int} (hp : 0 ≤ p ∧ p ≤ n) : FInv g.n n (ruleF r l p) :=
  h.putAll fun t ht => by
    have := h.span hp ht
    have := hg.fits r hr
    unfold boxF; dsimp only; omega
theorem FInv.ruleTo {g : Gr} {n : Nat} (hg : GOk g n) {l : List Fct} (h : FInv g.n n l) {r : List Int} (hr : r ∈ g.rules) : ∀ {ps : List Int}, (∀ p ∈ ps, 0 ≤ p ∧ p ≤ n) → FInv g.n n (ps.foldl (ruleF r) l)
  | [], _ => h
  | p :: ps, hp => FInv.ruleTo hg (h.rule hg hr (hp p (by simp))) hr fun q hq => hp q (by simp [hq])
theorem plc_box {n : Nat} {p : Int} (h : p ∈ plcL n) : 0 ≤ p ∧ p ≤ n := by
  unfold plcL at h
  obtain ⟨i, hi, rfl⟩ := List.mem_map.1 h
  simp at hi; omega
theorem FInv.rules {g : Gr} {n : Nat} (hg : GOk g n) : ∀ {R : List (List Int)} {l : List Fct}, (∀ r ∈ R, r ∈ g.rules) → FInv g.n n l → FInv g.n n (R.foldl (rulesF (plcL n)) l)
  | [], _, _, h => h
  | r :: R, l, hR, h => FInv.rules hg (R := R) (fun r hr => hR r (by simp [hr])) (FInv.ruleTo hg h (hR r (by simp)) fun p hp => plc_box hp)
theorem FInv.tok {g : Gr} {n i : Nat} (hg : GOk g n) {l : List Fct} (h : FInv g.n n l) (hi : i < n) : FInv g.n n (putF l (tokF i)) := h.put (by
  have := hg.syms
  unfold boxF tokF; dsimp only; omega)

/-- Facts only grow; with as many they are the same. -/
def GrowF (l l' : List Fct) : Prop := l' = l ∨ l.length < l'.length
theorem GrowF.trans {a b c : List Fct} (h : GrowF a b) (k : GrowF b c) : GrowF a c := by
  rcases h with rfl | h
  · exact k
  · rcases k with rfl | k
    · exact .inr h
    · exact .inr (by omega)
theorem GrowF.put {l : List Fct} {x : Fct} (h : SrtF l) : GrowF l (putF l x) := by
  rcases putF_len (l := l) (x := x) with h | h
  · exact .inl h.1
  · exact .inr (by omega)
theorem growF_fold {α : Type} {f : List Fct → α → List Fct} {P : List Fct → Prop} (hP : ∀ l a, P l → P (f l a)) (hf : ∀ l a, P l → GrowF l (f l a)) : ∀ {xs : List α} {l : List Fct}, P l → GrowF l (xs.foldl f l)
  | [], _, _ => .inl rfl
  | a :: xs, l, h => (hf l a h).trans (growF_fold hP hf (xs := xs) (hP l a h))
theorem growF_round {R : List (List Int)} {ps : List Int} {l : List Fct} (h : SrtF l) : GrowF l (roundF R ps l) := by
  have s1 : ∀ (x p : Int) (ts : List Int) (l : List Fct), SrtF l → SrtF (putAll x p l ts) ∧ GrowF l (putAll x p l ts) := fun x p ts => by
    induction ts with
    | nil => exact fun l h => ⟨h, .inl rfl⟩
    | cons t ts ih => exact fun l h => ⟨(ih _ (putF_srt h)).1, (GrowF.put h).trans (ih _ (putF_srt h)).2⟩
  have s2 : ∀ (r : List Int) (ps : List Int) (l : List Fct), SrtF l → SrtF (ps.foldl (ruleF r) l) ∧ GrowF l (ps.foldl (ruleF r) l) := fun r ps => by
    induction ps with
    | nil => exact fun l h => ⟨h, .inl rfl⟩
    | cons p ps ih =>
      intro l h
      have := s1 (r.getD 0 0) p (spanF l [p] (r.drop 1)) l h
      exact ⟨(ih _ this.1).1, this.2.trans (ih _ this.1).2⟩
  exact growF_fold (P := SrtF) (fun l r h => (s2 r ps l h).1) (fun l r h => (s2 r ps l h).2) h

end Go.Ax

namespace Go.Ax
open Go Go.Proofs Go.RowKit

theorem LnAt.app {H t : Heap} {p n : Nat} (a : LnAt H p n) : LnAt (H ++ t) p n := let ⟨m, e⟩ := a; ⟨m, getRow_app e⟩
theorem LnAt.ld {H : Heap} {p n : Nat} (a : LnAt H p n) : ldW true 3 H (.pointer (some ⟨p, 0, none⟩)) = some (lineV n) := by
  obtain ⟨m, e⟩ := a; rw [ldW_agg, e]; rfl
theorem s_lenE {n : Nat} {K : Value → Prop} (k : K (natV n)) : oW (lenS (lit ((List.range n).map edgeL))) K := s_lenM (by simpa using k)
theorem s_lenB {n : Nat} {b : Bool} {K : Value → Prop} (k : K (natV n)) : oW (lenS (bools (List.replicate n b))) K := s_lenM (by simpa using k)
theorem grow_cl {g : Gr} : ∀ x ∈ g.cells, Cl x := by
  intro x hx
  simp only [List.mem_cons, List.not_mem_nil, or_false] at hx
  rcases hx with rfl | rfl | rfl | rfl | rfl
  · exact .lits fun e he => by obtain ⟨b, _, rfl⟩ := List.mem_map.1 he; exact ⟨rfl, .str _⟩
  · exact .int _ _
  · exact cl_ints
  · exact .lits fun e he => by obtain ⟨b, _, rfl⟩ := List.mem_map.1 he; exact ⟨rfl, cl_ints⟩
  · exact .int _ _
theorem line_cl {n : Nat} : ∀ x ∈ lineC n, Cl x := by
  intro x hx
  simp only [lineC, List.mem_cons, List.not_mem_nil, or_false] at hx
  rcases hx with rfl | rfl | rfl
  · exact .int _ _
  · exact .lits fun e he => by obtain ⟨b, _, rfl⟩ := List.mem_map.1 he; exact ⟨rfl, .int _ _⟩
  · exact .lits fun e he => by
      obtain ⟨b, _, rfl⟩ := List.mem_map.1 he
      refine ⟨rfl, .agg _ fun x hx => ?_⟩
      simp only [List.mem_cons, List.not_mem_nil, or_false] at hx
      rcases hx with rfl | rfl | rfl <;> exact .int _ _
theorem tok_take {i : Nat} : (List.range (i + 1)).foldl (fun l i => putF l (tokF i)) [] = putF ((List.range i).foldl (fun l i => putF l (tokF i)) []) (tokF i) := by
  rw [List.range_succ, List.foldl_append]; rfl

theorem spanF_len {l : List Fct} : ∀ {row at_ : List Int}, (spanF l at_ row).length ≤ max at_.length l.length
  | [], at_ => Nat.le_max_left ..
  | x :: row, at_ => by
    rw [spanF_cons]
    have h1 := spanF_len (l := l) (row := row) (at_ := onceL (at_.flatMap (hitsF l x)))
    have h2 := once_len (l := l) (at_ := at_) (x := x)
    omega

theorem all_spec {g : Gr} {n : Nat} (hg : GOk g n) {h : Heap} {Q : Value → Heap → Prop}
    (hq : ∀ l r, l = itr (roundF g.rules (plcL n)) r (tokL n) → FInv g.n n l → roundF g.rules (plcL n) l = l → Q (facts l) h) : acall Try.prog F_homographref26_All [g.enc, lineV n] h Q := by
  obtain ⟨hn, hgn⟩ := hg.n_le
  have hnr := hg.nrules
  apply W_homographref26_All_ok
  unfold W_homographref26_All
  rw [box_gr, hW_some, box_line, hW_some]
  have ag : GAt (h ++ [grow g] ++ [lrow n]) h.length g := GAt.box.app
  have al : LnAt (h ++ [grow g] ++ [lrow n]) (h ++ [grow g]).length n := ⟨.exact, by rw [row_app0]; rfl⟩
  have hB0 : h ++ [grow g] ++ [lrow n] = h ++ [grow g, lrow n] := by simp
  have hlg : h.length < (h ++ [grow g, lrow n]).length := by simp
  have hln : (h ++ [grow g]).length < (h ++ [grow g, lrow n]).length := by simp
  rw [hB0] at ag al ⊢
  rw [al.ld, oW_some]
  refine s_call (come_spec (by omega) ?_)
  have lf : ∀ l, FInv g.n n l → l.length ≤ 10000 := fun l iv => Nat.le_trans iv.len hg.small
  have box : ∀ o ∈ [grow g, lrow n], ∃ c m, o = .row c m ∧ ∀ x ∈ c, Cl x := fun o ho => by
    simp only [List.mem_cons, List.not_mem_nil, or_false] at ho
    rcases ho with rfl | rfl
    · exact ⟨_, _, rfl, grow_cl⟩
    · exact ⟨_, _, rfl, line_cl⟩
  refine ⟨fun m vs H => ∃ (i : Nat) (l : List Fct) (T : Heap), vs = [.pointer (some ⟨h.length, 0, none⟩), .pointer (some ⟨(h ++ [grow g]).length, 0, none⟩), bools (List.replicate (n + 1) true), facts l, natV i] ∧
    H = (h ++ [grow g, lrow n]) ++ T ∧ l = (List.range i).foldl (fun l i => putF l (tokF i)) [] ∧ FInv g.n n l ∧ i ≤ n ∧ m = n - i, _,
    gcL_cl box (vs2 := [.pointer (some ⟨h.length, 0, none⟩), .pointer (some ⟨(h ++ [grow g]).length, 0, none⟩), bools (List.replicate (n + 1) true), facts [], natV 0])
      ⟨.here hlg, .here hln, .cl tBool.clL, .lit0 _ _, .cl (.int _ _), trivial⟩ ⟨0, [], [], rfl, (List.append_nil _).symm, rfl, .nil, by omega, rfl⟩, ?_⟩
  rintro m x0 x1 x2 x3 x4 H ⟨i, l, T, hv, rfl, hl, iv, hi, rfl⟩
  replace hv := hv.symm
  simp only [List.cons.injEq, and_true] at hv
  obtain ⟨rfl, rfl, rfl, rfl, rfl⟩ := hv
  obtain ⟨_, ag'⟩ := ag.app (t := T)
  obtain ⟨_, al'⟩ := al.app (t := T)
  repeat' first | refine s_lenE ?_ | refine s_rep (by omega) ?_ | refine s_rng (by omega) ?_ | refine edgeAt (by omega) ?_ | ((with_reducible apply s_lss)) | ((with_reducible apply s_brT)) | ((with_reducible apply s_br) <;> intro hb <;> try (exfalso; omega)) | ((with_reducible apply s_ld1); (· rfl)) | ((with_reducible apply s_ldA); (· rfl)) | ((with_reducible apply s_fld); (· first | assumption | exact row_last | exact getRow_app (by first | assumption | exact row_last | exact getRow_app (by first | assumption | exact row_last))); (· rfl)) | ((with_reducible apply s_call)) | ((with_reducible apply s_let)) | ((with_reducible apply s_stA); (· rfl); (· rfl); (· rfl)) | ((with_reducible apply s_bld3))
  · have := lf l iv
    · skip
      refine putFact_spec (x := tokF i) (by omega) (iv.inF (by omega) (by omega)) (by unfold tokF inF inI; dsimp only; omega) ?_
      repeat' first | ((with_reducible apply s_inc); (· omega)) | ((with_reducible apply s_kept))
      refine ⟨_, ?_, gcL_same ⟨i + 1, _, T ++ [_], rfl, List.append_assoc _ _ _, by rw [tok_take, hl], iv.tok hg (by omega), by omega, rfl⟩⟩
      omega
  have hin : i = n := by omega
  subst hin
  refine ⟨fun m vs H => ∃ (r : Nat) (mk : Int) (l : List Fct) (T : Heap), vs = [.pointer (some ⟨h.length, 0, none⟩), bools (List.replicate (i + 1) true), facts l, vi mk] ∧
    H = (h ++ [grow g, lrow i]) ++ T ∧ l = itr (roundF g.rules (plcL i)) r (tokL i) ∧ FInv g.n i l ∧
    (mk = -1 ∨ ∃ l', l = roundF g.rules (plcL i) l' ∧ GrowF l' l ∧ mk = (l'.length : Int)) ∧ m = if mk = (l.length : Int) then 0 else 10001 - l.length, _, gcL_same ⟨0, -1, l, T, rfl, rfl, hl, iv, .inl rfl, rfl⟩, ?_⟩
  clear hl iv ag' al' l
  rintro m x0 x1 x2 x3 H ⟨r, mk, l, T, hv, rfl, hl, iv, hmk, rfl⟩
  replace hv := hv.symm
  simp only [List.cons.injEq, and_true] at hv
  obtain ⟨rfl, rfl, rfl, rfl⟩ := hv
  have hll := lf l iv
  repeat' first | ((with_reducible apply s_neq)) | ((with_reducible apply s_br) <;> intro hb <;> try (exfalso; omega)) | ((with_reducible apply s_lenM))
  rotate_left
  · have e : mk = (l.length : Int) := by omega
    rcases hmk with q | ⟨l', h1, h2, h3⟩
    · omega
    · have : l = l' := h2.resolve_right (by omega)
      rw [List.append_assoc]
      refine ret_end cl_facts (hq l r hl iv ?_)
      rw [← this] at h1
      exact h1.symm
  rw [if_neg (by assumption)]
  refine ⟨fun m vs H => ∃ (k : Nat) (l2 : List Fct) (T : Heap), vs = [.pointer (some ⟨h.length, 0, none⟩), bools (List.replicate (i + 1) true), facts l2, natV l.length, natV k] ∧
    H = (h ++ [grow g, lrow i]) ++ T ∧ l2 = (g.rules.take k).foldl (rulesF (plcL i)) l ∧ FInv g.n i l2 ∧ k ≤ g.rules.length ∧ m = g.rules.length - k, _, gcL_same ⟨0, l, T, rfl, rfl, rfl, iv, by omega, rfl⟩, ?_⟩
  rintro m x0 x1 x2 x3 x4 H ⟨k, l2, T, hv, rfl, hl2, iv2, hk, rfl⟩
  replace hv := hv.symm
  simp only [List.cons.injEq, and_true] at hv
  obtain ⟨rfl, rfl, rfl, rfl, rfl⟩ := hv
  obtain ⟨_, ag'⟩ := ag.app (t := T)
  repeat' first | ((with_reducible apply s_lss)) | ((with_reducible apply s_br) <;> intro hb <;> try (exfalso; omega)) | ((with_reducible apply s_lenM)) | ((with_reducible apply s_fld); (· first | assumption | exact row_last | exact getRow_app (by first | assumption | exact row_last | exact getRow_app (by first | assumption | exact row_last))); (· rfl))
  rotate_left
  · have hk' : k = g.rules.length := by omega
    subst hk'
    rw [List.take_length] at hl2
    have hl3 : l2 = roundF g.rules (plcL i) l := hl2
    have gr : GrowF l l2 := hl3 ▸ growF_round iv.srt
    have l2b := lf l2 iv2
    refine ⟨_, ?_, gcL_same ⟨r + 1, (l.length : Int), l2, T, rfl, rfl, by rw [itr_succ, ← hl]; exact hl3, iv2, .inr ⟨l, hl3, gr, rfl⟩, rfl⟩⟩
    split
    · omega
    · have := gr.resolve_left fun q => by subst q; omega
      omega
  have hkl : k < g.rules.length := by omega
  have hrm : g.rules[k] ∈ g.rules := List.getElem_mem hkl
  have hfit := hg.fits _ hrm
  refine ⟨fun m vs H => ∃ (p : Nat) (l3 : List Fct) (T : Heap), vs = [.pointer (some ⟨h.length, 0, none⟩), bools (List.replicate (i + 1) true), facts l3, natV l.length, natV k, natV p] ∧
    H = (h ++ [grow g, lrow i]) ++ T ∧ l3 = ((plcL i).take p).foldl (ruleF g.rules[k]) l2 ∧ FInv g.n i l3 ∧ p ≤ i + 1 ∧ m = i + 1 - p, _, gcL_same ⟨0, l2, T, rfl, rfl, rfl, iv2, by omega, rfl⟩, ?_⟩
  rintro m x0 x1 x2 x3 x4 x5 H ⟨p, l3, T, hv, rfl, hl3, iv3, hp, rfl⟩
  replace hv := hv.symm
  simp only [List.cons.injEq, and_true] at hv
  obtain ⟨rfl, rfl, rfl, rfl, rfl, rfl⟩ := hv
  obtain ⟨_, ag'⟩ := ag.app (t := T)
  repeat' first | refine s_lenB ?_ | refine s_rep (by omega) ?_ | ((with_reducible apply s_inc); (· omega)) | ((with_reducible apply s_lss)) | ((with_reducible apply s_not)) | ((with_reducible apply s_br) <;> intro hb <;> try (exfalso; omega)) | ((with_reducible apply s_brB) <;> intro hb <;> try contradiction) | ((with_reducible refine s_ix (by omega) ?_ ?_); (· rfl)) | ((with_reducible apply s_ld1); (· rfl)) | ((with_reducible apply s_fld); (· first | assumption | exact row_last | exact getRow_app (by first | assumption | exact row_last | exact getRow_app (by first | assumption | exact row_last))); (· rfl))
  rotate_left
  · have hp' : p = (plcL i).length := by rw [plcL_len]; omega
    subst hp'
    rw [List.take_length] at hl3
    refine ⟨_, ?_, gcL_same ⟨k + 1, l3, T, rfl, rfl, by rw [fold_take hkl, ← hl2]; exact hl3, iv3, by omega, rfl⟩⟩
    omega
  have hlb := lf l3 iv3
  have hpl : p < (plcL i).length := by rw [plcL_len]; omega
  have sl : slS 1 ((h ++ [grow g, lrow i]) ++ T) (ints g.rules[k]) (some (.int .i64 1)) none none = some (ints (g.rules[k].drop 1)) := tInt.sl (a := 1) (by omega)
  rw [sl, oW_some]
  refine s_call (spans_spec hlb (by rw [List.length_drop]; omega) ?_)
  have hpb : 0 ≤ (p : Int) ∧ (p : Int) ≤ i := by omega
  have hsp : ∀ t ∈ spanF l3 [(p : Int)] (g.rules[k].drop 1), 0 ≤ t ∧ t ≤ (i : Int) ∧ (p : Int) ≤ t := fun t ht => iv3.span hpb ht
  have hsl := spanF_len (l := l3) (row := g.rules[k].drop 1) (at_ := [(p : Int)])
  rw [List.length_singleton] at hsl
  generalize hts : spanF l3 [(p : Int)] (g.rules[k].drop 1) = ts at hsp hsl
  refine ⟨fun m vs H => ∃ (j : Nat) (l4 : List Fct) (T : Heap), vs = [.pointer (some ⟨h.length, 0, none⟩), bools (List.replicate (i + 1) true), facts l4, natV l.length, natV k, natV p, ints ts, natV j] ∧
    H = (h ++ [grow g, lrow i]) ++ T ∧ l4 = putAll (g.rules[k].getD 0 0) (p : Int) l3 (ts.take j) ∧ FInv g.n i l4 ∧ j ≤ ts.length ∧ m = ts.length - j, _, gcL_same ⟨0, l3, T, rfl, rfl, rfl, iv3, by omega, rfl⟩, ?_⟩
  rintro m x0 x1 x2 x3 x4 x5 x6 x7 H ⟨j, l4, T, hv, rfl, hl4, iv4, hj, rfl⟩
  replace hv := hv.symm
  simp only [List.cons.injEq, and_true] at hv
  obtain ⟨rfl, rfl, rfl, rfl, rfl, rfl, rfl, rfl⟩ := hv
  obtain ⟨_, ag'⟩ := ag.app (t := T)
  repeat' first | ((with_reducible apply s_inc); (· omega)) | ((with_reducible apply s_lss)) | ((with_reducible apply s_br) <;> intro hb <;> try (exfalso; omega)) | ((with_reducible apply s_lenM)) | ((with_reducible refine s_ix (by omega) ?_ ?_); (· rfl)) | ((with_reducible refine s_ix0 (by omega) ?_ ?_); (· rfl)) | ((with_reducible apply s_ld1); (· rfl)) | ((with_reducible apply s_fld); (· first | assumption | exact row_last | exact getRow_app (by first | assumption | exact row_last | exact getRow_app (by first | assumption | exact row_last))); (· rfl)) | ((with_reducible apply s_call)) | ((with_reducible apply s_bld3))
  · have hjl : j < ts.length := by omega
    have htj := hsp _ (List.getElem_mem hjl)
    have := lf l4 iv4
    have e0 : g.rules[k].getD 0 0 = g.rules[k][0] := by rw [List.getD_eq_getElem?_getD, List.getElem?_eq_getElem (by omega)]; rfl
    rw [← e0]
    refine putFact_spec (x := (g.rules[k].getD 0 0, (p : Int), ts[j])) (by omega) (iv4.inF (by omega) (by omega)) (by unfold inF inI; dsimp only; omega) ?_
    repeat' first | ((with_reducible apply s_inc); (· omega)) | ((with_reducible apply s_kept))
    refine ⟨_, ?_, gcL_same ⟨j + 1, _, T, rfl, rfl, by rw [hl4]; exact (fold_take (f := fun l t => putF l (g.rules[k].getD 0 0, (p : Int), t)) hjl).symm, iv4.put (by unfold boxF; dsimp only; omega), by omega, rfl⟩⟩
    omega
  · have hj' : j = ts.length := by omega
    subst hj'
    rw [List.take_length] at hl4
    refine ⟨_, ?_, gcL_same ⟨p + 1, l4, T, rfl, rfl, by rw [fold_take hpl, ← hl3, plcL_at hpl, hl4, ← hts]; rfl, iv4, by omega, rfl⟩⟩
    omega

end Go.Ax

namespace Go.Ax
open Go Go.Proofs Go.RowKit

theorem s_eqF {x y : Fct} {K : Value → Prop} (hx : inF x) (hy : inF y) (k : K (.bool (decide (x = y)))) : oW (binA Try.prog .eql 78 (Fct.enc x) (Fct.enc y)) K := by rw [eq_fct hx hy]; exact oW_some.2 k
theorem tFct : Things 3 Fct.enc := ⟨fun _ => rfl, fun _ => rfl, fun _ => rfl, fun x c hc => by
  simp only [cellsOf_agg, List.mem_cons, List.not_mem_nil, or_false] at hc
  rcases hc with rfl | rfl | rfl <;> exact .int _ _⟩
theorem has_spec {l : List Fct} {x : Fct} (hl : l.length ≤ 1000000) (hi : ∀ f ∈ l, inF f) (hx : inF x) {h : Heap} {Q : Value → Heap → Prop} (hq : Q (.bool (decide (x ∈ l))) h) : acall Try.prog F_homographref27_has [facts l, Fct.enc x] h Q := by
  apply W_homographref27_has_ok
  unfold W_homographref27_has
  repeat' first | ((with_reducible apply s_box))
  refine ⟨fun m vs H => ∃ (k : Nat), vs = [facts l, .pointer (some ⟨h.length, 0, none⟩), natV k] ∧ H = h ++ [frow x] ∧ k ≤ l.length ∧ x ∉ l.take k ∧ m = l.length - k, _, gcL_same ⟨0, rfl, rfl, by omega, by simp, rfl⟩, ?_⟩
  rintro m x0 x1 x2 H ⟨k, hv, rfl, hk, hn, rfl⟩
  replace hv := hv.symm
  simp only [List.cons.injEq, and_true] at hv
  obtain ⟨rfl, rfl, rfl⟩ := hv
  repeat' first | ((with_reducible apply s_lss)) | ((with_reducible apply s_br) <;> intro hb <;> try (exfalso; omega)) | ((with_reducible apply s_lenM)) | ((with_reducible refine s_ix (by omega) ?_ ?_); (· rfl)) | ((with_reducible apply s_lda); (· rfl); (· rfl)) | ((with_reducible apply s_rowA); (· first | assumption | exact row_last | exact getRow_app (by first | assumption | exact row_last | exact getRow_app (by first | assumption | exact row_last))); (· rfl))
  · refine s_eqF (hi _ (List.getElem_mem _)) hx ?_
    have e : x ∈ l.take (k + 1) ↔ l[k] = x := by
      rw [take_succ' (by omega), List.mem_append, List.mem_singleton]
      exact ⟨fun z => z.elim (fun q => absurd q hn) Eq.symm, fun q => .inr q.symm⟩
    repeat' first | ((with_reducible apply s_inc); (· omega)) | ((with_reducible apply s_br) <;> intro hb <;> try (exfalso; omega))
    · exact ret_end (.bool _) (by rw [decide_eq_true (by rw [← hb]; exact List.getElem_mem _)] at hq; exact hq)
    · refine ⟨_, ?_, gcL_same ⟨k + 1, rfl, rfl, by omega, by rw [e]; exact hb, rfl⟩⟩
      omega
  · have : k = l.length := by omega
    subst this
    rw [List.take_length] at hn
    exact ret_end (.bool _) (by rw [decide_eq_false hn] at hq; exact hq)

theorem s_lenP {n : Nat} {K : Value → Prop} (k : K (natV n)) : oW (lenS (nats (List.range n))) K := s_lenM (by simpa using k)
/-- Edges compared. -/
theorem less23_spec {i j : Nat} (hij : i < j) {h : Heap} {Q : Value → Heap → Prop} (hq : Q (.bool true) h) : acall Try.prog F_homographref23_less [edgeL i, edgeL j] h Q := by
  apply W_homographref23_less_ok
  unfold W_homographref23_less
  repeat' first | ((with_reducible apply s_lss)) | ((with_reducible apply s_neq)) | ((with_reducible apply s_br) <;> intro hb <;> try (exfalso; omega)) | ((with_reducible apply s_fld); (· first | assumption | exact row_last | exact getRow_app (by first | assumption | exact row_last | exact getRow_app (by first | assumption | exact row_last))); (· rfl)) | ((with_reducible apply s_box))
  rw [decide_eq_true (by omega)]
  exact ret_end2 (.bool _) hq
theorem check23_spec {n : Nat} (hn : n ≤ 65536) {h : Heap} {Q : Value → Heap → Prop} (hq : Q (.int .i64 0) h) : acall Try.prog F_homographref23_Check [lineV n] h Q := by
  apply W_homographref23_Check_ok
  unfold W_homographref23_Check
  repeat' first | ((with_reducible apply s_box))
  have al : getRow (h ++ [lrow n]) h.length = some (lineC n, .exact) := row_last
  refine ⟨fun vs H => vs = [.pointer (some ⟨h.length, 0, none⟩)] ∧ H = h ++ [lrow n], ?_, ?_⟩
  · repeat' first | refine s_lenP ?_ | ((with_reducible apply s_inc); (· omega)) | ((with_reducible apply s_lss)) | ((with_reducible apply s_gtr)) | ((with_reducible apply s_neq)) | ((with_reducible apply s_br) <;> intro hb <;> try (exfalso; omega)) | ((with_reducible apply s_fld); (· first | assumption | exact row_last | exact getRow_app (by first | assumption | exact row_last | exact getRow_app (by first | assumption | exact row_last))); (· rfl))
    exact gcL_same ⟨rfl, rfl⟩
  rintro x17 h18 ⟨hv, rfl⟩
  replace hv := hv.symm
  simp only [List.cons.injEq, and_true] at hv
  obtain ⟨rfl⟩ := hv
  refine ⟨fun m vs H => ∃ (k : Nat), vs = [.pointer (some ⟨h.length, 0, none⟩), natV k] ∧ H = h ++ [lrow n] ∧ k ≤ n + 1 ∧ m = n + 1 - k, _, gcL_same ⟨0, rfl, rfl, by omega, rfl⟩, ?_⟩
  rintro m x0 x1 H ⟨k, hv, rfl, hk, rfl⟩
  replace hv := hv.symm
  simp only [List.cons.injEq, and_true] at hv
  obtain ⟨rfl, rfl⟩ := hv
  repeat' first | refine s_lenP ?_ | refine s_rng (by omega) ?_ | ((with_reducible apply s_inc); (· omega)) | ((with_reducible apply s_lss)) | ((with_reducible apply s_gtr)) | ((with_reducible apply s_neq)) | ((with_reducible apply s_br) <;> intro hb <;> try (exfalso; omega)) | ((with_reducible apply s_ld1); (· rfl)) | ((with_reducible apply s_fld); (· first | assumption | exact row_last | exact getRow_app (by first | assumption | exact row_last | exact getRow_app (by first | assumption | exact row_last))); (· rfl))
  · refine ⟨_, ?_, gcL_same ⟨k + 1, rfl, rfl, by omega, rfl⟩⟩
    omega
  have hkn : k = n + 1 := by omega
  refine ⟨fun m vs H => ∃ (k : Nat) (T : Heap), vs = [.pointer (some ⟨h.length, 0, none⟩), natV k] ∧ H = h ++ [lrow n] ++ T ∧ k ≤ n ∧ m = n - k, _, gcL_same ⟨0, [], rfl, (List.append_nil _).symm, by omega, rfl⟩, ?_⟩
  clear hkn hk
  rintro m x0 x1 H ⟨k, T, hv, rfl, hk, rfl⟩
  replace hv := hv.symm
  simp only [List.cons.injEq, and_true] at hv
  obtain ⟨rfl, rfl⟩ := hv
  have al := getRow_app (t := T) al
  repeat' first | refine s_lenE ?_ | refine edgeAt (by omega) ?_ | ((with_reducible apply s_inc); (· omega)) | ((with_reducible apply s_dec); (· omega); (· omega)) | ((with_reducible apply s_lss)) | ((with_reducible apply s_leq)) | ((with_reducible apply s_gtr)) | ((with_reducible apply s_geq)) | ((with_reducible apply s_brF)) | ((with_reducible apply s_br) <;> intro hb <;> try (exfalso; omega)) | ((with_reducible apply s_ldA); (· rfl)) | ((with_reducible apply s_fld); (· first | assumption | exact row_last | exact getRow_app (by first | assumption | exact row_last | exact getRow_app (by first | assumption | exact row_last))); (· rfl)) | ((with_reducible apply s_rowA); (· first | assumption | exact row_last | exact getRow_app (by first | assumption | exact row_last | exact getRow_app (by first | assumption | exact row_last))); (· rfl)) | ((with_reducible apply s_call)) | ((with_reducible apply s_let)) | ((with_reducible apply s_stA); (· rfl); (· rfl); (· rfl))
  · refine less23_spec (i := k - 1) (j := k) (by omega) ?_
    repeat' first | ((with_reducible apply s_inc); (· omega)) | ((with_reducible apply s_not)) | ((with_reducible apply s_brB) <;> intro hb <;> try contradiction) | ((with_reducible apply s_kept))
    refine ⟨_, ?_, gcL_same ⟨k + 1, T ++ _, rfl, List.append_assoc _ _ _, by omega, rfl⟩⟩
    omega
  · refine ⟨_, ?_, gcL_same ⟨k + 1, T ++ _, rfl, List.append_assoc _ _ _, by omega, rfl⟩⟩
    omega
  · exact ret_end2 (.int _ _) hq

end Go.Ax

namespace Go.Ax
open Go Go.Proofs Go.RowKit

/-- A way, and a knot. -/
structure Wy where
  rule : Int
  at_ : List Int
structure Kt where
  sym : Int
  from_ : Int
  to_ : Int
  ways : List Wy
abbrev Wy.enc (w : Wy) : Value := .agg #[.int .i64 w.rule, ints w.at_]
abbrev Kt.enc (k : Kt) : Value := .agg #[.int .i64 k.sym, .int .i64 k.from_, .int .i64 k.to_, lit (k.ways.map Wy.enc)]
abbrev Kt.fct (k : Kt) : Fct := (k.sym, k.from_, k.to_)
theorem tWy : Things 2 Wy.enc := ⟨fun _ => rfl, fun _ => rfl, fun _ => rfl, fun x c hc => by
  simp only [cellsOf_agg, List.mem_cons, List.not_mem_nil, or_false] at hc
  rcases hc with rfl | rfl
  · exact .int _ _
  · exact cl_ints⟩
theorem tKt : Things 4 Kt.enc := ⟨fun _ => rfl, fun _ => rfl, fun _ => rfl, fun x c hc => by
  simp only [cellsOf_agg, List.mem_cons, List.not_mem_nil, or_false] at hc
  rcases hc with rfl | rfl | rfl | rfl
  · exact .int _ _
  · exact .int _ _
  · exact .int _ _
  · exact tWy.clL⟩
abbrev knots (f : List Kt) : Value := lit (f.map Kt.enc)

theorem right_spec {g : Gr} (hg : g.ok) (ht : 0 < g.terms) (hf : g.Fin) {n : Nat} (hn : n ≤ 65536) {h : Heap} {Q : Value → Heap → Prop} (hq : Q (.bool true) h) : acall Try.prog F_homographref27_right [g.enc, lineV n] h Q := by
  apply W_homographref27_right_ok
  unfold W_homographref27_right
  rw [box_gr, hW_some]
  have ag : GAt (h ++ [grow g] ++ [lrow n]) h.length g := GAt.box.app
  have al : getRow (h ++ [grow g] ++ [lrow n]) (h ++ [grow g]).length = some (lineC n, .exact) := row_last
  repeat' first | ((with_reducible apply s_rowA); (· first | assumption | exact row_last | exact getRow_app (by first | assumption | exact row_last | exact getRow_app (by first | assumption | exact row_last))); (· rfl)) | ((with_reducible apply s_box)) | ((with_reducible apply s_call))
  refine refCheck_spec hf ?_
  have e : g.chk = 0 := by unfold Gr.chk; rw [if_pos hg]
  rw [e]
  repeat' first | ((with_reducible apply s_neq)) | ((with_reducible apply s_br) <;> intro hb <;> try (exfalso; omega)) | ((with_reducible apply s_rowA); (· first | assumption | exact row_last | exact getRow_app (by first | assumption | exact row_last | exact getRow_app (by first | assumption | exact row_last))); (· rfl)) | ((with_reducible apply s_call))
  refine check23_spec hn ?_
  repeat' first | ((with_reducible apply s_neq)) | ((with_reducible apply s_br) <;> intro hb <;> try (exfalso; omega))
  refine ⟨fun m vs H => ∃ (k : Nat), vs = [.pointer (some ⟨h.length, 0, none⟩), .pointer (some ⟨(h ++ [grow g]).length, 0, none⟩), natV k] ∧ H = h ++ [grow g] ++ [lrow n] ∧ k ≤ n ∧ m = n - k, _, gcL_same ⟨0, rfl, rfl, by omega, rfl⟩, ?_⟩
  rintro m x0 x1 x2 H ⟨k, hv, rfl, hk, rfl⟩
  replace hv := hv.symm
  simp only [List.cons.injEq, and_true] at hv
  obtain ⟨rfl, rfl, rfl⟩ := hv
  obtain ⟨_, ag⟩ := ag
  repeat' first | refine s_lenE ?_ | refine edgeAt (by omega) ?_ | ((with_reducible apply s_inc); (· omega)) | ((with_reducible apply s_lss)) | ((with_reducible apply s_geq)) | ((with_reducible apply s_br) <;> intro hb <;> try (exfalso; omega)) | ((with_reducible apply s_fap); (· rfl)) | ((with_reducible apply s_fld); (· first | assumption | exact row_last | exact getRow_app (by first | assumption | exact row_last | exact getRow_app (by first | assumption | exact row_last))); (· rfl))
  · refine ⟨_, ?_, gcL_same ⟨k + 1, rfl, rfl, by omega, rfl⟩⟩
    omega
  · exact ret_end2 (.bool _) hq

abbrev rootF (g : Gr) (n : Nat) : Fct := (g.start, 0, (n : Int))
theorem root_spec {g : Gr} {n : Nat} {h : Heap} {Q : Value → Heap → Prop} (hq : Q (Fct.enc (rootF g n)) h) : acall Try.prog F_homographref27_root [g.enc, lineV n] h Q := by
  apply W_homographref27_root_ok
  unfold W_homographref27_root
  rw [box_gr, hW_some]
  repeat' first | ((with_reducible apply s_fld); (· first | assumption | exact row_last | exact getRow_app (by first | assumption | exact row_last | exact getRow_app (by first | assumption | exact row_last))); (· rfl)) | ((with_reducible apply s_box)) | ((with_reducible apply s_let))
  obtain ⟨_, ag⟩ : GAt (h ++ [grow g] ++ [lrow n]) h.length g := GAt.box.app
  have al : getRow (h ++ [grow g] ++ [lrow n]) (h ++ [grow g]).length = some (lineC n, .exact) := row_last
  have s0 : ∀ {K : Value → Prop}, K (plit [natV 0]) → oW (iaS 1 (nats (List.range (n + 1))) (.int .i64 0)) K := fun k => s_rng (i := 0) (by omega) k
  repeat' first | refine s0 ?_ | ((with_reducible apply s_ld1); (· rfl)) | ((with_reducible apply s_fld); (· first | assumption | exact row_last | exact getRow_app (by first | assumption | exact row_last | exact getRow_app (by first | assumption | exact row_last))); (· rfl)) | ((with_reducible apply s_stA); (· rfl); (· rfl); (· rfl)) | ((with_reducible apply s_bld3))
  rw [ldP_agg, row_app0, row_0]
  refine s_some ?_
  rw [List.append_assoc, List.append_assoc]
  exact ret_end (.agg _ fun x hx => by
    simp only [List.drop_zero, List.mem_cons, List.not_mem_nil, or_false, List.take_succ_cons, List.take_zero] at hx
    rcases hx with rfl | rfl | rfl <;> exact .int _ _) hq

/-- Where a fact's knot lies. -/
def findK (f : List Kt) (x : Fct) : Int := if x ∈ f.map Kt.fct then ((f.map Kt.fct).idxOf x : Int) else -1
theorem find_spec {f : List Kt} {s a b : Int} (hl : f.length ≤ 1000000) {h : Heap} {Q : Value → Heap → Prop} (hq : Q (.int .i64 (findK f (s, a, b))) h) :
    acall Try.prog F_homographref27_Find [knots f, .int .i64 s, .int .i64 a, .int .i64 b] h Q := by
  apply W_homographref27_Find_ok
  unfold W_homographref27_Find
  refine ⟨fun m vs H => ∃ (k : Nat), vs = [knots f, .int .i64 s, .int .i64 a, .int .i64 b, natV k] ∧ H = h ∧ k ≤ f.length ∧ (s, a, b) ∉ (f.take k).map Kt.fct ∧ m = f.length - k, _, gcL_same ⟨0, rfl, rfl, by omega, by simp, rfl⟩, ?_⟩
  rintro m x0 x1 x2 x3 x4 H ⟨k, hv, rfl, hk, hno, rfl⟩
  replace hv := hv.symm
  simp only [List.cons.injEq, and_true] at hv
  obtain ⟨rfl, rfl, rfl, rfl, rfl⟩ := hv
  have step : ∀ (hkl : k < f.length), f[k].fct ≠ (s, a, b) → (s, a, b) ∉ (f.take (k + 1)).map Kt.fct := fun hkl hne q => by
    rw [take_succ' hkl, List.map_append, List.mem_append] at q
    rcases q with q | q
    · exact hno q
    · exact hne (List.mem_singleton.1 q).symm
  repeat' first | ((with_reducible apply s_inc); (· omega)) | ((with_reducible apply s_lss)) | ((with_reducible apply s_eql)) | ((with_reducible apply s_brF)) | ((with_reducible apply s_br) <;> intro hb <;> try (exfalso; omega)) | ((with_reducible apply s_lenM)) | ((with_reducible refine s_ix (by omega) ?_ ?_); (· rfl)) | ((with_reducible apply s_fap); (· rfl))
  · have hkl : k < f.length := by omega
    have e : f[k].fct = (s, a, b) := by
      obtain ⟨rfl, rfl, rfl⟩ : f[k].sym = s ∧ f[k].from_ = a ∧ f[k].to_ = b := by refine ⟨?_, ?_, ?_⟩ <;> assumption
      rfl
    refine gcV_same ?_
    have hm : (s, a, b) ∈ f.map Kt.fct := by rw [← e]; exact List.mem_map_of_mem (List.getElem_mem hkl)
    have hi : (f.map Kt.fct).idxOf (s, a, b) = k := by
      rw [← List.take_append_drop k f, List.map_append, List.idxOf_append, if_neg hno, List.drop_eq_getElem_cons hkl, List.map_cons, e, List.idxOf_cons_self, List.length_map, List.length_take]
      omega
    unfold findK at hq
    rw [if_pos hm, hi] at hq
    exact hq
  · refine ⟨_, ?_, gcL_same ⟨k + 1, rfl, rfl, by omega, step (by omega) fun q => hb (congrArg (·.2.2) q), rfl⟩⟩
    omega
  · refine ⟨_, ?_, gcL_same ⟨k + 1, rfl, rfl, by omega, step (by omega) fun q => hb (congrArg (·.2.1) q), rfl⟩⟩
    omega
  · refine ⟨_, ?_, gcL_same ⟨k + 1, rfl, rfl, by omega, step (by omega) fun q => hb (congrArg (·.1) q), rfl⟩⟩
    omega
  · have : k = f.length := by omega
    subst this
    rw [List.take_length] at hno
    unfold findK at hq
    rw [if_neg hno] at hq
    exact gcV_same hq

end Go.Ax

namespace Go.Ax
open Go Go.Proofs Go.RowKit

theorem flat_len_le {α β : Type} {f : α → List β} {b : Nat} : ∀ {xs : List α}, (∀ x ∈ xs, (f x).length ≤ b) → (xs.flatMap f).length ≤ xs.length * b
  | [], _ => by simp
  | x :: xs, h => by
    have h1 := h x (by simp)
    have h2 := flat_len_le (f := f) (b := b) (xs := xs) fun y hy => h y (by simp [hy])
    rw [List.flatMap_cons, List.length_append, List.length_cons, Nat.succ_mul]; omega
theorem upTo_len {a n : Int} (ha : 0 ≤ a) : (upTo a n).length ≤ (n + 1).toNat := by unfold upTo; rw [List.length_map, List.length_range]; omega
theorem splitF_len {l : List Fct} {n : Int} : ∀ {row acc : List Int} {p : Int}, 0 ≤ p → (splitF l n row acc p).length ≤ (n + 1).toNat ^ row.length
  | [], _, _, _ => by simp [splitF]
  | x :: row, acc, p, hp => by
    rw [splitF, List.length_cons, Nat.pow_succ, Nat.mul_comm]
    refine Nat.le_trans (flat_len_le (b := (n + 1).toNat ^ row.length) fun q hq => ?_) (Nat.mul_le_mul_right _ (Nat.le_trans (List.length_filter_le ..) (upTo_len hp)))
    have := mem_upTo.1 (List.mem_filter.1 hq).1
    exact splitF_len (by omega)
theorem tInts : Things 1 ints := tLit tInt
/-- .. of the first places. -/
def splitK (l : List Fct) (n x : Int) (row acc : List Int) (p : Int) (k : Nat) : List (List Int) :=
  (((List.range k).map fun (i : Nat) => p + (i : Int)).filter fun q => decide ((x, p, q) ∈ l)).flatMap fun q => splitF l n row (acc ++ [q]) q
theorem splitK_succ {l : List Fct} {n x : Int} {row acc : List Int} {p : Int} {k : Nat} : splitK l n x row acc p (k + 1) = splitK l n x row acc p k ++ if (x, p, p + (k : Int)) ∈ l then splitF l n row (acc ++ [p + (k : Int)]) (p + (k : Int)) else [] := by
  unfold splitK
  rw [List.range_succ, List.map_append, List.filter_append, List.flatMap_append]
  congr 1
  by_cases h : (x, p, p + (k : Int)) ∈ l
  · rw [if_pos h]; simp [List.filter_cons, h]
  · rw [if_neg h]; simp [List.filter_cons, h]
theorem splitK_len {l : List Fct} {n x : Int} {row acc : List Int} {p : Int} {k : Nat} (hp : 0 ≤ p) : (splitK l n x row acc p k).length ≤ k * (n + 1).toNat ^ row.length := by
  unfold splitK
  refine Nat.le_trans (flat_len_le (b := (n + 1).toNat ^ row.length) fun q hq => ?_) (Nat.mul_le_mul_right _ (Nat.le_trans (List.length_filter_le ..) (by simp)))
  obtain ⟨i, _, rfl⟩ := List.mem_map.1 (List.mem_filter.1 hq).1
  exact splitF_len (by omega)
theorem last_at {acc : List Int} {p : Int} (h0 : 0 < acc.length) (h : acc.getLastD 0 = p) : acc[acc.length - 1] = p := by
  rw [← h, List.getLastD_eq_getLast?, List.getLast?_eq_getElem?, List.getElem?_eq_getElem (by omega)]; rfl

theorem splits_spec {l : List Fct} (hl : l.length ≤ 1000000) (hi : ∀ f ∈ l, inF f) {n : Int} (hn : 0 ≤ n) (hn2 : n ≤ 1000000) : ∀ {row acc : List Int} {p : Int}, (∀ x ∈ row, inI x) → 0 < acc.length → acc.length + row.length ≤ 1000000 → acc.getLastD 0 = p → 0 ≤ p → p ≤ n + 1 →
    (n + 1).toNat ^ row.length ≤ 1000000000 → ∀ {h : Heap} {Q : Value → Heap → Prop}, Q (lit ((splitF l n row acc p).map ints)) h → acall Try.prog F_homographref27_splits [facts l, ints row, ints acc, vi n] h Q
  | [], acc, p, _, h0, hlen, hlast, hp, _, _, h, Q, hq => by
    apply W_homographref27_splits_ok
    unfold W_homographref27_splits
    repeat' first | ((with_reducible apply s_dec); (· omega); (· omega)) | ((with_reducible apply s_eql)) | ((with_reducible apply s_br) <;> intro hb <;> try (exfalso; omega)) | ((with_reducible apply s_lenM)) | ((with_reducible refine s_ix (by omega) ?_ ?_); (· rfl)) | ((with_reducible apply s_ld1); (· rfl))
    refine tInts.lit1 (x := acc) rfl fun v a => ?_
    · exact tInts.done (by omega) a rfl ⟨[], (List.append_nil _).symm⟩ hq
    · exact absurd rfl hb
  | x :: row, acc, p, hr, h0, hlen, hlast, hp, hpn, hM, h, Q, hq => by
    have hla := last_at h0 hlast
    rw [List.length_cons] at hlen
    have hx := hr x (by simp)
    have hlr : (x :: row).length = row.length + 1 := rfl
    apply W_homographref27_splits_ok
    unfold W_homographref27_splits
    repeat' first | ((with_reducible apply s_dec); (· omega); (· omega)) | ((with_reducible apply s_eql)) | ((with_reducible apply s_br) <;> intro hb <;> try (exfalso; omega)) | ((with_reducible apply s_lenM)) | ((with_reducible refine s_ix (by omega) ?_ ?_); (· rfl)) | ((with_reducible apply s_ld1); (· rfl))
    rw [hla]
    refine ⟨fun m vs H => ∃ (k : Nat) (v : Value) (g : Heap), vs = [facts l, ints (x :: row), ints acc, vi n, v, vi p, vi (p + (k : Int))] ∧ H = h ++ g ∧ Acc 1 h.length (h ++ g) v ((splitK l n x row acc p k).map ints) ∧
      k ≤ (n + 1 - p).toNat ∧ m = (n + 1 - p).toNat - k, _, gcL_same ⟨0, .slice none 0 0, [], by simp, (List.append_nil _).symm, .nil, by omega, rfl⟩, ?_⟩
    rintro m x0 x1 x2 x3 x4 x5 x6 H ⟨k, v, g, hv, rfl, a, hk, rfl⟩
    replace hv := hv.symm
    simp only [List.cons.injEq, and_true] at hv
    obtain ⟨rfl, rfl, rfl, rfl, rfl, rfl, rfl⟩ := hv
    repeat' first | ((with_reducible apply s_leq)) | ((with_reducible apply s_br) <;> intro hb <;> try (exfalso; omega)) | ((with_reducible refine s_ix0 (by omega) ?_ ?_); (· rfl)) | ((with_reducible apply s_ld1); (· rfl)) | ((with_reducible apply s_call)) | ((with_reducible apply s_bld3))
    rotate_left
    · have hk' : k = (n + 1 - p).toNat := by omega
      subst hk'
      refine tInts.done (by omega) a rfl ⟨[], (List.append_nil _).symm⟩ ?_
      exact hq
    refine has_spec (x := (x, p, p + (k : Int))) hl hi (by unfold inF inI; dsimp only; omega) ?_
    have hM2 : (n + 1).toNat * (n + 1).toNat ^ row.length ≤ 1000000000 := by rw [hlr, Nat.pow_succ] at hM; rw [Nat.mul_comm]; exact hM
    have hb1 := splitK_len (l := l) (n := n) (x := x) (row := row) (acc := acc) (p := p) (k := k + 1) hp
    have hb2 : (k + 1) * (n + 1).toNat ^ row.length ≤ (n + 1).toNat * (n + 1).toNat ^ row.length := Nat.mul_le_mul_right _ (by omega)
    have hs := splitK_succ (l := l) (n := n) (x := x) (row := row) (acc := acc) (p := p) (k := k)
    repeat' first | ((with_reducible apply s_add); (· omega)) | ((with_reducible apply s_br) <;> intro hb <;> try (exfalso; omega))
    rotate_left
    · rename_i hb3
      rw [if_neg hb, List.append_nil] at hs
      refine ⟨_, ?_, gcL_same ⟨k + 1, v, g, by simp; omega, rfl, by rw [hs]; exact a, by omega, rfl⟩⟩
      omega
    rw [if_pos hb] at hs
    rw [hs, List.length_append] at hb1
    rw [← List.append_nil (h ++ g)]
    refine tInt.more (n := (h ++ g).length) (l := []) (by omega) Acc.nil rfl (by simp; omega) (by simp; omega) fun v27 g27 a27 _ f27 _ => ?_
    rw [List.nil_append] at a27
    refine tInt.push (by omega) a27 rfl rfl (by omega) (by omega) fun v31 g31 a31 _ f31 _ => ?_
    refine tInt.sl1 (l := x :: row) (by simp) ?_
    refine s_call (acall_frzA rfl a31 (by omega) tInt.lens tInt.cls [facts l, ints row] [vi n] ?_ ?_ fun g' e' l' => ?_)
    · intro y hy
      simp only [List.mem_cons, List.not_mem_nil, or_false] at hy
      rcases hy with rfl | rfl
      · exact cl_facts
      · exact cl_ints
    · intro y hy
      simp only [List.mem_cons, List.not_mem_nil, or_false] at hy
      rcases hy with rfl
      exact .int _ _
    refine splits_spec hl hi hn hn2 (row := row) (acc := acc ++ [p + (k : Int)]) (p := p + (k : Int)) (fun y hy => hr y (by simp [hy])) (by simp) (by simp; omega) (by simp) (by omega) (by omega) ?_ ?_
    · refine Nat.le_trans (Nat.le_trans (Nat.le_of_eq (Nat.one_mul _).symm) (Nat.mul_le_mul_right _ ?_)) hM2
      omega
    have a2 : Acc 1 h.length (h ++ (g ++ g')) v ((splitK l n x row acc p k).map ints) := by
      rw [← List.append_assoc]
      refine (a.app (t := g')).congr fun j hj => rfl
    rw [List.append_assoc]
    refine tInts.more (by omega) a2 rfl (by omega) (by omega) fun v36 g36 a36 _ _ _ => ?_
    rw [← hs] at a36
    repeat' first | ((with_reducible apply s_add); (· omega))
    refine ⟨_, ?_, gcL_same ⟨k + 1, v36, g36, by simp; omega, rfl, a36, by omega, rfl⟩⟩
    omega

end Go.Ax

namespace Go.Ax
open Go Go.Proofs Go.RowKit

/-- Ways of a token: of the first edges; of a rule. -/
def tokW (x : Fct) (i : Nat) : List Wy := if x.1 = 0 ∧ (i : Int) = x.2.1 ∧ ((i + 1 : Nat) : Int) = x.2.2 then [⟨-1, [x.2.1, ((i + 1 : Nat) : Int)]⟩] else []
def toksW (x : Fct) (k : Nat) : List Wy := (List.range k).flatMap (tokW x)
def waysOf (k : Nat) (t : Int) (ss : List (List Int)) : List Wy := (ss.filter fun (a : List Int) => decide (a.getLastD 0 = t)).map fun (a : List Int) => ⟨(k : Int), a⟩
theorem waysOf_take {k j : Nat} {t : Int} {ss : List (List Int)} (hj : j < ss.length) : waysOf k t (ss.take (j + 1)) = waysOf k t (ss.take j) ++ if ss[j].getLastD 0 = t then [⟨(k : Int), ss[j]⟩] else [] := by
  unfold waysOf
  rw [take_succ' hj, List.filter_append, List.map_append]
  congr 1
  by_cases q : ss[j].getLastD 0 = t
  · rw [if_pos q, List.filter_cons, if_pos (by rw [decide_eq_true q])]; rfl
  · rw [if_neg q, List.filter_cons, if_neg (by rw [decide_eq_false q]; decide)]; rfl
theorem waysOf_len {k : Nat} {t : Int} {ss : List (List Int)} : (waysOf k t ss).length ≤ ss.length := by unfold waysOf; rw [List.length_map]; exact List.length_filter_le ..
def ruleW (l : List Fct) (x : Fct) (k : Nat) (r : List Int) : List Wy :=
  if r.getD 0 0 = x.1 then waysOf k x.2.2 (splitF l x.2.2 (r.drop 1) [x.2.1] x.2.1) else []
def rulesW (l : List Fct) (R : List (List Int)) (x : Fct) (k : Nat) : List Wy := (List.range k).flatMap fun j => ruleW l x j (R.getD j [])
def waysF (g : Gr) (n : Nat) (l : List Fct) (x : Fct) : List Wy := if x.1 < g.terms then toksW x n else rulesW l g.rules x g.rules.length
theorem toksW_succ {x : Fct} {k : Nat} : toksW x (k + 1) = toksW x k ++ tokW x k := by unfold toksW; rw [List.range_succ, List.flatMap_append]; simp
theorem rulesW_succ {l : List Fct} {R : List (List Int)} {x : Fct} {k : Nat} : rulesW l R x (k + 1) = rulesW l R x k ++ ruleW l x k (R.getD k []) := by unfold rulesW; rw [List.range_succ, List.flatMap_append]; simp
theorem toksW_len {x : Fct} {k : Nat} : (toksW x k).length ≤ k := by
  have := flat_len_le (f := tokW x) (b := 1) (xs := List.range k) fun i _ => by unfold tokW; split <;> simp
  rw [List.length_range] at this; unfold toksW; omega
theorem fct_cells {f : Fct} : ∀ x ∈ [Value.int .i64 f.1, .int .i64 f.2.1, .int .i64 f.2.2], Cl x := fun x hx => by
  simp only [List.mem_cons, List.not_mem_nil, or_false] at hx
  rcases hx with rfl | rfl | rfl <;> exact .int _ _

theorem ways_tok {g : Gr} {n : Nat} {l : List Fct} {x : Fct} (hn : n ≤ 1000000) (hx : x.1 < g.terms) {h : Heap} {Q : Value → Heap → Prop} (hq : Q (lit ((waysF g n l x).map Wy.enc)) h) :
    acall Try.prog F_homographref27_ways [g.enc, lineV n, facts l, Fct.enc x] h Q := by
  apply W_homographref27_ways_ok
  unfold W_homographref27_ways
  rw [box_gr, hW_some, box_line, hW_some, box_fct, hW_some]
  have ag : getRow (h ++ [grow g] ++ [lrow n] ++ [frow x]) h.length = some (g.cells, .exact) := getRow_app (getRow_app row_last)
  have al : getRow (h ++ [grow g] ++ [lrow n] ++ [frow x]) (h ++ [grow g]).length = some (lineC n, .exact) := getRow_app row_last
  have ax : getRow (h ++ [grow g] ++ [lrow n] ++ [frow x]) (h ++ [grow g] ++ [lrow n]).length = some ([.int .i64 x.1, .int .i64 x.2.1, .int .i64 x.2.2], .exact) := row_last
  repeat' first | ((with_reducible apply s_lss)) | ((with_reducible apply s_br) <;> intro hb <;> try (exfalso; omega)) | ((with_reducible apply s_fld); (· first | assumption | exact row_last | exact getRow_app (by first | assumption | exact row_last | exact getRow_app (by first | assumption | exact row_last))); (· rfl))
  have hT : h ++ [grow g] ++ [lrow n] ++ [frow x] = h ++ [grow g, lrow n, frow x] := by simp
  rw [hT] at ag al ax ⊢
  unfold waysF at hq
  rw [if_pos hx] at hq
  refine ⟨fun m vs H => ∃ (k : Nat) (v : Value) (g' : Heap), vs = [plit (lineC n), plit [.int .i64 x.1, .int .i64 x.2.1, .int .i64 x.2.2], v, natV k] ∧ H = h ++ g' ∧ Acc 2 h.length (h ++ g') v ((toksW x k).map Wy.enc) ∧ k ≤ n ∧ m = n - k, n,
    gcL_acc1 (sz := 2) (es := []) (es2 := []) Acc.nil (by simp) (by simp) rfl (fun _ _ _ k p => absurd p (by simp))
      fun fr r v' g' hfr gv a' => ⟨[plit (lineC n), plit [.int .i64 x.1, .int .i64 x.2.1, .int .i64 x.2.2], v', natV 0],
        ⟨.box (hfr _ (by simp) fun ⟨_, _, _, q⟩ => by cases q) al line_cl, .box (hfr _ (by simp) fun ⟨_, _, _, q⟩ => by cases q) ax fct_cells, gv, .cl (.int _ _), trivial⟩, 0, v', g', rfl, rfl, a', by omega, by omega⟩, ?_⟩
  clear ag al ax
  rintro m x0 x1 x2 x3 H ⟨k, v, g', hv, rfl, a, hk, rfl⟩
  replace hv := hv.symm
  simp only [List.cons.injEq, and_true] at hv
  obtain ⟨rfl, rfl, rfl, rfl⟩ := hv
  have hlen := toksW_len (x := x) (k := k)
  have hsc := toksW_succ (x := x) (k := k)
  repeat' first | refine s_lenE ?_ | refine edgeAt (by omega) ?_ | refine s_rng (by omega) ?_ | refine s_bsl2 ?_ | ((with_reducible apply s_inc); (· omega)) | ((with_reducible apply s_lss)) | ((with_reducible apply s_eql)) | ((with_reducible apply s_brF)) | ((with_reducible apply s_br) <;> intro hb <;> try (exfalso; omega)) | ((with_reducible apply s_fap); (· rfl)) | ((with_reducible apply s_ld1); (· rfl)) | ((with_reducible apply s_ldA); (· rfl)) | ((with_reducible apply s_fld); (· first | assumption | exact row_last | exact getRow_app (by first | assumption | exact row_last | exact getRow_app (by first | assumption | exact row_last))); (· rfl)) | ((with_reducible apply s_let)) | ((with_reducible apply s_stA); (· rfl); (· rfl); (· rfl))
  · have e1 : tokW x k = [⟨-1, [x.2.1, ((k + 1 : Nat) : Int)]⟩] := by
      unfold tokW
      rw [if_pos ⟨by omega, by omega, by omega⟩]
    rw [e1] at hsc
    refine s_bldV2 rfl rfl rfl rfl ?_
    have hrow : getRow (h ++ g' ++ [AObj.row #[Value.int .i64 0, Value.int .i64 (k : Int), Value.int .i64 ((k + 1 : Nat) : Int)].toList .exact] ++ [.row [.int .i64 x.2.1, .int .i64 ((k + 1 : Nat) : Int)] .exact]) _ = some _ := row_last
    have a1 := (a.app (t := [AObj.row #[Value.int .i64 0, Value.int .i64 (k : Int), Value.int .i64 ((k + 1 : Nat) : Int)].toList .exact])).app (t := [.row [.int .i64 x.2.1, .int .i64 ((k + 1 : Nat) : Int)] .exact])
    have hlt := fun j hj => a.lt (j := j) hj
    generalize hp : (h ++ g' ++ [AObj.row #[Value.int .i64 0, Value.int .i64 (k : Int), Value.int .i64 ((k + 1 : Nat) : Int)].toList .exact]).length = p at hrow ⊢
    have hpg : (h ++ g').length < p := by rw [← hp]; simp
    have e2 : h ++ g' ++ [AObj.row #[Value.int .i64 0, Value.int .i64 (k : Int), Value.int .i64 ((k + 1 : Nat) : Int)].toList .exact] ++ [.row [.int .i64 x.2.1, .int .i64 ((k + 1 : Nat) : Int)] .exact] =
      h ++ (g' ++ [AObj.row #[Value.int .i64 0, Value.int .i64 (k : Int), Value.int .i64 ((k + 1 : Nat) : Int)].toList .exact] ++ [.row [.int .i64 x.2.1, .int .i64 ((k + 1 : Nat) : Int)] .exact]) := by simp
    rw [e2] at a1 hrow ⊢
    have hpl := getRow_lt hrow
    refine Acc.push rfl a1 (by omega) tWy.lens rfl rfl rfl rfl (by rw [List.length_map]; omega) (by rw [List.length_map]; omega) fun v' g2 a2 f1 f2 f3 => ?_
    have hrow2 := (getRow_same (f1 p hpl fun q => by have := hlt _ q; omega)).trans hrow
    have hnl : ¬ lies v' p := fun q => by
      rcases f2 _ q with q | q
      · have := hlt _ q; omega
      · omega
    repeat' first | ((with_reducible apply s_inc); (· omega))
    refine ⟨n - (k + 1), by omega, gcL_acc1 (es2 := (toksW x k).map Wy.enc ++ [Wy.enc ⟨-1, [x.2.1, ((k + 1 : Nat) : Int)]⟩]) a2 ?_ ?_ (by simp) (fun fr r hfr => cells_snoc tWy ⟨.cl (.int _ _), .frz1 (hfr p (by simp at hpg; omega) hnl) (getRow_eq hrow2) rfl ?_, trivial⟩)
      fun fr r v3 g3 hfr gv a3 => ⟨[plit (lineC n), plit [.int .i64 x.1, .int .i64 x.2.1, .int .i64 x.2.2], v3, natV (k + 1)],
        ⟨.cl (.plit' line_cl), .cl (.plit' fct_cells), gv, .cl (.int _ _), trivial⟩, k + 1, v3, g3, rfl, rfl, by rw [hsc, List.map_append]; exact a3, by omega, rfl⟩⟩
    · exact lens_snoc tWy rfl
    · exact lens_snoc tWy rfl
    · intro e he
      obtain ⟨y, _, rfl⟩ := List.mem_map.1 he
      exact ⟨rfl, .int _ _⟩
  · have e1 : tokW x k = [] := by unfold tokW; rw [if_neg fun q => by omega]
    rw [e1, List.append_nil] at hsc
    refine ⟨_, ?_, gcL_same ⟨k + 1, v, g' ++ _, rfl, List.append_assoc _ _ _, by rw [hsc, ← List.append_assoc]; exact a.app, by omega, rfl⟩⟩
    omega
  · have e1 : tokW x k = [] := by unfold tokW; rw [if_neg fun q => by omega]
    rw [e1, List.append_nil] at hsc
    refine ⟨_, ?_, gcL_same ⟨k + 1, v, g' ++ _, rfl, List.append_assoc _ _ _, by rw [hsc, ← List.append_assoc]; exact a.app, by omega, rfl⟩⟩
    omega
  · have e1 : tokW x k = [] := by unfold tokW; rw [if_neg fun q => by omega]
    rw [e1, List.append_nil] at hsc
    refine ⟨_, ?_, gcL_same ⟨k + 1, v, g' ++ _, rfl, List.append_assoc _ _ _, by rw [hsc, ← List.append_assoc]; exact a.app, by omega, rfl⟩⟩
    omega
  · have : k = n := by omega
    subst this
    exact tWy.done (by omega) a rfl ⟨[], (List.append_nil _).symm⟩ hq

theorem splitF_pos {l : List Fct} {n : Int} : ∀ {row acc : List Int} {p : Int} {a : List Int}, a ∈ splitF l n row acc p → acc.length ≤ a.length
  | [], acc, p, a, h => by rw [splitF, List.mem_singleton] at h; rw [h]; exact Nat.le_refl _
  | x :: row, acc, p, a, h => by
    rw [splitF, List.mem_flatMap] at h
    obtain ⟨q, _, h⟩ := h
    have := splitF_pos h
    simp at this; omega
theorem splitF_lenA {l : List Fct} {n : Int} : ∀ {row acc : List Int} {p : Int} {a : List Int}, a ∈ splitF l n row acc p → a.length = acc.length + row.length
  | [], acc, p, a, h => by rw [splitF, List.mem_singleton] at h; rw [h]; rfl
  | x :: row, acc, p, a, h => by
    rw [splitF, List.mem_flatMap] at h
    obtain ⟨q, _, h⟩ := h
    have := splitF_lenA h
    simp at this; simp; omega
/-- Within bounds, for a rule's ways. -/
structure WOk (g : Gr) (l : List Fct) (x : Fct) : Prop where
  len : l.length ≤ 1000000
  inf : ∀ f ∈ l, inF f
  nr : g.rules.length ≤ 1000
  fits : ∀ r ∈ g.rules, 0 < r.length ∧ r.length ≤ 1000 ∧ ∀ y ∈ r.drop 1, inI y
  lo : 0 ≤ x.2.1
  le : x.2.1 ≤ x.2.2 + 1
  hi : 0 ≤ x.2.2 ∧ x.2.2 ≤ 1000000
  cnt : ∀ r ∈ g.rules, (x.2.2 + 1).toNat ^ (r.drop 1).length ≤ 1000000
theorem ruleW_len {g : Gr} {l : List Fct} {x : Fct} (ok : WOk g l x) {k j : Nat} (hj : j < g.rules.length) : (ruleW l x k (g.rules.getD j [])).length ≤ 1000000 := by
  have hm : g.rules.getD j [] ∈ g.rules := by rw [List.getD_eq_getElem?_getD, List.getElem?_eq_getElem hj]; exact List.getElem_mem hj
  unfold ruleW
  split
  · exact Nat.le_trans waysOf_len (Nat.le_trans (splitF_len ok.lo) (ok.cnt _ hm))
  · simp
theorem rulesW_len {g : Gr} {l : List Fct} {x : Fct} (ok : WOk g l x) {k : Nat} (hk : k ≤ g.rules.length) : (rulesW l g.rules x k).length ≤ k * 1000000 := by
  have := flat_len_le (f := fun j => ruleW l x j (g.rules.getD j [])) (b := 1000000) (xs := List.range k) fun i hi => ruleW_len ok (by simp at hi; omega)
  rwa [List.length_range] at this

theorem ways_rule {g : Gr} {n : Nat} {l : List Fct} {x : Fct} (ok : WOk g l x) (hx : ¬ x.1 < g.terms) {h : Heap} {Q : Value → Heap → Prop} (hq : Q (lit ((waysF g n l x).map Wy.enc)) h) :
    acall Try.prog F_homographref27_ways [g.enc, lineV n, facts l, Fct.enc x] h Q := by
  have hnr := ok.nr
  have hlo := ok.lo
  have hle := ok.le
  have hhi := ok.hi
  apply W_homographref27_ways_ok
  unfold W_homographref27_ways
  rw [box_gr, hW_some, box_line, hW_some, box_fct, hW_some]
  have ag : getRow (h ++ [grow g] ++ [lrow n] ++ [frow x]) h.length = some (g.cells, .exact) := getRow_app (getRow_app row_last)
  have ax : getRow (h ++ [grow g] ++ [lrow n] ++ [frow x]) (h ++ [grow g] ++ [lrow n]).length = some ([.int .i64 x.1, .int .i64 x.2.1, .int .i64 x.2.2], .exact) := row_last
  repeat' first | ((with_reducible apply s_lss)) | ((with_reducible apply s_br) <;> intro hb <;> try (exfalso; omega)) | ((with_reducible apply s_fld); (· first | assumption | exact row_last | exact getRow_app (by first | assumption | exact row_last | exact getRow_app (by first | assumption | exact row_last))); (· rfl))
  unfold waysF at hq
  rw [if_neg hx] at hq
  have hlg : h.length < (h ++ [grow g] ++ [lrow n] ++ [frow x]).length := by simp
  have hlx : (h ++ [grow g] ++ [lrow n]).length < (h ++ [grow g] ++ [lrow n] ++ [frow x]).length := by simp
  have hB0 : ∃ t, h ++ [grow g] ++ [lrow n] ++ [frow x] = h ++ t := ⟨_, by rw [List.append_assoc, List.append_assoc]⟩
  generalize (h ++ [grow g] ++ [lrow n]).length = px at ax hlx ⊢
  generalize h ++ [grow g] ++ [lrow n] ++ [frow x] = B at ag ax hlg hlx hB0 ⊢
  refine ⟨fun m vs H => ∃ (k : Nat) (v : Value) (g' : Heap), vs = [facts l, .pointer (some ⟨h.length, 0, none⟩), .pointer (some ⟨px, 0, none⟩), v, natV k] ∧ H = B ++ g' ∧ Acc 2 B.length (B ++ g') v ((rulesW l g.rules x k).map Wy.enc) ∧
    k ≤ g.rules.length ∧ m = g.rules.length - k, _, gcL_same ⟨0, _, [], rfl, (List.append_nil _).symm, .nil, by omega, rfl⟩, ?_⟩
  rintro m x0 x1 x2 x3 x4 H ⟨k, v, g', hv, rfl, a, hk, rfl⟩
  replace hv := hv.symm
  simp only [List.cons.injEq, and_true] at hv
  obtain ⟨rfl, rfl, rfl, rfl, rfl⟩ := hv
  have ag1 := getRow_app (t := g') ag
  have ax1 := getRow_app (t := g') ax
  have hsc := rulesW_succ (l := l) (R := g.rules) (x := x) (k := k)
  repeat' first | ((with_reducible apply s_lss)) | ((with_reducible apply s_br) <;> intro hb <;> try (exfalso; omega)) | ((with_reducible apply s_lenM)) | ((with_reducible refine s_ix (by omega) ?_ ?_); (· rfl)) | ((with_reducible apply s_ld1); (· rfl)) | ((with_reducible apply s_fld); (· first | assumption | exact row_last | exact getRow_app (by first | assumption | exact row_last | exact getRow_app (by first | assumption | exact row_last))); (· rfl))
  rotate_right
  · have : k = g.rules.length := by omega
    subst this
    exact tWy.done (by omega) a rfl hB0 hq
  all_goals have hkl : k < g.rules.length := by omega
  all_goals have hfit := ok.fits _ (List.getElem_mem hkl)
  all_goals have hgd : g.rules.getD k [] = g.rules[k] := by rw [List.getD_eq_getElem?_getD, List.getElem?_eq_getElem hkl]; rfl
  all_goals have hg0 : g.rules[k].getD 0 0 = g.rules[k][0] := by rw [List.getD_eq_getElem?_getD, List.getElem?_eq_getElem (by omega)]; rfl
  · repeat' first | ((with_reducible apply s_inc); (· omega)) | ((with_reducible apply s_neq)) | ((with_reducible apply s_br) <;> intro hb <;> try (exfalso; omega)) | ((with_reducible refine s_ix (by omega) ?_ ?_); (· rfl)) | ((with_reducible refine s_ix0 (by omega) ?_ ?_); (· rfl)) | ((with_reducible apply s_ld1); (· rfl)) | ((with_reducible apply s_fld); (· first | assumption | exact row_last | exact getRow_app (by first | assumption | exact row_last | exact getRow_app (by first | assumption | exact row_last))); (· rfl))
    · have e1 : ruleW l x k (g.rules.getD k []) = [] := by unfold ruleW; rw [hgd, hg0, if_neg hb]
      rw [e1, List.append_nil] at hsc
      refine ⟨_, ?_, gcL_same ⟨k + 1, v, g', rfl, rfl, by rw [hsc]; exact a, by omega, rfl⟩⟩
      omega
    have e1 : ruleW l x k (g.rules.getD k []) = waysOf k x.2.2 (splitF l x.2.2 (g.rules[k].drop 1) [x.2.1] x.2.1) := by
      unfold ruleW; rw [hgd, hg0, if_pos (by simpa using hb)]
    have hcnt := ok.cnt _ (List.getElem_mem hkl)
    have hsl := splitF_len (l := l) (n := x.2.2) (row := g.rules[k].drop 1) (acc := [x.2.1]) hlo
    have hpos : ∀ a ∈ splitF l x.2.2 (g.rules[k].drop 1) [x.2.1] x.2.1, 0 < a.length := fun a ha => Nat.lt_of_lt_of_le (by simp) (splitF_pos ha)
    have hrl := rulesW_len ok hk
    have hfin : ∀ a ∈ splitF l x.2.2 (g.rules[k].drop 1) [x.2.1] x.2.1, a.length ≤ 1001 := fun a ha => by
      have := splitF_lenA ha
      rw [List.length_drop] at this
      simp at this; omega
    refine tInt.sl1 (by omega) ?_
    repeat' first | ((with_reducible apply s_fld); (· first | assumption | exact row_last | exact getRow_app (by first | assumption | exact row_last | exact getRow_app (by first | assumption | exact row_last))); (· rfl))
    refine tInt.lit1 (x := x.2.1) rfl fun v22 a22 => ?_
    have low1 : ∀ j, j < B.length → (B ++ g' ++ [AObj.row (cellsOf (vi x.2.1)) .exact])[j]? = (B ++ g')[j]? := fun j hj => by rw [List.getElem?_append_left (by simp; omega)]
    refine ⟨?_, ?_⟩
    · repeat first
        | exact keptW_nil.2 trivial
        | refine keptW_func.2 ?_
        | refine keptW_int.2 ?_
        | refine keptW_str.2 ?_
        | refine keptW_agg.2 ?_
        | refine keptW_nilS.2 ?_
        | refine keptW_ptr.2 ⟨low1 _ (by first | omega | (simp; done) | (simp; omega)), ?_⟩
        | refine keptW_slice.2 ⟨low1 _ (by first | omega | (simp; done) | (simp; omega)), ?_⟩
        | refine keptW_map.2 ⟨low1 _ (by first | omega | (simp; done) | (simp; omega)), ?_⟩
    refine s_call (acall_frzA (n := (B ++ g').length) rfl a22 (by omega) tInt.lens tInt.cls [facts l, ints (g.rules[k].drop 1)] [vi x.2.2] ?_ ?_ fun g2 e2 l2 => ?_)
    · intro y hy
      simp only [List.mem_cons, List.not_mem_nil, or_false] at hy
      rcases hy with rfl | rfl
      · exact cl_facts
      · exact cl_ints
    · intro y hy
      rw [List.mem_singleton.1 hy]
      exact .int _ _
    refine splits_spec ok.len ok.inf hhi.1 hhi.2 (row := g.rules[k].drop 1) (acc := [x.2.1]) (p := x.2.1) hfit.2.2 (by simp) (by rw [List.length_drop]; simp; omega) rfl hlo hle (by omega) ?_
    have low2 : ∀ j, j < B.length → (B ++ g' ++ g2)[j]? = (B ++ g' ++ [AObj.row (cellsOf (vi x.2.1)) .exact])[j]? := fun j hj => e2 j fun q => by
      have := a22.ge q; simp at this; omega
    refine ⟨?_, ?_⟩
    · repeat first
        | exact keptW_nil.2 trivial
        | refine keptW_func.2 ?_
        | refine keptW_int.2 ?_
        | refine keptW_str.2 ?_
        | refine keptW_agg.2 ?_
        | refine keptW_nilS.2 ?_
        | refine keptW_ptr.2 ⟨low2 _ (by first | omega | (simp; done) | (simp; omega)), ?_⟩
        | refine keptW_slice.2 ⟨low2 _ (by first | omega | (simp; done) | (simp; omega)), ?_⟩
        | refine keptW_map.2 ⟨low2 _ (by first | omega | (simp; done) | (simp; omega)), ?_⟩
    have a2 : Acc 2 B.length (B ++ (g' ++ g2)) v ((rulesW l g.rules x k).map Wy.enc) := by rw [← List.append_assoc]; exact a.app
    generalize hss : splitF l x.2.2 (g.rules[k].drop 1) [x.2.1] x.2.1 = ss at *
    rw [List.append_assoc]
    refine ⟨fun m vs H => ∃ (j : Nat) (v : Value) (g' : Heap), vs = [facts l, .pointer (some ⟨h.length, 0, none⟩), .pointer (some ⟨px, 0, none⟩), v, natV k, lit (ss.map ints), natV j] ∧ H = B ++ g' ∧
      Acc 2 B.length (B ++ g') v ((rulesW l g.rules x k ++ waysOf k x.2.2 (ss.take j)).map Wy.enc) ∧ j ≤ ss.length ∧ m = ss.length - j, _, gcL_same ⟨0, v, _, rfl, rfl, by rw [List.take_zero]; exact (List.append_nil (rulesW l g.rules x k)).symm ▸ a2, by omega, rfl⟩, ?_⟩
    clear a2 a a22 e2 low1 low2 l2 ag1 ax1
    rintro m x0 x1 x2 x3 x4 x5 x6 H ⟨j, v, g', hv, rfl, a, hj, rfl⟩
    replace hv := hv.symm
    simp only [List.cons.injEq, and_true] at hv
    obtain ⟨rfl, rfl, rfl, rfl, rfl, rfl, rfl⟩ := hv
    have ax1 := getRow_app (t := g') ax
    repeat' first | ((with_reducible apply s_inc); (· omega)) | ((with_reducible apply s_lss)) | ((with_reducible apply s_br) <;> intro hb <;> try (exfalso; omega)) | ((with_reducible apply s_lenM)) | ((with_reducible refine s_ix (by omega) ?_ ?_); (· rfl)) | ((with_reducible apply s_ld1); (· rfl))
    rotate_right
    · have : j = ss.length := by omega
      subst this
      rw [List.take_length, ← e1, ← hsc] at a
      refine ⟨_, ?_, gcL_same ⟨k + 1, v, g', rfl, rfl, a, by omega, rfl⟩⟩
      omega
    have hjl : j < ss.length := by omega
    have hpj := hpos _ (List.getElem_mem hjl)
    have hfj := hfin _ (List.getElem_mem hjl)
    have hla := last_at hpj rfl
    have ht := waysOf_take (k := k) (t := x.2.2) hjl
    have hfl := waysOf_len (k := k) (t := x.2.2) (ss := ss.take j)
    rw [List.length_take] at hfl
    repeat' first | ((with_reducible apply s_inc); (· omega)) | ((with_reducible apply s_dec); (· omega); (· omega)) | ((with_reducible apply s_eql)) | ((with_reducible apply s_br) <;> intro hb <;> try (exfalso; omega)) | ((with_reducible refine s_ix (by omega) ?_ ?_); (· rfl)) | ((with_reducible apply s_ld1); (· rfl)) | ((with_reducible apply s_fld); (· first | assumption | exact row_last | exact getRow_app (by first | assumption | exact row_last | exact getRow_app (by first | assumption | exact row_last))); (· rfl))
    · rw [if_pos (by rw [← hla]; exact hb)] at ht
      refine s_bldV2 rfl rfl rfl rfl ?_
      refine tWy.push (x := ⟨(k : Int), ss[j]⟩) (by omega) a rfl rfl (by rw [List.length_append]; omega) (by rw [List.length_append]; omega) fun v' g2 a2 _ _ _ => ?_
      repeat' first | ((with_reducible apply s_inc); (· omega))
      refine ⟨_, ?_, gcL_same ⟨j + 1, v', g2, rfl, rfl, by rw [ht, ← List.append_assoc]; exact a2, by omega, rfl⟩⟩
      omega
    · rw [if_neg (by rw [← hla]; exact hb), List.append_nil] at ht
      refine ⟨_, ?_, gcL_same ⟨j + 1, v, g', rfl, rfl, by rw [ht]; exact a, by omega, rfl⟩⟩
      omega

theorem ways_spec {g : Gr} {n : Nat} {l : List Fct} {x : Fct} (hn : n ≤ 1000000) (ok : WOk g l x) {h : Heap} {Q : Value → Heap → Prop} (hq : Q (lit ((waysF g n l x).map Wy.enc)) h) :
    acall Try.prog F_homographref27_ways [g.enc, lineV n, facts l, Fct.enc x] h Q := by
  by_cases hx : x.1 < g.terms
  · exact ways_tok hn hx hq
  · exact ways_rule ok hx hq

end Go.Ax

namespace Go.Ax
open Go Go.Proofs Go.RowKit

/-- The kids of a way of a rule. -/
def kidsW (r at_ : List Int) (n : Nat) : List Fct := (List.range n).map fun i => (r.getD (i + 1) 0, at_.getD i 0, at_.getD (i + 1) 0)
/-- Does a way count? -/
def wayOk (R : List (List Int)) (sym : Int) (w : Wy) : Prop := 0 ≤ w.rule ∧ w.rule < R.length ∧ 0 < (R.getD w.rule.toNat []).length ∧ (R.getD w.rule.toNat []).getD 0 0 = sym ∧ w.at_.length = (R.getD w.rule.toNat []).length
instance {R : List (List Int)} {sym : Int} {w : Wy} : Decidable (wayOk R sym w) := by unfold wayOk; infer_instance
def kidsF (R : List (List Int)) (sym : Int) (w : Wy) : List Fct := if wayOk R sym w then kidsW (R.getD w.rule.toNat []) w.at_ ((R.getD w.rule.toNat []).length - 1) else []
theorem kidsW_succ {r at_ : List Int} {n : Nat} : kidsW r at_ (n + 1) = kidsW r at_ n ++ [(r.getD (n + 1) 0, at_.getD n 0, at_.getD (n + 1) 0)] := by unfold kidsW; rw [List.range_succ, List.map_append]; rfl
theorem getD_at {α : Type} {l : List α} {d : α} {i : Nat} (h : i < l.length) : l.getD i d = l[i] := by rw [List.getD_eq_getElem?_getD, List.getElem?_eq_getElem h]; rfl
abbrev krow (k : Kt) : AObj := .row [.int .i64 k.sym, .int .i64 k.from_, .int .i64 k.to_, lit (k.ways.map Wy.enc)] .exact
theorem nil_facts {h t : Heap} {Q : Value → Heap → Prop} (hq : Q (facts []) h) : gcV h Q (.slice none 0 0) (h ++ t) := gcV_end (.lit0 _ _) hq

theorem kids27_spec {g : Gr} {k : Kt} {way : Nat} (hw : way < k.ways.length) (hl : k.ways.length ≤ 1000000000) (hnr : g.rules.length ≤ 1000000000) (hrl : ∀ r ∈ g.rules, r.length ≤ 1000000000) {h : Heap} {Q : Value → Heap → Prop}
    (hq : Q (facts (kidsF g.rules k.sym k.ways[way])) h) : acall Try.prog F_homographref27_Kids [g.enc, k.enc, natV way] h Q := by
  apply W_homographref27_Kids_ok
  unfold W_homographref27_Kids
  rw [box_gr, hW_some]
  repeat' first | ((with_reducible apply s_box))
  have ag : getRow (h ++ [grow g] ++ [krow k]) h.length = some (g.cells, .exact) := getRow_app row_last
  have ak : getRow (h ++ [grow g] ++ [krow k]) (h ++ [grow g]).length = some ([.int .i64 k.sym, .int .i64 k.from_, .int .i64 k.to_, lit (k.ways.map Wy.enc)], .exact) := row_last
  have hT : h ++ [grow g] ++ [krow k] = h ++ [grow g, krow k] := by simp
  have hlk : (h ++ [grow g]).length < (h ++ [grow g, krow k]).length := by simp
  rw [hT] at ag ak ⊢
  refine ⟨fun vs H => vs = [natV way, .pointer (some ⟨h.length, 0, none⟩), .pointer (some ⟨(h ++ [grow g]).length, 0, none⟩)] ∧ H = h ++ [grow g, krow k], ?_, ?_⟩
  · repeat' first | ((with_reducible apply s_lss)) | ((with_reducible apply s_geq)) | ((with_reducible apply s_br) <;> intro hb <;> try (exfalso; omega)) | ((with_reducible apply s_lenM)) | ((with_reducible apply s_fld); (· first | assumption | exact row_last | exact getRow_app (by first | assumption | exact row_last | exact getRow_app (by first | assumption | exact row_last))); (· rfl))
    exact gcL_same ⟨rfl, rfl⟩
  rintro x11 x12 x13 h14 ⟨hv, rfl⟩
  replace hv := hv.symm
  simp only [List.cons.injEq, and_true] at hv
  obtain ⟨rfl, rfl, rfl⟩ := hv
  generalize hwe : k.ways[way] = w at hq
  obtain ⟨rule, at_⟩ := w
  repeat' first | ((with_reducible refine s_ix (by omega) ?_ ?_); (· rfl)) | ((with_reducible apply s_lda); (· rfl); (· rfl)) | ((with_reducible apply s_fld); (· first | assumption | exact row_last | exact getRow_app (by first | assumption | exact row_last | exact getRow_app (by first | assumption | exact row_last))); (· rfl)) | ((with_reducible apply s_let)) | ((with_reducible apply s_stA); (· rfl); (· rfl); (· rfl))
  rw [hwe]
  have ar : getRow (h ++ [grow g, krow k] ++ [.row [.int .i64 rule, ints at_] .exact]) _ = some _ := row_last
  have ag := getRow_app (t := [.row [.int .i64 rule, ints at_] .exact]) ag
  have ak := getRow_app (t := [.row [.int .i64 rule, ints at_] .exact]) ak
  have hB0 : ∃ t, h ++ [grow g, krow k] ++ [AObj.row [.int .i64 rule, ints at_] .exact] = h ++ t := ⟨_, List.append_assoc _ _ _⟩
  generalize (h ++ [grow g, krow k]).length = pr at ar ⊢
  have hpr := getRow_lt ar
  generalize hB : h ++ [grow g, krow k] ++ [AObj.row [.int .i64 rule, ints at_] .exact] = B at ag ak ar hB0 hpr
  have hnil : Q (facts []) h → gcV h Q (.slice none 0 0) B := fun q => by obtain ⟨t, rfl⟩ := hB0; exact nil_facts q
  have hno : ¬ wayOk g.rules k.sym ⟨rule, at_⟩ → gcV h Q (.slice none 0 0) B := fun q => hnil (by unfold kidsF at hq; rwa [if_neg q] at hq)
  by_cases hr : 0 ≤ rule
  rotate_left
  · refine ⟨fun _ _ => False, ?_, fun _ _ _ _ q => q.elim⟩
    repeat' first | ((with_reducible apply s_lss)) | ((with_reducible apply s_brT)) | ((with_reducible apply s_br) <;> intro hb <;> try (exfalso; omega)) | ((with_reducible apply s_fld); (· first | assumption | exact row_last | exact getRow_app (by first | assumption | exact row_last | exact getRow_app (by first | assumption | exact row_last))); (· rfl))
    exact hno fun q => hr q.1
  obtain ⟨rn, rfl⟩ := Int.eq_ofNat_of_zero_le hr
  refine ⟨fun vs H => rn < g.rules.length ∧ 0 < (g.rules.getD rn []).length ∧ vs = [.pointer (some ⟨h.length, 0, none⟩), .pointer (some ⟨(h ++ [grow g]).length, 0, none⟩), .pointer (some ⟨pr, 0, none⟩)] ∧ H = B, ?_, ?_⟩
  · repeat' first | ((with_reducible apply s_lss)) | ((with_reducible apply s_geq)) | ((with_reducible apply s_eql)) | ((with_reducible apply s_brT)) | ((with_reducible apply s_br) <;> intro hb <;> try (exfalso; omega)) | ((with_reducible apply s_lenM)) | ((with_reducible refine s_ix (by omega) ?_ ?_); (· rfl)) | ((with_reducible apply s_ld1); (· rfl)) | ((with_reducible apply s_fld); (· first | assumption | exact row_last | exact getRow_app (by first | assumption | exact row_last | exact getRow_app (by first | assumption | exact row_last))); (· rfl))
    · exact hno fun q => by have := q.2.1; dsimp only at this; omega
    · refine hno fun q => ?_
      have := q.2.2.1
      dsimp only at this
      rw [Int.toNat_natCast, getD_at (by omega)] at this
      omega
    · have hlt : rn < g.rules.length := by omega
      refine gcL_same ⟨hlt, ?_, rfl, rfl⟩
      rw [getD_at hlt]; omega
  rintro x39 x40 x41 h42 ⟨hlt, hpos, hv, rfl⟩
  replace hv := hv.symm
  simp only [List.cons.injEq, and_true] at hv
  obtain ⟨rfl, rfl, rfl⟩ := hv
  rw [getD_at hlt] at hpos
  have hrm := hrl _ (List.getElem_mem hlt)
  generalize hre : g.rules[rn] = r at hpos hrm
  have hgd : g.rules.getD rn [] = r := (getD_at hlt).trans hre
  have hg0 : r.getD 0 0 = r[0] := getD_at hpos
  repeat' first | ((with_reducible refine s_ix (by omega) ?_ ?_); (· rfl)) | ((with_reducible apply s_ld1); (· rfl)) | ((with_reducible apply s_fld); (· first | assumption | exact row_last | exact getRow_app (by first | assumption | exact row_last | exact getRow_app (by first | assumption | exact row_last))); (· rfl))
  all_goals rw [hre]
  repeat' first | ((with_reducible apply s_neq)) | ((with_reducible apply s_brT)) | ((with_reducible apply s_br) <;> intro hb <;> try (exfalso; omega)) | ((with_reducible apply s_lenM)) | ((with_reducible refine s_ix0 (by omega) ?_ ?_); (· rfl)) | ((with_reducible apply s_ld1); (· rfl)) | ((with_reducible apply s_fld); (· first | assumption | exact row_last | exact getRow_app (by first | assumption | exact row_last | exact getRow_app (by first | assumption | exact row_last))); (· rfl))
  · refine hno fun q => hb ?_
    have := q.2.2.2.1
    dsimp only at this
    rw [Int.toNat_natCast, hgd, hg0] at this
    exact this
  · refine hno fun q => hb ?_
    have := q.2.2.2.2
    dsimp only at this
    rw [Int.toNat_natCast, hgd] at this
    omega
  have hok : wayOk g.rules k.sym ⟨(rn : Int), at_⟩ := ⟨by simp, by simp; omega, by simp only [Int.toNat_natCast]; rw [hgd]; exact hpos, by simp only [Int.toNat_natCast]; rw [hgd, hg0]; omega, by simp only [Int.toNat_natCast]; rw [hgd]; omega⟩
  unfold kidsF at hq
  rw [if_pos hok] at hq
  simp only [Int.toNat_natCast, hgd] at hq
  generalize hBB : h42 = B at *
  refine ⟨fun m vs H => ∃ (q : Nat) (v : Value) (g' : Heap), vs = [.pointer (some ⟨pr, 0, none⟩), ints r, v, natV (q + 1)] ∧ H = B ++ g' ∧ Acc 3 B.length (B ++ g') v ((kidsW r at_ q).map Fct.enc) ∧ q + 1 ≤ r.length ∧ m = r.length - q, _,
    gcL_same ⟨0, _, [], rfl, (List.append_nil _).symm, .nil, by omega, rfl⟩, ?_⟩
  rintro m x0 x1 x2 x3 H ⟨q, v, g', hv, rfl, a, hk, rfl⟩
  replace hv := hv.symm
  simp only [List.cons.injEq, and_true] at hv
  obtain ⟨rfl, rfl, rfl, rfl⟩ := hv
  have ar := getRow_app (t := g') ar
  repeat' first | ((with_reducible apply s_dec); (· omega); (· omega)) | ((with_reducible apply s_lss)) | ((with_reducible apply s_br) <;> intro hb <;> try (exfalso; omega)) | ((with_reducible apply s_lenM)) | ((with_reducible refine s_ix (by omega) ?_ ?_); (· rfl)) | ((with_reducible apply s_ld1); (· rfl)) | ((with_reducible apply s_fld); (· first | assumption | exact row_last | exact getRow_app (by first | assumption | exact row_last | exact getRow_app (by first | assumption | exact row_last))); (· rfl)) | ((with_reducible apply s_bld3))
  · have hkl : (kidsW r at_ q).length = q := by simp [kidsW]
    refine tFct.pushK (x := (r[q + 1], at_[q + 1 - 1], at_[q + 1])) (by omega) a rfl rfl (by omega) (by omega) (by repeat first | exact keptB_nil | (with_reducible refine keptB_other rfl ?_) | refine keptB_other rfl ?_ | refine keptB_ptr (by first | omega | (simp; done) | (simp; omega)) ?_) (by repeat first | exact keptB_nil | (with_reducible refine keptB_other rfl ?_) | refine keptB_other rfl ?_ | refine keptB_ptr (by first | omega | (simp; done) | (simp; omega)) ?_) fun v' g2 a2 _ _ _ => ?_
    repeat' first | ((with_reducible apply s_inc); (· omega))
    refine ⟨_, ?_, gcL_same ⟨q + 1, v', g2, rfl, rfl, by rw [kidsW_succ, getD_at (by omega), getD_at (by omega), getD_at (by omega)]; exact a2, by omega, rfl⟩⟩
    omega
  · have e : q = r.length - 1 := by omega
    subst e
    exact tFct.done (by omega) a rfl hB0 hq

end Go.Ax

namespace Go.Ax
open Go Go.Proofs Go.RowKit

section
variable (g : Gr) (n : Nat) (l : List Fct)
def kidsX (x : Fct) : List Fct := (waysF g n l x).flatMap (kidsF g.rules x.1)
def putFs (a xs : List Fct) : List Fct := xs.foldl putF a
/-- The first fact whose kids are not all there: they are put; none: all is there. -/
def passGo (a : List Fct) : List Fct → List Fct
  | [] => a
  | x :: xs => if (putFs a (kidsX g n l x)).length ≠ a.length then putFs a (kidsX g n l x) else passGo a xs
def passF (a : List Fct) : List Fct := passGo g n l a a
def knotF (x : Fct) : Kt := ⟨x.1, x.2.1, x.2.2, waysF g n l x⟩
end
theorem putFs_app {a xs ys : List Fct} : putFs a (xs ++ ys) = putFs (putFs a xs) ys := List.foldl_append
theorem mem_putFs {y : Fct} : ∀ {xs a : List Fct}, y ∈ putFs a xs ↔ y ∈ a ∨ y ∈ xs
  | [], a => by simp [putFs]
  | x :: xs, a => by
    have : putFs a (x :: xs) = putFs (putF a x) xs := rfl
    rw [this, mem_putFs (xs := xs), mem_putF, List.mem_cons, or_assoc]
theorem putFs_grow : ∀ {xs a : List Fct}, SrtF a → SrtF (putFs a xs) ∧ GrowF a (putFs a xs)
  | [], a, h => ⟨h, .inl rfl⟩
  | x :: xs, a, h => by
    have := putFs_grow (xs := xs) (putF_srt (x := x) h)
    exact ⟨this.1, (GrowF.put h).trans this.2⟩
theorem putFs_same {a xs : List Fct} (h : SrtF a) (hl : (putFs a xs).length = a.length) : putFs a xs = a := by
  rcases (putFs_grow (xs := xs) h).2 with q | q
  · exact q
  · omega
theorem FInv.putFs {m n : Nat} : ∀ {xs a : List Fct}, FInv m n a → (∀ x ∈ xs, boxF m n x) → FInv m n (putFs a xs)
  | [], _, h, _ => h
  | x :: xs, _, h, hx => FInv.putFs (xs := xs) (h.put (hx x (by simp))) fun y hy => hx y (by simp [hy])

theorem kidsW_cons {y : Int} : ∀ {row ps : List Int} {p : Int}, ps.length = row.length → kidsW (y :: row) (p :: ps) row.length = factsL row p ps
  | [], [], _, _ => rfl
  | x :: row, q :: ps, p, h => by
    have ih := kidsW_cons (y := x) (row := row) (ps := ps) (p := q) (by simpa using h)
    rw [factsL, ← ih]
    unfold kidsW
    rw [List.length_cons, List.range_succ_eq_map, List.map_cons, List.map_map]
    rfl
  | [], _ :: _, _, h => by cases h
  | _ :: _, [], _, h => by cases h
theorem kidsW_facts {r ps : List Int} {p : Int} (h0 : 0 < r.length) (h : ps.length = (r.drop 1).length) : kidsW r (p :: ps) (r.length - 1) = factsL (r.drop 1) p ps := by
  cases r with
  | nil => simp at h0
  | cons y row => exact kidsW_cons (by simpa using h)
/-- What a way of a rule is. -/
theorem mem_ruleW {l : List Fct} (up : ∀ f ∈ l, f.2.1 ≤ f.2.2) {x : Fct} {k : Nat} {r : List Int} {w : Wy} :
    w ∈ ruleW l x k r ↔ r.getD 0 0 = x.1 ∧ ∃ ps, w = ⟨(k : Int), x.2.1 :: ps⟩ ∧ PthL (fun f => f ∈ l ∧ f.2.2 ≤ x.2.2) (r.drop 1) x.2.1 ps ∧ (x.2.1 :: ps).getLastD 0 = x.2.2 := by
  unfold ruleW
  split
  · rename_i h
    unfold waysOf
    simp only [List.mem_map, List.mem_filter, decide_eq_true_eq, mem_splitF up]
    constructor
    · rintro ⟨a, ⟨⟨ps, rfl, hp⟩, he⟩, rfl⟩
      exact ⟨h, ps, rfl, hp, he⟩
    · rintro ⟨_, ps, rfl, hp, he⟩
      exact ⟨_, ⟨⟨ps, rfl, hp⟩, he⟩, rfl⟩
  · rename_i h
    exact ⟨fun q => (by cases q), fun q => absurd q.1 h⟩
theorem wayOk_neg {R : List (List Int)} {s : Int} {a : List Int} : ¬ wayOk R s ⟨-1, a⟩ := fun h => by have := h.1; simp at this
theorem wayOk_rule {R : List (List Int)} {x : Fct} {k : Nat} {ps : List Int} (hk : k < R.length) (h0 : 0 < R[k].length) (hs : R[k].getD 0 0 = x.1) (hp : ps.length = (R[k].drop 1).length) : wayOk R x.1 ⟨(k : Int), x.2.1 :: ps⟩ := by
  unfold wayOk
  simp only [Int.toNat_natCast, getD_at hk]
  rw [List.length_drop] at hp
  refine ⟨by omega, by omega, h0, hs, ?_⟩
  simp; omega
theorem kidsF_rule {R : List (List Int)} {x : Fct} {k : Nat} {ps : List Int} (hk : k < R.length) (h0 : 0 < R[k].length) (hs : R[k].getD 0 0 = x.1) (hp : ps.length = (R[k].drop 1).length) : kidsF R x.1 ⟨(k : Int), x.2.1 :: ps⟩ = factsL (R[k].drop 1) x.2.1 ps := by
  unfold kidsF
  rw [if_pos (wayOk_rule hk h0 hs hp)]
  simp only [Int.toNat_natCast, getD_at hk]
  exact kidsW_facts h0 hp
theorem mem_rulesW {l : List Fct} {R : List (List Int)} {x : Fct} {w : Wy} : w ∈ rulesW l R x R.length ↔ ∃ (k : Nat) (hk : k < R.length), w ∈ ruleW l x k R[k] := by
  unfold rulesW
  simp only [List.mem_flatMap, List.mem_range]
  constructor
  · rintro ⟨k, hk, h⟩; exact ⟨k, hk, by rwa [getD_at hk] at h⟩
  · rintro ⟨k, hk, h⟩; exact ⟨k, hk, by rwa [getD_at hk]⟩
theorem tok_neg {x : Fct} {k : Nat} {w : Wy} (h : w ∈ toksW x k) : w.rule = -1 := by
  unfold toksW at h
  obtain ⟨i, _, h⟩ := List.mem_flatMap.1 h
  unfold tokW at h
  split at h
  · rw [List.mem_singleton.1 h]
  · cases h
/-- Kids are facts. -/
theorem kids_in {g : Gr} {n : Nat} {l : List Fct} (up : ∀ f ∈ l, f.2.1 ≤ f.2.2) (h0 : ∀ r ∈ g.rules, 0 < r.length) {x : Fct} {w : Wy} (hw : w ∈ waysF g n l x) {f : Fct} (hf : f ∈ kidsF g.rules x.1 w) : f ∈ l := by
  unfold waysF at hw
  split at hw
  · have := tok_neg hw
    obtain ⟨r, a⟩ := w
    dsimp only at this; subst this
    unfold kidsF at hf
    rw [if_neg wayOk_neg] at hf
    cases hf
  · obtain ⟨k, hk, hw⟩ := mem_rulesW.1 hw
    obtain ⟨h1, ps, rfl, h2, _⟩ := (mem_ruleW up).1 hw
    rw [kidsF_rule hk (h0 _ (List.getElem_mem hk)) h1 h2.len] at hf
    exact (h2.facts f hf).1
theorem kidsX_in {g : Gr} {n : Nat} {l : List Fct} (up : ∀ f ∈ l, f.2.1 ≤ f.2.2) (h0 : ∀ r ∈ g.rules, 0 < r.length) {x f : Fct} (hf : f ∈ kidsX g n l x) : f ∈ l := by
  obtain ⟨w, hw, hf⟩ := List.mem_flatMap.1 hf
  exact kids_in up h0 hw hf
theorem passGo_sub {g : Gr} {n : Nat} {l : List Fct} {a : List Fct} : ∀ {xs : List Fct}, (∀ x ∈ xs, (putFs a (kidsX g n l x)).length = a.length) → passGo g n l a xs = a
  | [], _ => rfl
  | x :: xs, h => by rw [passGo, if_neg (by simpa using h x (by simp))]; exact passGo_sub fun y hy => h y (by simp [hy])
/-- Nothing more to be put: closed. -/
theorem passGo_fix {g : Gr} {n : Nat} {l : List Fct} {a : List Fct} (hs : SrtF a) : ∀ {xs : List Fct}, passGo g n l a xs = a → ∀ x ∈ xs, ∀ f ∈ kidsX g n l x, f ∈ a
  | [], _, x, hx, _, _ => by cases hx
  | y :: xs, h, x, hx, f, hf => by
    rw [passGo] at h
    split at h
    · rename_i q; rw [h] at q; exact absurd rfl q
    · rename_i q
      rcases List.mem_cons.1 hx with rfl | hx
      · rw [← putFs_same hs (by simpa using q)]; exact mem_putFs.2 (.inr hf)
      · exact passGo_fix hs h x hx f hf

end Go.Ax

namespace Go.Ax
open Go Go.Proofs Go.RowKit

theorem s_bldK {a : Int} {w : List Wy} {z1 z2 z3 z4 : Value} {K : Value → Prop} (k : K (.agg #[.int .i64 a, z2, z3, lit (w.map Wy.enc)])) : oW (bldW [z1, z2, z3, z4] [(0, 1, .int .i64 a), (3, 1, lit (w.map Wy.enc))]) K := by
  refine ⟨_, ?_, k⟩; simp [writeL]
theorem s_bldK4 {a b c : Int} {w : List Wy} {z1 z2 z3 z4 : Value} {K : Value → Prop} (k : K (Kt.enc ⟨a, b, c, w⟩)) : oW (bldW [z1, z2, z3, z4] [(0, 1, .int .i64 a), (1, 1, .int .i64 b), (2, 1, .int .i64 c), (3, 1, lit (w.map Wy.enc))]) K := by
  refine ⟨_, ?_, k⟩; simp [writeL]

structure BOk (g : Gr) (n : Nat) (l : List Fct) : Prop where
  ok : g.ok
  t0 : 0 < g.terms
  gok : GOk g n
  inv : FInv g.n n l
  cnt : ∀ r ∈ g.rules, (n + 1) ^ (r.drop 1).length ≤ 1000000
theorem BOk.fin {g : Gr} {n : Nat} {l : List Fct} (b : BOk g n l) : g.Fin := by
  have : g.names.length ≤ 128 := b.ok.nn
  have := b.ok.nn
  have := b.ok.rr
  have := b.ok.tk
  have := b.ok.tn
  exact ⟨by omega, by omega, by omega, fun r hr => by have := (b.ok.fit r hr).2.1; omega⟩
theorem BOk.wok {g : Gr} {n : Nat} {l : List Fct} (b : BOk g n l) {x : Fct} (hx : boxF g.n n x) : WOk g l x := by
  obtain ⟨hn, hgn⟩ := b.gok.n_le
  have h1 := b.inv.len
  have h2 := b.gok.small
  have h3 := b.ok.rr
  have h4 := b.ok.nn
  unfold boxF at hx
  refine ⟨by omega, b.inv.inF (by omega) (by omega), by omega, fun r hr => ⟨(b.ok.fit r hr).1, by have := (b.ok.fit r hr).2.1; omega, fun y hy => ?_⟩, by omega, by omega, by omega, fun r hr => ?_⟩
  · have := (b.ok.fit r hr).2.2.2 y hy
    unfold inR at this; unfold inI; omega
  · refine Nat.le_trans (Nat.pow_le_pow_left ?_ _) (b.cnt r hr)
    omega
theorem BOk.kids_box {g : Gr} {n : Nat} {l : List Fct} (b : BOk g n l) {x f : Fct} (hf : f ∈ kidsX g n l x) : boxF g.n n f :=
  b.inv.box _ (kidsX_in (fun f hf => (b.inv.box f hf).2.2.2.2.2.2) (fun r hr => (b.ok.fit r hr).1) hf)

theorem build_spec {g : Gr} {n : Nat} {l : List Fct} (b : BOk g n l) {h : Heap} {Q : Value → Heap → Prop} (hno : rootF g n ∉ l → Q (.tuple #[knots [], .int .i64 0]) h)
    (hq : rootF g n ∈ l → ∀ ks r, ks = itr (passF g n l) r [rootF g n] → FInv g.n n ks → passF g n l ks = ks → Q (.tuple #[knots (ks.map (knotF g n l)), .int .i64 0]) h) :
    acall Try.prog F_homographref27_Build [g.enc, lineV n, facts l, .int .i64 10000] h Q := by
  obtain ⟨hn, hgn⟩ := b.gok.n_le
  have hll := b.inv.len
  have hsm := b.gok.small
  have hinF := b.inv.inF (by omega) (by omega)
  apply W_homographref27_Build_ok
  unfold W_homographref27_Build
  rw [box_gr, hW_some, box_line, hW_some]
  have ag : getRow (h ++ [grow g] ++ [lrow n]) h.length = some (g.cells, .exact) := getRow_app row_last
  have al : getRow (h ++ [grow g] ++ [lrow n]) (h ++ [grow g]).length = some (lineC n, .exact) := row_last
  have hT : h ++ [grow g] ++ [lrow n] = h ++ [grow g, lrow n] := by simp
  rw [hT] at ag al ⊢
  have hlg : h.length < (h ++ [grow g, lrow n]).length := by simp
  have hln : (h ++ [grow g]).length < (h ++ [grow g, lrow n]).length := by simp
  repeat' first | ((with_reducible apply s_rowA); (· first | assumption | exact row_last | exact getRow_app (by first | assumption | exact row_last | exact getRow_app (by first | assumption | exact row_last))); (· rfl)) | ((with_reducible apply s_call))
  refine right_spec b.ok b.t0 b.fin (by omega) ?_
  refine ⟨fun vs H => vs = [facts l, .int .i64 10000, .pointer (some ⟨h.length, 0, none⟩), .pointer (some ⟨(h ++ [grow g]).length, 0, none⟩)] ∧ H = h ++ [grow g, lrow n], ?_, ?_⟩
  · repeat' first | ((with_reducible apply s_lss)) | ((with_reducible apply s_not)) | ((with_reducible apply s_br) <;> intro hb <;> try (exfalso; omega)) | ((with_reducible apply s_brB) <;> intro hb <;> try contradiction)
    exact gcL_same ⟨rfl, rfl⟩
  rintro x12 x13 x14 x15 h16 ⟨hv, rfl⟩
  replace hv := hv.symm
  simp only [List.cons.injEq, and_true] at hv
  obtain ⟨rfl, rfl, rfl, rfl⟩ := hv
  repeat' first | ((with_reducible apply s_rowA); (· first | assumption | exact row_last | exact getRow_app (by first | assumption | exact row_last | exact getRow_app (by first | assumption | exact row_last))); (· rfl)) | ((with_reducible apply s_call))
  refine root_spec ?_
  have hr0 : inF (rootF g n) := by
    have := b.ok.st
    unfold Gr.made inR at this
    have := b.ok.t0
    unfold inF inI; dsimp only; omega
  repeat' first | ((with_reducible apply s_rowA); (· first | assumption | exact row_last | exact getRow_app (by first | assumption | exact row_last | exact getRow_app (by first | assumption | exact row_last))); (· rfl)) | ((with_reducible apply s_call)) | ((with_reducible apply s_let)) | ((with_reducible apply s_stA); (· rfl); (· rfl); (· rfl))
  refine has_spec (x := rootF g n) (by omega) hinF hr0 ?_
  have ag1 := getRow_app (t := [frow (rootF g n)]) ag
  have al1 := getRow_app (t := [frow (rootF g n)]) al
  have ht1 : ∃ t, h ++ [grow g, lrow n] ++ [frow (rootF g n)] = h ++ t := ⟨_, List.append_assoc _ _ _⟩
  repeat' first | ((with_reducible apply s_not)) | ((with_reducible apply s_brB) <;> intro hb <;> try contradiction) | ((with_reducible apply s_rowA); (· first | assumption | exact row_last | exact getRow_app (by first | assumption | exact row_last | exact getRow_app (by first | assumption | exact row_last))); (· rfl))
  · exact gcV_frz ht1 (fun fr r hf => .tup2 (.lit0 _ _) (.cl (.int _ _))) (hno (by simpa using hb))
  have hin : rootF g n ∈ l := by simpa using hb
  refine tFct.lit1 (x := rootF g n) rfl fun v28 a28 => ?_
  have ht2 : ∃ t, h ++ [grow g, lrow n] ++ [frow (rootF g n)] ++ [AObj.row (cellsOf (Fct.enc (rootF g n))) .exact] = h ++ t := ⟨_, by rw [List.append_assoc, List.append_assoc]⟩
  have iv0 : FInv g.n n [rootF g n] := FInv.nil.put (b.inv.box _ hin)
  refine ⟨fun m vs H => ∃ (r many : Nat) (ks : List Fct) (T : Heap), vs = [facts l, .int .i64 10000, plit g.cells, plit (lineC n), facts ks, natV many] ∧ H = h ++ T ∧ ks = itr (passF g n l) r [rootF g n] ∧ FInv g.n n ks ∧ (many = ks.length → passF g n l ks = ks) ∧
    0 < ks.length ∧ m = if many = ks.length then 0 else 10001 - ks.length, _, gcL_frz (vs2 := [facts l, .int .i64 10000, plit g.cells, plit (lineC n), facts [rootF g n], natV 0]) ht2 (fun fr r hf => ⟨.cl cl_facts, .cl (.int _ _), .box (hf _ (by simp)) (getRow_app ag1) grow_cl, .box (hf _ (by simp)) (getRow_app al1) line_cl, a28.gvF tFct (by omega) (by simp) hf, .cl (.int _ _), trivial⟩)
      ⟨0, 0, [rootF g n], [], rfl, (List.append_nil _).symm, rfl, iv0, (fun q => by cases q), by simp, rfl⟩, ?_⟩
  clear ht2 a28 ht1 al1 ag1 ag al hT hlg hln
  rintro m x0 x1 x2 x3 x4 x5 H ⟨r, many, ks, T, hv, rfl, hks, iv, hfix, h1, rfl⟩
  replace hv := hv.symm
  simp only [List.cons.injEq, and_true] at hv
  obtain ⟨rfl, rfl, rfl, rfl, rfl, rfl⟩ := hv
  have hkl := iv.len
  repeat' first | ((with_reducible apply s_gtr)) | ((with_reducible apply s_neq)) | ((with_reducible apply s_br) <;> intro hb <;> try (exfalso; omega)) | ((with_reducible apply s_lenM))
  · rw [if_neg (by omega)]
    refine ⟨fun m vs H => ∃ (i : Nat) (T : Heap), vs = [facts l, .int .i64 10000, plit g.cells, plit (lineC n), facts ks, natV ks.length, natV i] ∧ H = h ++ T ∧ passF g n l ks = passGo g n l ks (ks.drop i) ∧ i ≤ ks.length ∧ m = ks.length - i, _, gcL_same ⟨0, T, rfl, rfl, by rw [List.drop_zero]; rfl, by omega, rfl⟩, ?_⟩
    rintro m x0 x1 x2 x3 x4 x5 x6 H ⟨i, T, hv, rfl, hp, hi, rfl⟩
    replace hv := hv.symm
    simp only [List.cons.injEq, and_true] at hv
    obtain ⟨rfl, rfl, rfl, rfl, rfl, rfl, rfl⟩ := hv
    repeat' first | ((with_reducible apply s_lss)) | ((with_reducible apply s_br) <;> intro hb <;> try (exfalso; omega)) | ((with_reducible refine s_ix (by omega) ?_ ?_); (· rfl)) | ((with_reducible apply s_fap); (· rfl)) | ((with_reducible apply s_lda); (· rfl); (· rfl)) | ((with_reducible apply s_ldA); (· rfl))
    rotate_left
    · have e : i = ks.length := by omega
      subst e
      rw [List.drop_length, passGo] at hp
      refine ⟨_, ?_, gcL_same ⟨r, ks.length, ks, T, rfl, rfl, hks, iv, fun _ => hp, h1, rfl⟩⟩
      rw [if_pos rfl]; omega
    have hil : i < ks.length := by omega
    have hxb := iv.box _ (List.getElem_mem hil)
    have wok := b.wok hxb
    rw [List.drop_eq_getElem_cons hil, passGo] at hp
    generalize hx : ks[i] = x at hp wok hxb
    refine ⟨trivial, ?_⟩
    repeat' first | ((with_reducible apply s_call))
    refine ways_spec (g := g) (n := n) (l := l) (x := x) (by omega) wok ?_
    repeat' first | refine s_bldK ?_ | ((with_reducible apply s_let)) | ((with_reducible apply s_stA); (· rfl); (· rfl); (· rfl)) | ((with_reducible apply s_kept)) | ((with_reducible apply s_keptN); (· exact (by repeat first | exact keptB_nil | (with_reducible refine keptB_other rfl ?_) | refine keptB_other rfl ?_ | refine keptB_ptr (by first | omega | (simp; done) | (simp; omega)) ?_)))
    have hW : (waysF g n l x).length ≤ 256000000 := by
      have h1 := toksW_len (x := x) (k := n)
      have h2 := rulesW_len wok (Nat.le_refl _)
      have h3 := b.ok.rr
      unfold waysF; split <;> omega
    generalize hWe : waysF g n l x = W at hW
    have ak : getRow (h ++ T ++ [.row [.int .i64 x.1, .int .i64 0, .int .i64 0, lit (W.map Wy.enc)] .exact]) _ = some _ := row_last
    generalize (h ++ T).length = pk at ak ⊢
    refine ⟨fun m vs H => ∃ (j : Nat) (k2 : List Fct) (T : Heap), vs = [facts l, .int .i64 10000, plit g.cells, plit (lineC n), facts k2, natV ks.length, natV i, .pointer (some ⟨pk, 0, none⟩), natV j] ∧ H = h ++ T ∧
      getRow (h ++ T) pk = some ([.int .i64 x.1, .int .i64 0, .int .i64 0, lit (W.map Wy.enc)], .exact) ∧ k2 = putFs ks ((W.take j).flatMap (kidsF g.rules x.1)) ∧ FInv g.n n k2 ∧ j ≤ W.length ∧ m = W.length - j, _, gcL_same ⟨0, ks, T ++ _, rfl, List.append_assoc _ _ _, by rw [← List.append_assoc]; exact ak, rfl, iv, by omega, rfl⟩, ?_⟩
    clear ak T
    rintro m x0 x1 x2 x3 x4 x5 x6 x7 x8 H ⟨j, k2, T, hv, rfl, ak, hk2, iv2, hj, rfl⟩
    replace hv := hv.symm
    simp only [List.cons.injEq, and_true] at hv
    obtain ⟨rfl, rfl, rfl, rfl, rfl, rfl, rfl, rfl, rfl⟩ := hv
    have hk3 : j = W.length → k2 = putFs ks (kidsX g n l x) := fun e => by
      subst e
      rw [List.take_length, ← hWe] at hk2
      exact hk2
    have hlen2 := iv2.len
    repeat' first | ((with_reducible apply s_inc); (· omega)) | ((with_reducible apply s_lss)) | ((with_reducible apply s_neq)) | ((with_reducible apply s_br) <;> intro hb <;> try (exfalso; omega)) | ((with_reducible apply s_lenM)) | ((with_reducible apply s_ldA); (· rfl)) | ((with_reducible apply s_fld); (· first | assumption | exact row_last | exact getRow_app (by first | assumption | exact row_last | exact getRow_app (by first | assumption | exact row_last))); (· rfl)) | ((with_reducible apply s_rowA); (· first | assumption | exact row_last | exact getRow_app (by first | assumption | exact row_last | exact getRow_app (by first | assumption | exact row_last))); (· rfl)) | ((with_reducible apply s_call))
    rotate_left
    · have hk3 := hk3 (by omega)
      rw [← hk3, if_pos (by omega)] at hp
      have gr := (putFs_grow (xs := kidsX g n l x) iv.srt).2
      rw [← hk3] at gr
      have gr := gr.resolve_left fun q => by subst q; omega
      refine ⟨_, ?_, gcL_same ⟨r + 1, ks.length, k2, T, rfl, rfl, by rw [itr_succ, ← hks]; exact hp.symm, iv2, (fun q => by omega), by omega, rfl⟩⟩
      rw [if_neg (by omega)]
      omega
    · have hk3 := hk3 (by omega)
      rw [← hk3, if_neg (by omega)] at hp
      have gr := (putFs_grow (xs := kidsX g n l x) iv.srt).2
      rw [← hk3] at gr
      have : k2 = ks := gr.resolve_right (by omega)
      subst this
      refine ⟨_, ?_, gcL_same ⟨i + 1, T, rfl, rfl, hp, by omega, rfl⟩⟩
      omega
    have hjl : j < W.length := by omega
    have hkin : ∀ f ∈ kidsF g.rules x.1 W[j], f ∈ l := fun f hf => kids_in (fun f hf => (b.inv.box f hf).2.2.2.2.2.2) (fun r hr => (b.ok.fit r hr).1) (by rw [hWe]; exact List.getElem_mem hjl) hf
    refine kids27_spec (k := ⟨x.1, 0, 0, W⟩) (way := j) hjl (by dsimp only; omega) (by have := b.ok.rr; omega) (fun r hr => by have := (b.ok.fit r hr).2.1; omega) ?_
    have htk : (W.take (j + 1)).flatMap (kidsF g.rules x.1) = (W.take j).flatMap (kidsF g.rules x.1) ++ kidsF g.rules x.1 W[j] := by rw [take_succ' hjl, List.flatMap_append]; simp
    have hkl2 : (kidsF g.rules x.1 W[j]).length ≤ 1000 := by
      unfold kidsF
      split
      · rename_i q
        have hm : g.rules.getD W[j].rule.toNat [] ∈ g.rules := by
          have := q.2.1
          rw [getD_at (by have := q.1; omega)]; exact List.getElem_mem _
        have := (b.ok.fit _ hm).2.1
        unfold kidsW; rw [List.length_map, List.length_range]; omega
      · simp
    dsimp only
    generalize kidsF g.rules x.1 W[j] = K at hkin htk hkl2
    refine ⟨fun m vs H => ∃ (q : Nat) (k3 : List Fct) (T : Heap), vs = [facts l, .int .i64 10000, plit g.cells, plit (lineC n), facts k3, natV ks.length, natV i, .pointer (some ⟨pk, 0, none⟩), natV j, facts K, natV q] ∧ H = h ++ T ∧
      getRow (h ++ T) pk = some ([.int .i64 x.1, .int .i64 0, .int .i64 0, lit (W.map Wy.enc)], .exact) ∧ k3 = putFs k2 (K.take q) ∧ FInv g.n n k3 ∧ q ≤ K.length ∧ m = K.length - q, _, gcL_same ⟨0, k2, T, rfl, rfl, ak, rfl, iv2, by omega, rfl⟩, ?_⟩
    clear ak T
    rintro m x0 x1 x2 x3 x4 x5 x6 x7 x8 x9 x10 H ⟨q, k3, T, hv, rfl, ak, hk3, iv3, hq3, rfl⟩
    replace hv := hv.symm
    simp only [List.cons.injEq, and_true] at hv
    obtain ⟨rfl, rfl, rfl, rfl, rfl, rfl, rfl, rfl, rfl, rfl, rfl⟩ := hv
    repeat' first | ((with_reducible apply s_inc); (· omega)) | ((with_reducible apply s_lss)) | ((with_reducible apply s_br) <;> intro hb <;> try (exfalso; omega)) | ((with_reducible apply s_lenM)) | ((with_reducible refine s_ix (by omega) ?_ ?_); (· rfl)) | ((with_reducible apply s_lda); (· rfl); (· rfl)) | ((with_reducible apply s_call))
    · have hql : q < K.length := by omega
      have hKl := hkin _ (List.getElem_mem hql)
      have := iv3.len
      refine putFact_spec (x := K[q]) (by omega) (iv3.inF (by omega) (by omega)) (hinF _ hKl) ?_
      repeat' first | ((with_reducible apply s_inc); (· omega))
      refine ⟨_, ?_, gcL_same ⟨q + 1, _, T, rfl, rfl, ak, by rw [hk3]; exact (fold_take (f := putF) hql).symm, iv3.put (b.inv.box _ hKl), by omega, rfl⟩⟩
      omega
    · have e : q = K.length := by omega
      subst e
      rw [List.take_length] at hk3
      refine ⟨_, ?_, gcL_same ⟨j + 1, k3, T, rfl, rfl, ak, by rw [htk, putFs_app, ← hk2]; exact hk3, iv3, by omega, rfl⟩⟩
      omega

  have hmk : many = ks.length := by omega
  have hfix := hfix hmk
  refine ⟨fun m vs H => ∃ (i : Nat) (v : Value) (g' : Heap), vs = [facts l, plit g.cells, plit (lineC n), facts ks, v, natV i] ∧ H = h ++ g' ∧ Acc 4 h.length (h ++ g') v (((ks.take i).map (knotF g n l)).map Kt.enc) ∧ i ≤ ks.length ∧ m = ks.length - i, _, gcL_same ⟨0, _, T, rfl, rfl, .nil, by omega, rfl⟩, ?_⟩
  clear hmk T
  rintro m x0 x1 x2 x3 x4 x5 H ⟨i, v, g', hv, rfl, a, hi, rfl⟩
  replace hv := hv.symm
  simp only [List.cons.injEq, and_true] at hv
  obtain ⟨rfl, rfl, rfl, rfl, rfl, rfl⟩ := hv
  repeat' first | ((with_reducible apply s_lss)) | ((with_reducible apply s_br) <;> intro hb <;> try (exfalso; omega)) | ((with_reducible apply s_lenM)) | ((with_reducible refine s_ix (by omega) ?_ ?_); (· rfl)) | ((with_reducible apply s_fap); (· rfl)) | ((with_reducible apply s_lda); (· rfl); (· rfl)) | ((with_reducible apply s_ldA); (· rfl)) | ((with_reducible apply s_call))
  · have hil : i < ks.length := by omega
    have hxb := iv.box _ (List.getElem_mem hil)
    refine ways_spec (g := g) (n := n) (l := l) (x := ks[i]) (by omega) (b.wok hxb) ?_
    repeat' first | refine s_bldK4 ?_ | ((with_reducible apply s_kept))
    refine tKt.pushK (x := knotF g n l ks[i]) (by omega) a rfl rfl (by rw [List.length_map, List.length_take]; omega) (by rw [List.length_map, List.length_take]; omega) (by repeat first | exact keptB_nil | (with_reducible refine keptB_other rfl ?_) | refine keptB_other rfl ?_ | refine keptB_ptr (by first | omega | (simp; done) | (simp; omega)) ?_) (by repeat first | exact keptB_nil | (with_reducible refine keptB_other rfl ?_) | refine keptB_other rfl ?_ | refine keptB_ptr (by first | omega | (simp; done) | (simp; omega)) ?_) fun v' g2 a2 _ _ _ => ?_
    repeat' first | ((with_reducible apply s_inc); (· omega))
    refine ⟨_, ?_, gcL_same ⟨i + 1, v', g2, rfl, rfl, by rw [take_succ' hil, List.map_append]; exact a2, by omega, rfl⟩⟩
    omega
  · have e : i = ks.length := by omega
    subst e
    rw [List.take_length] at a
    exact gcV_frz ⟨g', rfl⟩ (fun fr r' hf => .tup2 (a.gvF tKt (by omega) (by omega) hf) (.cl (.int _ _))) (hq hin ks r hks iv hfix)

end Go.Ax

namespace Go.Ax
open Go Go.Proofs Go.RowKit

abbrev encF (E : List (Fct × Int)) : List (Value × Value) := E.map fun p => (Fct.enc p.1, .int .i64 p.2)
def mget : List (Fct × Int) → Fct → Option Int
  | [], _ => none
  | p :: E, k => if p.1 = k then some p.2 else mget E k
theorem lits90 {f : Fct} (hf : inF f) : ∃ l, aggLits Try.prog 90 (Fct.enc f) = some l := by
  have h1 : Try.prog.keyTypeAt 40 90 = true := by kernel_rfl
  have h2 : Try.prog.tiled 40 90 = true := by kernel_rfl
  have h3 : (Fct.enc f).formed Try.prog 90 = true := by kernel_rfl
  have h4 : threeI Try.prog 90 = true := by kernel_rfl
  have h5 : Try.prog.keyLits 41 90 [.int .i64 f.1, .int .i64 f.2.1, .int .i64 f.2.2] = some _ := keyLits_threeI h4 hf.1 hf.2.1 hf.2.2
  exact ⟨_, by
    simp only [aggLits]
    rw [if_pos ⟨h1, h2, h3⟩]
    exact h5⟩
def isMap90 : Option (TypeDesc × Value × Nat × Nat) → Bool
  | some (.map a b, _) => a == 90 && b == 3
  | _ => false
theorem isMap90_eq {x : Option (TypeDesc × Value × Nat × Nat)} (h : isMap90 x = true) : ∃ r, x = some (.map 90 3, r) := by
  unfold isMap90 at h
  split at h
  · simp only [Bool.and_eq_true, beq_iff_eq] at h
    obtain ⟨rfl, rfl⟩ := h
    exact ⟨_, rfl⟩
  · cases h
def isAgg3 : Option (TypeDesc × Value × Nat × Nat) → Bool
  | some (d, _) => isAggD d && !scalarD d
  | _ => false
theorem isAgg3_eq {x : Option (TypeDesc × Value × Nat × Nat)} (h : isAgg3 x = true) : ∃ d r, x = some (d, r) ∧ isAggD d = true ∧ scalarD d = false := by
  unfold isAgg3 at h
  split at h
  · simp only [Bool.and_eq_true, Bool.not_eq_true'] at h
    exact ⟨_, _, rfl, h.1, h.2⟩
  · cases h
def isInt3 : Option (TypeDesc × Value × Nat × Nat) → Bool
  | some (_, .int .i64 0, _) => true
  | _ => false
theorem isInt3_eq {x : Option (TypeDesc × Value × Nat × Nat)} (h : isInt3 x = true) : ∃ d r, x = some (d, .int .i64 0, r) := by
  unfold isInt3 at h
  split at h
  · exact ⟨_, _, rfl⟩
  · cases h
theorem afind_fct {d : TypeDesc} (hd : scalarD d = false) {k : Fct} (hk : inF k) : ∀ {E : List (Fct × Int)} {i : Nat}, (∀ p ∈ E, inF p.1) →
    (mget E k = none ∧ afind Try.prog 90 d (Fct.enc k) (encF E) i = some none) ∨ ∃ j v, mget E k = some v ∧ afind Try.prog 90 d (Fct.enc k) (encF E) i = some (some (j, .int .i64 v))
  | [], _, _ => .inl ⟨rfl, rfl⟩
  | p :: E, i, h => by
    obtain ⟨a, ha⟩ := lits90 hk
    obtain ⟨b, hb⟩ := lits90 (h p (by simp))
    have hs : sameK Try.prog 90 d (Fct.enc k) (Fct.enc p.1) = some (decide (p.1 = k)) := by
      unfold sameK
      rw [if_neg (by rw [hd]; decide), ha, hb]
      obtain ⟨x1, x2, x3⟩ := k
      obtain ⟨⟨y1, y2, y3⟩, v⟩ := p
      have : cellsEq [.int .i64 x1, .int .i64 x2, .int .i64 x3] [.int .i64 y1, .int .i64 y2, .int .i64 y3] = decide ((y1, y2, y3) = (x1, x2, x3)) := by
        rw [Bool.eq_iff_iff, decide_eq_true_eq]
        simp only [cellsEq, cellEq, Prod.mk.injEq, Bool.and_eq_true, beq_iff_eq, BEq.rfl, true_and, and_true]
        constructor
        · rintro ⟨rfl, rfl, rfl⟩; exact ⟨rfl, rfl, rfl⟩
        · rintro ⟨rfl, rfl, rfl⟩; exact ⟨rfl, rfl, rfl⟩
      exact congrArg some this
    simp only [encF, List.map_cons, afind, mget]
    rw [hs]
    by_cases q : p.1 = k
    · rw [decide_eq_true q, if_pos q]
      exact .inr ⟨i, p.2, rfl, rfl⟩
    · rw [decide_eq_false q, if_neg q]
      exact afind_fct hd hk (E := E) (i := i + 1) fun p hp => h p (by simp [hp])
theorem key90 {k : Fct} (hk : inF k) {d : TypeDesc} (h1 : isAggD d = true) : keyOk Try.prog 90 d (Fct.enc k) := by
  obtain ⟨a, ha⟩ := lits90 hk
  exact ⟨rfl, .inr ⟨h1, by rw [ha]; rfl⟩⟩
theorem lk_fct {H : Heap} {j : Nat} {E : List (Fct × Int)} {k : Fct} {K : Value → Prop} (e : getMap H j = some (encF E)) (hE : ∀ p ∈ E, inF p.1) (hk : inF k) (q : K (.tuple #[.int .i64 ((mget E k).getD 0), .bool (mget E k).isSome])) :
    oW (lookupA Try.prog H 88 (.map (some j)) (Fct.enc k) true) K := by
  obtain ⟨r, t1⟩ := isMap90_eq (show isMap90 (tinfo Try.prog 88) = true by kernel_rfl)
  obtain ⟨d, r2, t2, t3, t4⟩ := isAgg3_eq (show isAgg3 (tinfo Try.prog 90) = true by kernel_rfl)
  obtain ⟨d3, r3, t5⟩ := isInt3_eq (show isInt3 (tinfo Try.prog 3) = true by kernel_rfl)
  refine ⟨_, ?_, q⟩
  unfold lookupA
  rw [t1]; dsimp only
  rw [t2, t5]; dsimp only
  rw [if_pos (key90 hk t3), e]; dsimp only
  rcases afind_fct t4 hk (E := E) (i := 0) hE with ⟨m1, m2⟩ | ⟨i, v, m1, m2⟩
  · rw [m1, m2]; rfl
  · rw [m1, m2]; rfl
theorem up_fct {H : Heap} {j : Nat} {E : List (Fct × Int)} {k : Fct} {v : Int} {K : Heap → Prop} (e : getMap H j = some (encF E)) (hE : ∀ p ∈ E, inF p.1) (hk : inF k) (hn : mget E k = none) (q : K (H.set j (.map (encF (E ++ [(k, v)]))))) :
    sW (updateA Try.prog H 88 (.map (some j)) (Fct.enc k) (.int .i64 v)) K := by
  obtain ⟨r, t1⟩ := isMap90_eq (show isMap90 (tinfo Try.prog 88) = true by kernel_rfl)
  obtain ⟨d, r2, t2, t3, t4⟩ := isAgg3_eq (show isAgg3 (tinfo Try.prog 90) = true by kernel_rfl)
  refine ⟨_, ?_, q⟩
  unfold updateA
  rw [t1]; dsimp only
  rw [t2]; dsimp only
  rw [if_pos (key90 hk t3), e]; dsimp only
  rcases afind_fct t4 hk (E := E) (i := 0) hE with ⟨m1, m2⟩ | ⟨i, v, m1, m2⟩
  · rw [m2]; simp
  · rw [hn] at m1; cases m1
theorem mget_app {E : List (Fct × Int)} {k x : Fct} {v : Int} : mget (E ++ [(k, v)]) x = match mget E x with | some w => some w | none => if k = x then some v else none := by
  induction E with
  | nil => rfl
  | cons p E ih =>
    simp only [List.cons_append, mget]
    split
    · rfl
    · exact ih
/-- The map of the knots' places. -/
def atE (f : List Kt) (k : Nat) : List (Fct × Int) := (List.range k).foldl (fun E (i : Nat) => match f[i]? with | some x => if (mget E x.fct).isSome = true then E else E ++ [(x.fct, (i : Int))] | none => E) []
theorem atE_succ {f : List Kt} {k : Nat} (h : k < f.length) : atE f (k + 1) = if (mget (atE f k) f[k].fct).isSome = true then atE f k else atE f k ++ [(f[k].fct, (k : Int))] := by
  unfold atE
  rw [List.range_succ, List.foldl_append]
  simp only [List.foldl_cons, List.foldl_nil, List.getElem?_eq_getElem h]
theorem atE_get {f : List Kt} : ∀ {k : Nat}, k ≤ f.length → ∀ {x : Fct}, mget (atE f k) x = if x ∈ (f.take k).map Kt.fct then some (((f.take k).map Kt.fct).idxOf x : Int) else none
  | 0, _, x => by simp [atE, mget]
  | k + 1, h, x => by
    have ih := fun x => atE_get (f := f) (k := k) (by omega) (x := x)
    have hk : k < f.length := by omega
    have e : (f.take (k + 1)).map Kt.fct = (f.take k).map Kt.fct ++ [f[k].fct] := by rw [take_succ' hk, List.map_append]; rfl
    have hlen : ((f.take k).map Kt.fct).length = k := by rw [List.length_map, List.length_take]; omega
    rw [atE_succ hk, e]
    have hx := ih f[k].fct
    by_cases q : f[k].fct ∈ (f.take k).map Kt.fct
    · rw [if_pos q] at hx
      rw [if_pos (by rw [hx]; rfl), ih]
      by_cases q2 : x ∈ (f.take k).map Kt.fct
      · rw [if_pos q2, if_pos (List.mem_append.2 (.inl q2)), List.idxOf_append, if_pos q2]
      · rw [if_neg q2, if_neg fun z => by
          rcases List.mem_append.1 z with z | z
          · exact q2 z
          · rw [List.mem_singleton.1 z] at q2; exact q2 q]
    · rw [if_neg q] at hx
      rw [if_neg (by rw [hx]; decide), mget_app, ih]
      by_cases q2 : x ∈ (f.take k).map Kt.fct
      · rw [if_pos q2, if_pos (List.mem_append.2 (.inl q2)), List.idxOf_append, if_pos q2]
      · rw [if_neg q2]
        dsimp only
        by_cases q3 : f[k].fct = x
        · rw [if_pos q3, if_pos (by rw [q3]; simp), List.idxOf_append, if_neg q2, q3, List.idxOf_cons_self, hlen]; simp
        · rw [if_neg q3, if_neg fun z => by
            rcases List.mem_append.1 z with z | z
            · exact q2 z
            · exact q3 (List.mem_singleton.1 z).symm]
theorem atE_inF {f : List Kt} (h : ∀ x ∈ f, inF x.fct) : ∀ {k : Nat}, ∀ p ∈ atE f k, inF p.1
  | 0, p, hp => by simp [atE] at hp
  | k + 1, p, hp => by
    by_cases hk : k < f.length
    · rw [atE_succ hk] at hp
      split at hp
      · exact atE_inF h p hp
      · rcases List.mem_append.1 hp with hp | hp
        · exact atE_inF h p hp
        · rw [List.mem_singleton.1 hp]; exact h _ (List.getElem_mem hk)
    · have : atE f (k + 1) = atE f k := by
        unfold atE
        rw [List.range_succ, List.foldl_append]
        simp only [List.foldl_cons, List.foldl_nil, List.getElem?_eq_none (show f.length ≤ k by omega)]
      rw [this] at hp; exact atE_inF h p hp

end Go.Ax

namespace Go.Ax
open Go Go.Proofs Go.RowKit

/-- A forest whose ways' kids are all there. -/
structure FOk (g : Gr) (f : List Kt) : Prop where
  ways : ∀ k ∈ f, ∀ w ∈ k.ways, w.rule = -1 ∨ (wayOk g.rules k.sym w ∧ ∀ x ∈ kidsF g.rules k.sym w, x ∈ f.map Kt.fct)
  inf : ∀ k ∈ f, inF k.fct
  len : f.length ≤ 10000
  wlen : ∀ k ∈ f, k.ways.length ≤ 256000000
  nr : g.rules.length ≤ 1000000
  rl : ∀ r ∈ g.rules, r.length ≤ 1000000
theorem FOk.rule {g : Gr} {f : List Kt} (h : FOk g f) {k : Kt} {w : Wy} (hk : k ∈ f) (hw : w ∈ k.ways) (hr : w.rule ≠ -1) : ∃ (rn : Nat) (hrn : rn < g.rules.length), w.rule = rn ∧ 0 < g.rules[rn].length ∧ g.rules[rn].getD 0 0 = k.sym ∧ w.at_.length = g.rules[rn].length ∧ kidsF g.rules k.sym w = kidsW g.rules[rn] w.at_ (g.rules[rn].length - 1) := by
  obtain ⟨ok, _⟩ := (h.ways k hk w hw).resolve_left hr
  have ok2 := ok
  obtain ⟨h1, h2, h3, h4, h5⟩ := ok
  obtain ⟨rn, hrn⟩ := Int.eq_ofNat_of_zero_le h1
  have hlt : rn < g.rules.length := by omega
  have e : g.rules.getD w.rule.toNat [] = g.rules[rn] := by rw [hrn, Int.toNat_natCast]; exact getD_at hlt
  rw [e] at h3 h4 h5
  refine ⟨rn, hlt, hrn, h3, h4, h5, ?_⟩
  unfold kidsF
  rw [if_pos ok2, e]
abbrev kr (k : Kt) : List Value := [.int .i64 k.sym, .int .i64 k.from_, .int .i64 k.to_, lit (k.ways.map Wy.enc)]

theorem fkids_spec {g : Gr} {f : List Kt} (ok : FOk g f) {k : Kt} (hk : k ∈ f) {way : Nat} (hw : way < k.ways.length) (hr : k.ways[way].rule ≠ -1) {h : Heap} {Q : Value → Heap → Prop}
    (hq : Q (facts (kidsF g.rules k.sym k.ways[way])) h) : acall Try.prog F_forest_Kids [g.enc, k.enc, natV way] h Q := by
  have hwl := ok.wlen k hk
  have hnr := ok.nr
  apply W_forest_Kids_ok
  unfold W_forest_Kids
  rw [box_gr, hW_some]
  repeat' first | ((with_reducible apply s_box))
  have ag : getRow (h ++ [grow g] ++ [krow k]) h.length = some (g.cells, .exact) := getRow_app row_last
  have ak : getRow (h ++ [grow g] ++ [krow k]) (h ++ [grow g]).length = some (kr k, .exact) := row_last
  have hT : h ++ [grow g] ++ [krow k] = h ++ [grow g, krow k] := by simp
  rw [hT] at ag ak ⊢
  refine ⟨fun vs H => vs = [natV way, .pointer (some ⟨h.length, 0, none⟩), .pointer (some ⟨(h ++ [grow g]).length, 0, none⟩)] ∧ H = h ++ [grow g, krow k], ?_, ?_⟩
  · repeat' first | ((with_reducible apply s_lss)) | ((with_reducible apply s_geq)) | ((with_reducible apply s_br) <;> intro hb <;> try (exfalso; omega)) | ((with_reducible apply s_lenM)) | ((with_reducible apply s_fld); (· first | assumption | exact row_last | exact getRow_app (by first | assumption | exact row_last | exact getRow_app (by first | assumption | exact row_last))); (· rfl))
    exact gcL_same ⟨rfl, rfl⟩
  rintro x11 x12 x13 h14 ⟨hv, rfl⟩
  replace hv := hv.symm
  simp only [List.cons.injEq, and_true] at hv
  obtain ⟨rfl, rfl, rfl⟩ := hv
  obtain ⟨rn, hrn, hwr, hpos, hhd, hat, hkf⟩ := ok.rule hk (List.getElem_mem hw) hr
  rw [hkf] at hq
  have hrm := ok.rl _ (List.getElem_mem hrn)
  generalize hwe : k.ways[way] = w at hq hwr hat hkf
  obtain ⟨rule, at_⟩ := w
  dsimp only at hwr hat hq
  subst hwr
  generalize hre : g.rules[rn] = r at hpos hrm hhd hat hq
  have hg0 : r.getD 0 0 = r[0] := getD_at hpos
  have hwn : k.ways[way].rule = (rn : Int) := by rw [hwe]
  repeat' first | ((with_reducible apply s_lss)) | ((with_reducible apply s_geq)) | ((with_reducible apply s_br) <;> intro hb <;> try (exfalso; omega)) | ((with_reducible apply s_lenM)) | ((with_reducible refine s_ix (by omega) ?_ ?_); (· rfl)) | ((with_reducible apply s_lda); (· rfl); (· rfl)) | ((with_reducible apply s_fld); (· first | assumption | exact row_last | exact getRow_app (by first | assumption | exact row_last | exact getRow_app (by first | assumption | exact row_last))); (· rfl)) | ((with_reducible apply s_let)) | ((with_reducible apply s_stA); (· rfl); (· rfl); (· rfl))
  rw [hwe]
  repeat' first | ((with_reducible refine s_ix (by omega) ?_ ?_); (· rfl)) | ((with_reducible apply s_ld1); (· rfl))
  rw [hre]
  have ar : getRow (h ++ [grow g, krow k] ++ [.row [.int .i64 (rn : Int), ints at_] .exact]) _ = some _ := row_last
  have hB0 : ∃ t, h ++ [grow g, krow k] ++ [AObj.row [.int .i64 (rn : Int), ints at_] .exact] = h ++ t := ⟨_, List.append_assoc _ _ _⟩
  have ak := getRow_app (t := [.row [.int .i64 (rn : Int), ints at_] .exact]) ak
  generalize (h ++ [grow g, krow k]).length = pr at ar ⊢
  have hpr := getRow_lt ar
  generalize hB : h ++ [grow g, krow k] ++ [AObj.row [.int .i64 (rn : Int), ints at_] .exact] = B at ak ar hB0 hpr
  refine ⟨fun vs H => vs = [.pointer (some ⟨pr, 0, none⟩), ints r] ∧ H = B, ?_, ?_⟩
  · repeat' first | ((with_reducible apply s_eql)) | ((with_reducible apply s_neq)) | ((with_reducible apply s_br) <;> intro hb <;> try (exfalso; omega)) | ((with_reducible apply s_lenM)) | ((with_reducible refine s_ix0 (by omega) ?_ ?_); (· rfl)) | ((with_reducible apply s_ld1); (· rfl)) | ((with_reducible apply s_fld); (· first | assumption | exact row_last | exact getRow_app (by first | assumption | exact row_last | exact getRow_app (by first | assumption | exact row_last))); (· rfl))
    exact gcL_same ⟨rfl, rfl⟩
  rintro x43 x44 h45 ⟨hv, rfl⟩
  replace hv := hv.symm
  simp only [List.cons.injEq, and_true] at hv
  obtain ⟨rfl, rfl⟩ := hv
  refine tInt.sl1 (by omega) ?_
  have hrl : (r.drop 1).length = r.length - 1 := List.length_drop
  repeat' first | ((with_reducible apply s_lenM))
  generalize hBB : h45 = B at *
  refine ⟨fun m vs H => ∃ (q : Nat) (v : Value) (g' : Heap), vs = [.pointer (some ⟨pr, 0, none⟩), v, ints (r.drop 1), natV (r.drop 1).length, natV q] ∧ H = B ++ g' ∧ Acc 3 B.length (B ++ g') v ((kidsW r at_ q).map Fct.enc) ∧ q ≤ r.length - 1 ∧ m = r.length - q, _,
    gcL_same ⟨0, _, [], rfl, (List.append_nil _).symm, .nil, by omega, rfl⟩, ?_⟩
  rintro m x0 x1 x2 x3 x4 H ⟨q, v, g', hv, rfl, a, hk, rfl⟩
  replace hv := hv.symm
  simp only [List.cons.injEq, and_true] at hv
  obtain ⟨rfl, rfl, rfl, rfl, rfl⟩ := hv
  have ar := getRow_app (t := g') ar
  repeat' first | ((with_reducible apply s_inc); (· omega)) | ((with_reducible apply s_lss)) | ((with_reducible apply s_br) <;> intro hb <;> try (exfalso; omega)) | ((with_reducible refine s_ix (by omega) ?_ ?_); (· rfl)) | ((with_reducible apply s_ld1); (· rfl)) | ((with_reducible apply s_fld); (· first | assumption | exact row_last | exact getRow_app (by first | assumption | exact row_last | exact getRow_app (by first | assumption | exact row_last))); (· rfl)) | ((with_reducible apply s_bld3))
  · have hkl : (kidsW r at_ q).length = q := by simp [kidsW]
    refine tFct.pushK (x := ((r.drop 1)[q], at_[q], at_[q + 1])) (by omega) a rfl rfl (by omega) (by omega) (by repeat first | exact keptB_nil | (with_reducible refine keptB_other rfl ?_) | refine keptB_other rfl ?_ | refine keptB_ptr (by first | omega | (simp; done) | (simp; omega)) ?_) (by repeat first | exact keptB_nil | (with_reducible refine keptB_other rfl ?_) | refine keptB_other rfl ?_ | refine keptB_ptr (by first | omega | (simp; done) | (simp; omega)) ?_) fun v' g2 a2 _ _ _ => ?_
    repeat' first | ((with_reducible apply s_inc); (· omega))
    have hdk : (r.drop 1)[q] = r[q + 1] := by rw [List.getElem_drop]; congr 1; omega
    rw [hdk] at a2
    refine ⟨_, ?_, gcL_same ⟨q + 1, v', g2, rfl, rfl, by rw [kidsW_succ, getD_at (by omega), getD_at (by omega), getD_at (by omega)]; exact a2, by omega, rfl⟩⟩
    omega
  · have e : q = r.length - 1 := by omega
    subst e
    exact tFct.done (by omega) a rfl hB0 hq

/-- A way's kids, by their places. -/
def kidN (R : List (List Int)) (ks : List Fct) (sym : Int) (w : Wy) : List Nat := (kidsF R sym w).map fun x => ks.idxOf x
theorem tNats : Things 1 nats := tLit tNat

end Go.Ax

namespace Go.Ax
open Go Go.Proofs Go.RowKit

theorem kidsF_len {g : Gr} {f : List Kt} (ok : FOk g f) {sym : Int} {w : Wy} : (kidsF g.rules sym w).length ≤ 1000000 := by
  unfold kidsF
  split
  · rename_i q
    have hm : g.rules.getD w.rule.toNat [] ∈ g.rules := by
      have := q.2.1
      rw [getD_at (by have := q.1; omega)]; exact List.getElem_mem _
    have := ok.rl _ hm
    unfold kidsW; rw [List.length_map, List.length_range]; omega
  · simp
theorem kidsF_neg {R : List (List Int)} {sym : Int} {w : Wy} (h : w.rule = -1) : kidsF R sym w = [] := by
  unfold kidsF; rw [if_neg]; intro q; have := q.1; omega
theorem ckids_spec {g : Gr} {f : List Kt} (ok : FOk g f) {k : Kt} (hk : k ∈ f) {way : Nat} (hw : way < k.ways.length) {j : Nat} {h : Heap} (hm : getMap h j = some (encF (atE f f.length))) {Q : Value → Heap → Prop}
    (hq : Q (.tuple #[nats (kidN g.rules (f.map Kt.fct) k.sym k.ways[way]), .bool true]) h) : acall Try.prog F_count_kids [g.enc, k.enc, natV way, .map (some j)] h Q := by
  have hwl := ok.wlen k hk
  have hnr := ok.nr
  apply W_count_kids_ok
  unfold W_count_kids
  rw [box_gr, hW_some]
  repeat' first | ((with_reducible apply s_eql)) | ((with_reducible apply s_br) <;> intro hb <;> try (exfalso; omega)) | ((with_reducible refine s_ix (by omega) ?_ ?_); (· rfl)) | ((with_reducible apply s_lda); (· rfl); (· rfl)) | ((with_reducible apply s_fld); (· first | assumption | exact row_last | exact getRow_app (by first | assumption | exact row_last | exact getRow_app (by first | assumption | exact row_last))); (· rfl)) | ((with_reducible apply s_box)) | ((with_reducible apply s_let)) | ((with_reducible apply s_stA); (· rfl); (· rfl); (· rfl))
  have hB0 : ∃ t, h ++ [grow g] ++ [krow k] ++ [.row [.int .i64 k.ways[way].rule, ints k.ways[way].at_] .exact] = h ++ t := ⟨_, by rw [List.append_assoc, List.append_assoc]⟩
  · refine gcV_frz hB0 (fun fr r hf => .tup2 (.lit0 _ _) (.cl (.bool _))) ?_
    unfold kidN at hq
    rw [kidsF_neg hb] at hq
    exact hq
  have hB0 : ∃ t, h ++ [grow g] ++ [krow k] ++ [.row [.int .i64 k.ways[way].rule, ints k.ways[way].at_] .exact] = h ++ t := ⟨_, by rw [List.append_assoc, List.append_assoc]⟩
  obtain ⟨rn, hrn, hwr, hpos, hhd, hat, hkf⟩ := ok.rule hk (List.getElem_mem hw) hb
  have hkin : ∀ x ∈ kidsF g.rules k.sym k.ways[way], x ∈ f.map Kt.fct := ((ok.ways k hk _ (List.getElem_mem hw)).resolve_left hb).2
  have hkl := kidsF_len ok (sym := k.sym) (w := k.ways[way])
  have ag : getRow (h ++ [grow g] ++ [krow k] ++ [.row [.int .i64 k.ways[way].rule, ints k.ways[way].at_] .exact]) h.length = some (g.cells, .exact) := getRow_app (getRow_app row_last)
  have ak : getRow (h ++ [grow g] ++ [krow k] ++ [.row [.int .i64 k.ways[way].rule, ints k.ways[way].at_] .exact]) (h ++ [grow g]).length = some (kr k, .exact) := getRow_app row_last
  have am : getMap (h ++ [grow g] ++ [krow k] ++ [.row [.int .i64 k.ways[way].rule, ints k.ways[way].at_] .exact]) j = some (encF (atE f f.length)) := getMap_app (getMap_app (getMap_app hm))
  have ar : getRow (h ++ [grow g] ++ [krow k] ++ [.row [.int .i64 k.ways[way].rule, ints k.ways[way].at_] .exact]) (h ++ [grow g] ++ [krow k]).length = some ([.int .i64 k.ways[way].rule, ints k.ways[way].at_], .exact) := row_last
  have hl1 := getRow_lt ag
  have hl2 := getRow_lt ak
  have hl3 := getRow_lt ar
  generalize (h ++ [grow g] ++ [krow k]).length = pr at ar hl3 ⊢
  generalize (h ++ [grow g]).length = pk at ak hl2 ⊢
  generalize h ++ [grow g] ++ [krow k] ++ [AObj.row [.int .i64 k.ways[way].rule, ints k.ways[way].at_] .exact] = B at ag ak ar am hB0 hl1 hl2 hl3
  refine ⟨fun vs H => vs = [natV way, .map (some j), .pointer (some ⟨h.length, 0, none⟩), .pointer (some ⟨pk, 0, none⟩)] ∧ H = B, ?_, ?_⟩
  · have hg0 : g.rules[rn].getD 0 0 = g.rules[rn][0] := getD_at hpos
    rw [hwr] at ar
    repeat' first | ((with_reducible apply s_lss)) | ((with_reducible apply s_geq)) | ((with_reducible apply s_eql)) | ((with_reducible apply s_neq)) | ((with_reducible apply s_br) <;> intro hb <;> try (exfalso; omega)) | ((with_reducible apply s_lenM)) | ((with_reducible refine s_ix (by omega) ?_ ?_); (· rfl)) | ((with_reducible refine s_ix0 (by omega) ?_ ?_); (· rfl)) | ((with_reducible apply s_ld1); (· rfl)) | ((with_reducible apply s_fld); (· first | assumption | exact row_last | exact getRow_app (by first | assumption | exact row_last | exact getRow_app (by first | assumption | exact row_last))); (· rfl))
    exact gcL_same ⟨rfl, rfl⟩
  rintro x54 x55 x56 x57 h58 ⟨hv, rfl⟩
  replace hv := hv.symm
  simp only [List.cons.injEq, and_true] at hv
  obtain ⟨rfl, rfl, rfl, rfl⟩ := hv
  repeat' first | ((with_reducible apply s_rowA); (· first | assumption | exact row_last | exact getRow_app (by first | assumption | exact row_last | exact getRow_app (by first | assumption | exact row_last))); (· rfl)) | ((with_reducible apply s_call))
  refine fkids_spec ok hk hw hb ?_
  unfold kidN at hq
  generalize hK : kidsF g.rules k.sym k.ways[way] = K at hq hkin hkl
  repeat' first | ((with_reducible apply s_lenM))
  refine ⟨fun m vs H => ∃ (q : Nat) (v : Value) (g' : Heap), vs = [.map (some j), v, facts K, natV K.length, natV q] ∧ H = h58 ++ g' ∧ Acc 1 h58.length (h58 ++ g') v (((K.take q).map fun x => (f.map Kt.fct).idxOf x).map natV) ∧ q ≤ K.length ∧ m = K.length - q, _,
    gcL_same ⟨0, _, [], rfl, (List.append_nil _).symm, .nil, by omega, rfl⟩, ?_⟩
  rintro m x0 x1 x2 x3 x4 H ⟨q, v, g', hv, rfl, a, hqK, rfl⟩
  replace hv := hv.symm
  simp only [List.cons.injEq, and_true] at hv
  obtain ⟨rfl, rfl, rfl, rfl, rfl⟩ := hv
  repeat' first | ((with_reducible apply s_lss)) | ((with_reducible apply s_br) <;> intro hb <;> try (exfalso; omega)) | ((with_reducible refine s_ix (by omega) ?_ ?_); (· rfl)) | ((with_reducible apply s_lda); (· rfl); (· rfl)) | ((with_reducible apply s_fld); (· first | assumption | exact row_last | exact getRow_app (by first | assumption | exact row_last | exact getRow_app (by first | assumption | exact row_last))); (· rfl)) | ((with_reducible apply s_let)) | ((with_reducible apply s_stA); (· rfl); (· rfl); (· rfl)) | ((with_reducible apply s_bld3))
  · have hql : q < K.length := by omega
    have hin := hkin _ (List.getElem_mem hql)
    have hinf : ∀ p ∈ atE f f.length, inF p.1 := atE_inF fun x hx => ok.inf x hx
    have hkinf : inF K[q] := by
      obtain ⟨y, hy, e⟩ := List.mem_map.1 hin
      rw [← e]; exact ok.inf y hy
    have hget := atE_get (f := f) (Nat.le_refl _) (x := K[q])
    rw [List.take_length, if_pos hin] at hget
    refine lk_fct (E := atE f f.length) (k := K[q]) (by exact getMap_app (getMap_app am)) hinf hkinf ?_
    rw [hget]
    simp only [Option.isSome_some, Option.getD_some]
    repeat' first | ((with_reducible apply s_not)) | ((with_reducible apply s_brB) <;> intro hb <;> try contradiction) | ((with_reducible apply s_e20)) | ((with_reducible apply s_e21))
    rw [List.append_assoc]
    refine tNat.push (x := (f.map Kt.fct).idxOf K[q]) (bytes := 8) (by omega) a.appR rfl rfl (by rw [List.length_map, List.length_take]; omega) (by rw [List.length_map, List.length_take]; omega) fun v' g2 a2 _ _ _ => ?_
    repeat' first | ((with_reducible apply s_inc); (· omega))
    refine ⟨_, ?_, gcL_same ⟨q + 1, v', g2, rfl, rfl, by rw [take_succ' hql, List.map_append]; exact a2, by omega, rfl⟩⟩
    omega
  · have e : q = K.length := by omega
    subst e
    rw [List.take_length] at a
    exact gcV_frz (by obtain ⟨t, rfl⟩ := hB0; exact ⟨t ++ g', List.append_assoc _ _ _⟩) (fun fr r hf => .tup2 (a.gvF tNat (by omega) (by omega) hf) (.cl (.bool _))) hq

end Go.Ax
