/- Ax, rules 5: at a loop all is frozen but what is still to grow. -/
import Derived.Test.YtoaohmmdhmefpaaC4
namespace Go.Ax
open Go.RowKit

section
variable {fr : Nat → Prop} {r : Nat → Option Nat} {h : Heap}
theorem GvL.append : ∀ {xs ys : List Value}, GvL fr r h xs ys → ∀ {us ws : List Value}, GvL fr r h us ws → GvL fr r h (xs ++ us) (ys ++ ws)
  | [], [], _, _, _, e => e
  | _ :: _, _ :: _, e, _, _, e2 => ⟨e.1, GvL.append e.2 e2⟩
  | [], _ :: _, e, _, _, _ => e.elim
  | _ :: _, [], e, _, _, _ => e.elim
theorem GvL.flat : ∀ {xs ys : List Value}, xs.length = ys.length → (∀ (k : Nat) (p : k < xs.length) (q : k < ys.length), GvL fr r h (cellsOf xs[k]) (cellsOf ys[k])) → GvL fr r h (xs.flatMap cellsOf) (ys.flatMap cellsOf)
  | [], [], _, _ => trivial
  | x :: xs, y :: ys, hl, e => by
    rw [List.flatMap_cons, List.flatMap_cons]
    refine GvL.append (e 0 (by simp) (by simp)) (GvL.flat (by simpa using hl) fun k p q => ?_)
    have := e (k + 1) (by simpa using p) (by simpa using q)
    simpa using this
  | [], _ :: _, hl, _ => by cases hl
  | _ :: _, [], hl, _ => by cases hl
theorem GvL.und : ∀ {ys : List Value}, GvL fr r h (List.replicate ys.length und) ys
  | [] => trivial
  | y :: ys => ⟨.und y, GvL.und⟩
/-- A box is frozen. -/
theorem Gv.box {i : Nat} {c : List Value} {m : Md} (e : fr i) (hi : getRow h i = some (c, m)) (hc : ∀ x ∈ c, Cl x) : Gv fr r h (plit c) (.pointer (some ⟨i, 0, none⟩)) := by
  refine .frzP c.toArray i 0 c m e (getRow_eq hi) (by simp) fun j p q => ?_
  have : c[0 + j] = c[j]'(by simpa using p) := by congr 1; omega
  rw [this]
  exact .cl (hc _ (List.getElem_mem _))
end

/-- Of things that are still to grow the elements are told in another way; all else behind the first heap is frozen. -/
theorem gcL_acc1 {sz : Nat} {h g : Heap} {v : Value} {es es2 : List Value} {F : List Value → Heap → Prop} {vs : List Value} (a : Acc sz h.length (h ++ g) v es)
    (hz : ∀ x ∈ es, (cellsOf x).length = sz) (hz2 : ∀ x ∈ es2, (cellsOf x).length = sz) (hl : es2.length = es.length)
    (hc : ∀ fr r, (∀ i, h.length ≤ i → ¬ lies v i → fr i) → ∀ (k : Nat) (p : k < es2.length) (q : k < es.length), GvL fr r (h ++ g) (cellsOf es2[k]) (cellsOf es[k]))
    (k : ∀ fr r v' g', (∀ i, h.length ≤ i → ¬ lies v i → fr i) → Gv fr r (h ++ g) v' v → Acc sz h.length (h ++ g') v' es2 → ∃ vs2, GvL fr r (h ++ g) vs2 vs ∧ F vs2 (h ++ g')) : gcL h F vs (h ++ g) := by
  rcases a with ⟨rfl, rfl⟩ | ⟨i, cap, c, m, h1, rfl, h3, h4, h5, h6, h7⟩
  · have e2 : es2 = [] := List.length_eq_zero_iff.1 (by simpa using hl)
    subst e2
    obtain ⟨vs2, h8, h9⟩ := k (frOf h.length []) (rOf h.length []) (.slice none 0 0) [] (fun i hi _ => ⟨hi, by simp⟩) (.cl .nilS) .nil
    exact gcL_app [] [] .nil vs2 trivial h8 h9
  · have hlt := getRow_lt h3
    have hg : g[i - h.length]? = some (.row c m) := by
      have := getRow_eq h3
      rwa [List.getElem?_append_right h1] at this
    have lie : ∀ j, lies (.slice (some ⟨i, 0, none⟩) es.length cap) j ↔ j = i := fun j => ⟨fun ⟨o, x, y, q⟩ => by cases q; rfl, fun q => by subst q; exact ⟨0, _, _, rfl⟩⟩
    have hfr : ∀ j, h.length ≤ j → ¬ lies (.slice (some ⟨i, 0, none⟩) es.length cap) j → frOf h.length [i - h.length] j := fun j hj hq => ⟨hj, by
      rw [lie] at hq; simp; omega⟩
    have hr : rOf h.length [i - h.length] h.length = some i := by
      unfold rOf; rw [if_neg (by omega)]; simp; omega
    have len1 := flat_len hz
    have len2 := flat_len hz2
    have hle : es.length * sz ≤ c.length := by rw [h5]; exact Nat.mul_le_mul_right sz h6
    obtain ⟨vs2, h8, h9⟩ := k (frOf h.length [i - h.length]) (rOf h.length [i - h.length]) (.slice (some ⟨h.length, 0, none⟩) es2.length cap)
      [.row (es2.flatMap cellsOf ++ List.replicate (c.drop (es.length * sz)).length und) m] hfr (by rw [hl]; exact .slice _ _ _ _ _ hr)
      (.inr ⟨h.length, cap, _, m, Nat.le_refl _, rfl, row_app0.trans row_0, h4, by rw [List.length_append, len2, hl, List.length_replicate, List.length_drop]; omega, by omega, by rw [← len2, List.take_left]⟩)
    have e : c = es.flatMap cellsOf ++ c.drop (es.length * sz) := by rw [← h7, List.take_append_drop]
    have q := GvL.append (GvL.flat (fr := frOf h.length [i - h.length]) (r := rOf h.length [i - h.length]) (h := h ++ g) hl (hc _ _ hfr)) (GvL.und (fr := frOf h.length [i - h.length]) (r := rOf h.length [i - h.length]) (h := h ++ g) (ys := c.drop (es.length * sz)))
    rw [← e] at q
    refine gcL_app [.row (es2.flatMap cellsOf ++ List.replicate (c.drop (es.length * sz)).length und) m] [i - h.length] (by simp) vs2 ?_ h8 h9
    exact ⟨.inr ⟨_, hg, q, rfl⟩, trivial⟩

theorem cells_snoc {α : Type} {f : α → Value} {sz : Nat} (t : Things sz f) {fr : Nat → Prop} {r : Nat → Option Nat} {H : Heap} {l : List α} {e e2 : Value} (he : GvL fr r H (cellsOf e2) (cellsOf e)) :
    ∀ (k : Nat) (p : k < (l.map f ++ [e2]).length) (q : k < (l.map f ++ [e]).length), GvL fr r H (cellsOf (l.map f ++ [e2])[k]) (cellsOf (l.map f ++ [e])[k]) := by
  intro k p q
  by_cases h : k < (l.map f).length
  · rw [List.getElem_append_left h, List.getElem_append_left h]
    exact GvL.cl fun x hx => t.cls _ (List.getElem_mem h) x hx
  · rw [List.getElem_append_right (by omega), List.getElem_append_right (by omega)]
    simp only [List.getElem_singleton]
    exact he
theorem lens_snoc {α : Type} {f : α → Value} {sz : Nat} (t : Things sz f) {l : List α} {e : Value} (he : (cellsOf e).length = sz) : ∀ x ∈ l.map f ++ [e], (cellsOf x).length = sz := fun x hx => by
  rcases List.mem_append.1 hx with q | q
  · exact t.lens x q
  · rw [List.mem_singleton.1 q]; exact he
theorem cells_same {α : Type} {f : α → Value} {sz : Nat} (t : Things sz f) {fr : Nat → Prop} {r : Nat → Option Nat} {H : Heap} {l : List α} :
    ∀ (k : Nat) (p : k < (l.map f).length) (q : k < (l.map f).length), GvL fr r H (cellsOf (l.map f)[k]) (cellsOf (l.map f)[k]) := fun k p _ => GvL.cl fun x hx => t.cls _ (List.getElem_mem p) x hx
/-- At a loop all behind the first heap is frozen. -/
theorem gcL_frz {h H : Heap} {F : List Value → Heap → Prop} {vs vs2 : List Value} (hH : ∃ t, H = h ++ t) (gv : ∀ fr r, (∀ i, h.length ≤ i → fr i) → GvL fr r H vs2 vs) (hf : F vs2 h) : gcL h F vs H := by
  obtain ⟨t, rfl⟩ := hH
  exact gcL_app [] [] .nil vs2 trivial (gv _ _ fun i hi => ⟨hi, by simp⟩) (by rw [List.append_nil]; exact hf)
theorem gcV_frz {h H : Heap} {Q : Value → Heap → Prop} {v v2 : Value} (hH : ∃ t, H = h ++ t) (gv : ∀ fr r, (∀ i, h.length ≤ i → fr i) → Gv fr r H v2 v) (hf : Q v2 h) : gcV h Q v H := by
  obtain ⟨t, rfl⟩ := hH
  exact gcV_end (gv _ _ fun i hi => ⟨hi, by simp⟩) hf
theorem Acc.gvF {sz n : Nat} {H : Heap} {v : Value} {α : Type} {f : α → Value} {l : List α} (a : Acc sz n H v (l.map f)) (t : Things sz f) (hs : 0 < sz) {h : Heap} (hn : h.length ≤ n) {fr : Nat → Prop} {r : Nat → Option Nat} (hf : ∀ i, h.length ≤ i → fr i) : Gv fr r H (lit (l.map f)) v :=
  a.gv (fun i hi => hf i (Nat.le_trans hn (a.ge hi))) hs t.lens t.cls
theorem Gv.tup2 {fr : Nat → Prop} {r : Nat → Option Nat} {h : Heap} {a b a' b' : Value} (h1 : Gv fr r h a a') (h2 : Gv fr r h b b') : Gv fr r h (.tuple #[a, b]) (.tuple #[a', b']) := by
  refine .tuple _ _ (by simp) rfl fun i p q => ?_
  match i, p, q with
  | 0, _, _ => exact h1
  | 1, _, _ => exact h2
theorem Acc.appR {sz n : Nat} {h g t : Heap} {v : Value} {l : List Value} (a : Acc sz n (h ++ g) v l) : Acc sz n (h ++ (g ++ t)) v l := by rw [← List.append_assoc]; exact a.app
/-- Values that lie below a bound, if they lie anywhere. -/
def keptB (n : Nat) (vs : List Value) : Prop := ∀ x ∈ vs, ∀ r, ptrId x = some r → r < n
theorem keptB_nil {n : Nat} : keptB n [] := fun _ h => by cases h
theorem keptB_ptr {n i o : Nat} {s : Option Nat} {vs : List Value} (h : i < n) (k : keptB n vs) : keptB n (.pointer (some ⟨i, o, s⟩) :: vs) := fun x hx r hr => by
  rcases List.mem_cons.1 hx with rfl | hx
  · simp [ptrId] at hr; omega
  · exact k x hx r hr
theorem keptB_other {n : Nat} {v : Value} {vs : List Value} (h : ptrId v = none) (k : keptB n vs) : keptB n (v :: vs) := fun x hx r hr => by
  rcases List.mem_cons.1 hx with rfl | hx
  · rw [h] at hr; cases hr
  · exact k x hx r hr
theorem keptB.kept {n : Nat} {vs : List Value} (k : keptB n vs) {h h' : Heap} (e : ∀ j, j < n → h'[j]? = h[j]?) : keptW vs h h' := fun v hv r hr => e r (k v hv r hr)
theorem s_keptN {vs : List Value} {h h' : Heap} {C : Prop} (k : keptB 0 vs) (c : C) : keptW vs h h' ∧ C := ⟨k.kept fun j hj => by omega, c⟩
/-- One more, behind what was looked at. -/
theorem Things.pushK {α : Type} {f : α → Value} {sz : Nat} (t : Things sz f) (hs : 0 < sz) {bytes n : Nat} {B g : Heap} {v : Value} {l : List α} {x : α} {zs : List Value} {ws ws2 : List Value} {KH : Value → Heap → Prop} (a : Acc sz n (B ++ g) v (l.map f)) (hB : B.length = n) (hzs : zs.length = sz)
    (hb : (l.length + 1) * bytes ≤ 140737488355328) (h63 : l.length + 1 ≤ 9223372036854775807) (hw : keptB n ws) (hw2 : keptB n ws2)
    (k : ∀ v' g', Acc sz n (B ++ g') v' ((l ++ [x]).map f) → (∀ j, j < (B ++ g).length → ¬ lies v j → (B ++ g')[j]? = (B ++ g)[j]?) → (∀ j, lies v' j → lies v j ∨ (B ++ g).length ≤ j) → (B ++ g).length ≤ (B ++ g').length → KH v' (B ++ g')) :
    hW (bslW (B ++ g) 1 zs [(0, sz, f x)]) fun v1 h1 => keptW ws (B ++ g) h1 ∧ hW (apW sz bytes h1 v v1) fun v2 h2 => keptW ws2 h1 h2 ∧ KH v2 h2 := by
  subst hB
  refine bsl1 (t.len x) (t.okv x) hzs ⟨hw.kept fun j hj => by rw [List.append_assoc, List.getElem?_append_left hj, List.getElem?_append_left hj], ?_⟩
  have hsrc := src1 (H := B ++ g) (t.len x)
  rw [List.append_assoc] at hsrc ⊢
  refine Acc.more rfl (by rw [← List.append_assoc]; exact a.app) hs t.lens (es := [f x]) (by simpa using t.len x) (by simpa using t.okc x) hsrc (by simpa using hb) (by simpa using h63) fun v' g' a' f1 f2 f3 => ?_
  refine ⟨hw2.kept fun j hj => ?_, k v' g' (by rw [List.map_append]; exact a') (fun j hj hq => ?_) (fun j hj => ?_) (by simp at f3 ⊢; omega)⟩
  · exact f1 j (by simp; omega) fun q => by have := a.ge q; omega
  · rw [f1 j (by simp at hj ⊢; omega) hq, ← List.append_assoc, List.getElem?_append_left hj]
  · exact (f2 j hj).imp id fun q => by simp at q ⊢; omega
/-- A call that is given a thing that is still to grow: frozen. -/
theorem acall_frzA {P : Program} {f : FuncId} {Q : Value → Heap → Prop} {sz n : Nat} {B g : Heap} {v : Value} {l : List Value} (hB : B.length = n) (a : Acc sz n (B ++ g) v l) (hs : 0 < sz) (hz : ∀ x ∈ l, (cellsOf x).length = sz)
    (hcl : ∀ e ∈ l, ∀ x ∈ cellsOf e, Cl x) (pre post : List Value) (hpre : ∀ x ∈ pre, Cl x) (hpost : ∀ x ∈ post, Cl x)
    (k : ∀ g', (∀ j, ¬ lies v j → (B ++ g')[j]? = (B ++ g)[j]?) → g'.length = g.length → acall P f (pre ++ lit l :: post) (B ++ g') Q) : acall P f (pre ++ v :: post) (B ++ g) Q := by
  obtain ⟨fr, r, g', h1, h2, h3, h4, h5⟩ := a.frz hB hs hz hcl
  have q : GvL fr r (B ++ g) (lit l :: post) (v :: post) := ⟨h2, GvL.cl hpost⟩
  exact acall_frz h1 (GvL.append (GvL.cl hpre) q) (k g' h4 h5)
end Go.Ax
