/- Ax, rules 6: rows of rows that grow one behind the other. -/
import Derived.Test.YtoaohmmdhmefpaaC5
namespace Go.Ax
open Go.RowKit

theorem Acc.cell {sz n : Nat} {H : Heap} {v : Value} {l : List Value} (a : Acc sz n H v l) : okVal v = true ∧ cellsOf v = [v] ∧ okCell v = true := by
  rcases a with ⟨rfl, rfl⟩ | ⟨i, cap, c, m, h1, rfl, _⟩ <;> exact ⟨rfl, rfl, rfl⟩
theorem Acc.ltA {sz n : Nat} {H : Heap} {v : Value} {l : List Value} (a : Acc sz n H v l) {j : Nat} (hj : lies v j) : j < H.length := by
  obtain ⟨o, x, y, q⟩ := hj
  rcases a with ⟨rfl, rfl⟩ | ⟨i, cap, c, m, h1, rfl, h3, _⟩
  · cases q
  · cases q; exact getRow_lt h3
/-- Frozen rows, one that grows, and some that are nil still. -/
structure Grid {α : Type} (sz : Nat) (f : α → Value) (n : Nat) (H : Heap) (vout : Value) (done : List (List α)) (cur : Value) (curl : List α) (k : Nat) : Prop where
  out : Acc 1 n H vout (done.map (fun l => lit (l.map f)) ++ cur :: List.replicate k (.slice none 0 0))
  acc : Acc sz n H cur (curl.map f)
  apart : ∀ j, lies cur j → ¬ lies vout j
section
variable {α : Type} {sz : Nat} {f : α → Value} {n : Nat} {H : Heap} {vout cur : Value} {done : List (List α)} {curl : List α} {k : Nat}
theorem Grid.start (a : Acc 1 n H vout (done.map (fun l => lit (l.map f)) ++ List.replicate (k + 1) (.slice none 0 0))) : Grid sz f n H vout done (.slice none 0 0) [] k :=
  ⟨by rw [List.replicate_succ] at a; exact a, .nil, fun j ⟨_, _, _, q⟩ => by cases q⟩
theorem Grid.lens (G : Grid sz f n H vout done cur curl k) : ∀ x ∈ done.map (fun l => lit (l.map f)) ++ cur :: List.replicate k (.slice none 0 0), (cellsOf x).length = 1 := fun x hx => by
  rcases List.mem_append.1 hx with hx | hx
  · obtain ⟨y, _, rfl⟩ := List.mem_map.1 hx; rfl
  · rcases List.mem_cons.1 hx with rfl | hx
    · rw [G.acc.cell.2.1]; rfl
    · rw [(List.mem_replicate.1 hx).2]; rfl
theorem Grid.push (t : Things sz f) (hs : 0 < sz) {bytes i : Nat} {B g : Heap} {x : α} {zs : List Value} {K : Heap → Prop} (G : Grid sz f n (B ++ g) vout done cur curl k) (hB : B.length = n) (hi : done.length = i) (hzs : zs.length = sz)
    (hb : (curl.length + 1) * bytes ≤ 140737488355328) (h63 : curl.length + 1 ≤ 9223372036854775807)
    (q : ∀ cur' g', Grid sz f n (B ++ g') vout done cur' (curl ++ [x]) k → (∀ j, j < (B ++ g).length → ¬ lies vout j → ¬ lies cur j → (B ++ g')[j]? = (B ++ g)[j]?) → (∀ j, lies cur' j → lies cur j ∨ (B ++ g).length ≤ j) → K (B ++ g')) :
    oW (iaS 1 vout (natV i)) fun p => oW (ldW false 1 (B ++ g) p) fun c => hW (bslW (B ++ g) 1 zs [(0, sz, f x)]) fun v1 h1 => hW (apW sz bytes h1 c v1) fun v2 h2 => oW (iaS 1 vout (natV i)) fun p => sW (stW 1 h2 p v2) K := by
  have hl : i < (done.map (fun l => lit (l.map f)) ++ cur :: List.replicate k (.slice none 0 0)).length := by simp; omega
  have hg : (done.map (fun l => lit (l.map f)) ++ cur :: List.replicate k (.slice none 0 0))[i] = cur := by
    subst hi
    rw [List.getElem_append_right (by simp)]
    simp
  refine G.out.at_ (by omega) G.lens hl (fun z => by cases z) (fun _ => by rw [hg]; exact G.acc.cell.2.1) ?_
  rw [hg]
  refine t.push hs G.acc hB hzs hb h63 fun v' g' a' f1 f2 f3 => ?_
  have ap : ∀ j, lies v' j → ¬ lies vout j := fun j hj hv => by
    rcases f2 j hj with h | h
    · exact G.apart j h hv
    · have := G.out.ltA hv; omega
  have ao : Acc 1 n (B ++ g') vout (done.map (fun l => lit (l.map f)) ++ cur :: List.replicate k (.slice none 0 0)) := G.out.congr fun j hj => f1 j (G.out.ltA hj) fun hc => G.apart j hc hj
  refine Acc.set hB ao (by omega) G.lens (by rw [a'.cell.2.1]; rfl) a'.cell.1 (by rw [a'.cell.2.1]; simp [a'.cell.2.2]) hl fun g2 a2 f4 => ?_
  have e : (done.map (fun l => lit (l.map f)) ++ cur :: List.replicate k (.slice none 0 0)).set i v' = done.map (fun l => lit (l.map f)) ++ v' :: List.replicate k (.slice none 0 0) := by
    subst hi
    rw [List.set_append_right _ _ (by simp)]
    simp
  rw [e] at a2
  exact q v' g2 ⟨a2, a'.congr fun j hj => f4 j (ap j hj), ap⟩ (fun j hj h1 h2 => (f4 j h1).trans (f1 j hj h2)) f2
/-- The row that grew is frozen. -/
theorem Grid.next (t : Things sz f) (hs : 0 < sz) {h g : Heap} {F : List Value → Heap → Prop} {vs : List Value} (G : Grid sz f h.length (h ++ g) vout done cur curl k)
    (q : ∀ fr r v' g', (∀ i, h.length ≤ i → ¬ lies vout i → fr i) → Gv fr r (h ++ g) v' vout → Acc 1 h.length (h ++ g') v' ((done ++ [curl]).map (fun l => lit (l.map f)) ++ List.replicate k (.slice none 0 0)) → ∃ vs2, GvL fr r (h ++ g) vs2 vs ∧ F vs2 (h ++ g')) :
    gcL h F vs (h ++ g) := by
  refine gcL_acc1 G.out (es2 := (done ++ [curl]).map (fun l => lit (l.map f)) ++ List.replicate k (.slice none 0 0)) G.lens (fun x hx => ?_) (by simp) (fun fr r hfr j p1 p2 => ?_) q
  · rcases List.mem_append.1 hx with hx | hx
    · obtain ⟨y, _, rfl⟩ := List.mem_map.1 hx; rfl
    · rw [(List.mem_replicate.1 hx).2]; rfl
  · have hc : Gv fr r (h ++ g) (lit (curl.map f)) cur := t.gv hs G.acc fun i hi hl => hfr i hi (G.apart i hl)
    have c1 : ∀ {v : Value}, (∀ x ∈ cellsOf v, Cl x) → GvL fr r (h ++ g) (cellsOf v) (cellsOf v) := fun hv => GvL.cl hv
    by_cases h1 : j < done.length
    · rw [List.getElem_append_left (by simp; omega), List.getElem_append_left (by simpa using h1), List.getElem_map, List.getElem_map, List.getElem_append_left h1]
      exact c1 fun x hx => by
        have : x = lit (done[j].map f) := by simpa [cellsOf] using hx
        subst this; exact t.clL
    · by_cases h2 : j = done.length
      · subst h2
        rw [List.getElem_append_left (by simp), List.getElem_append_right (by simp), List.getElem_map, List.getElem_append_right (by omega)]
        simp only [List.length_map, Nat.sub_self, List.getElem_singleton, List.getElem_cons_zero]
        rw [G.acc.cell.2.1]
        exact ⟨hc, trivial⟩
      · have e1 : ((done ++ [curl]).map (fun l => lit (l.map f)) ++ List.replicate k (Value.slice none 0 0))[j] = .slice none 0 0 := by
          rw [List.getElem_append_right (by simp; omega), List.getElem_replicate]
        have e2 : (done.map (fun l => lit (l.map f)) ++ cur :: List.replicate k (Value.slice none 0 0))[j] = .slice none 0 0 := by
          rw [List.getElem_append_right (by simp; omega), List.getElem_cons, dif_neg (by simp; omega), List.getElem_replicate]
        rw [e1, e2]
        exact c1 fun x hx => by
          have : x = .slice none 0 0 := by simpa [cellsOf] using hx
          subst this; exact .nilS
end
/-- A slice of so many equal things. -/
theorem s_mks {bytes N : Nat} {h : Heap} {z : Value} {K : Value → Heap → Prop} (hN : N * bytes ≤ 140737488355328) (h63 : N ≤ 9223372036854775807) (k : K (.slice (some ⟨h.length, 0, none⟩) N N) (h ++ [.row (List.replicate N z) .exact])) :
    hW (mksW [z] bytes h (natV N) (natV N)) K := by
  have e : (bytes : Int) * (N : Int) = ((N * bytes : Nat) : Int) := by rw [Int.natCast_mul]; exact Int.mul_comm ..
  refine ⟨_, _, by
    simp only [mksW]
    rw [if_pos ⟨by omega, by omega, by omega, by rw [e]; omega⟩], ?_⟩
  rw [Int.toNat_natCast, repA_one]
  exact k
theorem acc_mks {N : Nat} {h : Heap} {z : Value} (hz : cellsOf z = [z]) : Acc 1 h.length (h ++ [.row (List.replicate N z) .exact]) (.slice (some ⟨h.length, 0, none⟩) N N) (List.replicate N z) :=
  .inr ⟨h.length, N, _, .exact, Nat.le_refl _, by simp, row_last, .inr rfl, by simp, by simp, by
    rw [List.take_of_length_le (by simp), flat_one]
    intro e he; rw [(List.mem_replicate.1 he).2]; exact hz⟩

theorem EsG.cl {fr : Nat → Prop} {r : Nat → Option Nat} {h : Heap} : ∀ {E : List (Value × Value)}, (∀ p ∈ E, Cl p.2) → EsG fr r h E E
  | [], _ => trivial
  | p :: E, q => ⟨rfl, .cl (q p (by simp)), EsG.cl fun x hx => q x (by simp [hx])⟩
/-- .. and a map is kept. -/
theorem gcL_acc1m {sz : Nat} {h g : Heap} {v : Value} {es es2 : List Value} {F : List Value → Heap → Prop} {vs : List Value} {mi : Nat} {E : List (Value × Value)} (a : Acc sz h.length (h ++ g) v es)
    (hz : ∀ x ∈ es, (cellsOf x).length = sz) (hz2 : ∀ x ∈ es2, (cellsOf x).length = sz) (hl : es2.length = es.length) (hm : getMap (h ++ g) mi = some E) (hmi : h.length ≤ mi) (hE : ∀ p ∈ E, Cl p.2)
    (hc : ∀ fr r, (∀ i, h.length ≤ i → ¬ lies v i → i ≠ mi → fr i) → ∀ (k : Nat) (p : k < es2.length) (q : k < es.length), GvL fr r (h ++ g) (cellsOf es2[k]) (cellsOf es[k]))
    (k : ∀ fr r v' mi' g', (∀ i, h.length ≤ i → ¬ lies v i → i ≠ mi → fr i) → Gv fr r (h ++ g) v' v → Gv fr r (h ++ g) (.map (some mi')) (.map (some mi)) → Acc sz h.length (h ++ g') v' es2 → getMap (h ++ g') mi' = some E → h.length ≤ mi' →
      ∃ vs2, GvL fr r (h ++ g) vs2 vs ∧ F vs2 (h ++ g')) : gcL h F vs (h ++ g) := by
  have hg2 : g[mi - h.length]? = some (.map E) := by
    unfold getMap at hm
    split at hm
    · rename_i x hh; cases hm; rwa [List.getElem?_append_right hmi] at hh
    · cases hm
  rcases a with ⟨rfl, rfl⟩ | ⟨i, cap, c, m, h1, rfl, h3, h4, h5, h6, h7⟩
  · have e2 : es2 = [] := List.length_eq_zero_iff.1 (by simpa using hl)
    subst e2
    have hr : rOf h.length [mi - h.length] h.length = some mi := by unfold rOf; rw [if_neg (by omega)]; simp; omega
    obtain ⟨vs2, h8, h9⟩ := k (frOf h.length [mi - h.length]) (rOf h.length [mi - h.length]) (.slice none 0 0) h.length [.map E] (fun i hi _ hne => ⟨hi, by simp; omega⟩) (.cl .nilS) (.map _ _ hr) .nil (by rw [map_app0]; rfl) (Nat.le_refl _)
    refine gcL_app [.map E] [mi - h.length] (by simp) vs2 ?_ h8 h9
    exact ⟨.inr ⟨_, hg2, EsG.cl hE⟩, trivial⟩
  · have hne : i ≠ mi := fun q => by
      subst q
      have := getRow_eq h3
      rw [List.getElem?_append_right h1, hg2] at this; cases this
    have hg : g[i - h.length]? = some (.row c m) := by
      have := getRow_eq h3
      rwa [List.getElem?_append_right h1] at this
    have lie : ∀ j, lies (.slice (some ⟨i, 0, none⟩) es.length cap) j ↔ j = i := fun j => ⟨fun ⟨o, x, y, q⟩ => by cases q; rfl, fun q => by subst q; exact ⟨0, _, _, rfl⟩⟩
    have hfr : ∀ j, h.length ≤ j → ¬ lies (.slice (some ⟨i, 0, none⟩) es.length cap) j → j ≠ mi → frOf h.length [i - h.length, mi - h.length] j := fun j hj hq hq2 => ⟨hj, by
      rw [lie] at hq; simp; omega⟩
    have hr : rOf h.length [i - h.length, mi - h.length] h.length = some i := by
      unfold rOf; rw [if_neg (by omega)]; simp; omega
    have hr2 : rOf h.length [i - h.length, mi - h.length] (h.length + 1) = some mi := by
      unfold rOf; rw [if_neg (by omega), Nat.add_sub_cancel_left]; simp; omega
    have len1 := flat_len hz
    have len2 := flat_len hz2
    have hle : es.length * sz ≤ c.length := by rw [h5]; exact Nat.mul_le_mul_right sz h6
    obtain ⟨vs2, h8, h9⟩ := k _ _ (.slice (some ⟨h.length, 0, none⟩) es2.length cap) (h.length + 1)
      [.row (es2.flatMap cellsOf ++ List.replicate (c.drop (es.length * sz)).length und) m, .map E] hfr (by rw [hl]; exact .slice _ _ _ _ _ hr) (.map _ _ hr2)
      (.inr ⟨h.length, cap, _, m, Nat.le_refl _, rfl, row_app0.trans row_0, h4, by rw [List.length_append, len2, hl, List.length_replicate, List.length_drop]; omega, by omega, by rw [← len2, List.take_left]⟩) (by rw [map_app]; rfl) (by omega)
    have e : c = es.flatMap cellsOf ++ c.drop (es.length * sz) := by rw [← h7, List.take_append_drop]
    have q := GvL.append (GvL.flat (fr := frOf h.length [i - h.length, mi - h.length]) (r := rOf h.length [i - h.length, mi - h.length]) (h := h ++ g) hl (hc _ _ hfr)) (GvL.und (fr := frOf h.length [i - h.length, mi - h.length]) (r := rOf h.length [i - h.length, mi - h.length]) (h := h ++ g) (ys := c.drop (es.length * sz)))
    rw [← e] at q
    refine gcL_app [.row (es2.flatMap cellsOf ++ List.replicate (c.drop (es.length * sz)).length und) m, .map E] [i - h.length, mi - h.length] (by simp; omega) vs2 ?_ h8 h9
    exact ⟨.inr ⟨_, hg, q, rfl⟩, .inr ⟨_, hg2, EsG.cl hE⟩, trivial⟩
theorem lies_row {sz n : Nat} {H : Heap} {v : Value} {l : List Value} (a : Acc sz n H v l) {j : Nat} (hj : lies v j) {E : List (Value × Value)} : getMap H j ≠ some E := fun q => by
  obtain ⟨o, x, y, e⟩ := hj
  rcases a with ⟨rfl, rfl⟩ | ⟨i, cap, c, m, h1, rfl, h3, _⟩
  · cases e
  · cases e
    have := getRow_eq h3
    unfold getMap at q
    rw [this] at q; cases q
theorem Grid.cells {α : Type} {sz : Nat} {f : α → Value} {n : Nat} {H : Heap} {vout cur : Value} {done : List (List α)} {curl : List α} {k : Nat} (t : Things sz f) (G : Grid sz f n H vout done cur curl k) {fr : Nat → Prop} {r : Nat → Option Nat}
    (hc : Gv fr r H (lit (curl.map f)) cur) (j : Nat) (p1 : j < ((done ++ [curl]).map (fun l => lit (l.map f)) ++ List.replicate k (Value.slice none 0 0)).length) (p2 : j < (done.map (fun l => lit (l.map f)) ++ cur :: List.replicate k (Value.slice none 0 0)).length) :
    GvL fr r H (cellsOf ((done ++ [curl]).map (fun l => lit (l.map f)) ++ List.replicate k (Value.slice none 0 0))[j]) (cellsOf (done.map (fun l => lit (l.map f)) ++ cur :: List.replicate k (Value.slice none 0 0))[j]) := by
  have c1 : ∀ {v : Value}, (∀ x ∈ cellsOf v, Cl x) → GvL fr r H (cellsOf v) (cellsOf v) := fun hv => GvL.cl hv
  by_cases h1 : j < done.length
  · rw [List.getElem_append_left (by simp; omega), List.getElem_append_left (by simpa using h1), List.getElem_map, List.getElem_map, List.getElem_append_left h1]
    exact c1 fun x hx => by
      have : x = lit (done[j].map f) := by simpa [cellsOf] using hx
      subst this; exact t.clL
  · by_cases h2 : j = done.length
    · subst h2
      rw [List.getElem_append_left (by simp), List.getElem_append_right (by simp), List.getElem_map, List.getElem_append_right (by omega)]
      simp only [List.length_map, Nat.sub_self, List.getElem_singleton, List.getElem_cons_zero]
      rw [G.acc.cell.2.1]
      exact ⟨hc, trivial⟩
    · have e1 : ((done ++ [curl]).map (fun l => lit (l.map f)) ++ List.replicate k (Value.slice none 0 0))[j] = .slice none 0 0 := by
        rw [List.getElem_append_right (by simp; omega), List.getElem_replicate]
      have e2 : (done.map (fun l => lit (l.map f)) ++ cur :: List.replicate k (Value.slice none 0 0))[j] = .slice none 0 0 := by
        rw [List.getElem_append_right (by simp; omega), List.getElem_cons, dif_neg (by simp; omega), List.getElem_replicate]
      rw [e1, e2]
      exact c1 fun x hx => by
        have : x = .slice none 0 0 := by simpa [cellsOf] using hx
        subst this; exact .nilS
/-- The row that grew is frozen, beside a map. -/
theorem Grid.nextM {α : Type} {sz : Nat} {f : α → Value} {vout cur : Value} {done : List (List α)} {curl : List α} {k : Nat} (t : Things sz f) (hs : 0 < sz) {h g : Heap} {F : List Value → Heap → Prop} {vs : List Value} {mi : Nat} {E : List (Value × Value)} (G : Grid sz f h.length (h ++ g) vout done cur curl k)
    (hm : getMap (h ++ g) mi = some E) (hmi : h.length ≤ mi) (hE : ∀ p ∈ E, Cl p.2)
    (q : ∀ fr r v' mi' g', (∀ i, h.length ≤ i → ¬ lies vout i → i ≠ mi → fr i) → Gv fr r (h ++ g) v' vout → Gv fr r (h ++ g) (.map (some mi')) (.map (some mi)) → Acc 1 h.length (h ++ g') v' ((done ++ [curl]).map (fun l => lit (l.map f)) ++ List.replicate k (.slice none 0 0)) →
      getMap (h ++ g') mi' = some E → h.length ≤ mi' → ∃ vs2, GvL fr r (h ++ g) vs2 vs ∧ F vs2 (h ++ g')) :
    gcL h F vs (h ++ g) := by
  refine gcL_acc1m G.out (es2 := (done ++ [curl]).map (fun l => lit (l.map f)) ++ List.replicate k (.slice none 0 0)) G.lens (fun x hx => ?_) (by simp) hm hmi hE (fun fr r hfr j p1 p2 => ?_) q
  · rcases List.mem_append.1 hx with hx | hx
    · obtain ⟨y, _, rfl⟩ := List.mem_map.1 hx; rfl
    · rw [(List.mem_replicate.1 hx).2]; rfl
  · exact G.cells t (t.gv hs G.acc fun i hi hl => hfr i hi (G.apart i hl) fun q => lies_row G.acc hl (q ▸ hm)) j p1 p2
end Go.Ax
