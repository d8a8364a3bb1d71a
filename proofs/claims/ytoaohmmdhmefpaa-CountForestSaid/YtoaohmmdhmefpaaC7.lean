/- Ax, rules 7: rows of rows that grow: read, and written with looks between. -/
import Derived.Test.YtoaohmmdhmefpaaC6
namespace Go.Ax
open Go.RowKit
section
variable {α : Type} {sz : Nat} {f : α → Value} {n : Nat} {H : Heap} {vout cur : Value} {done : List (List α)} {curl : List α} {k : Nat}
theorem Grid.lt (G : Grid sz f n H vout done cur curl k) {i : Nat} (hi : done.length = i) : i < (done.map (fun l => lit (l.map f)) ++ cur :: List.replicate k (.slice none 0 0)).length := by simp; omega
theorem Grid.at_ (G : Grid sz f n H vout done cur curl k) {i : Nat} (hi : done.length = i) : (done.map (fun l => lit (l.map f)) ++ cur :: List.replicate k (.slice none 0 0))[i]'(G.lt hi) = cur := by
  subst hi
  rw [List.getElem_append_right (by simp)]
  simp
theorem Grid.read (G : Grid sz f n H vout done cur curl k) {i : Nat} (hi : done.length = i) {K : Value → Value → Prop} (q : ∀ p o, p < H.length → K (.pointer (some ⟨p, o, none⟩)) cur) :
    oW (iaS 1 vout (natV i)) fun p => oW (ldW false 1 H p) (K p) := by
  refine G.out.ptr (by omega) G.lens (j := i) (G.lt hi) fun p o c m h1 h2 h3 h4 h5 h6 => ?_
  rw [G.at_ hi, G.acc.cell.2.1] at h6
  refine s_row h3 (v := cur) ?_ (q p o (getRow_lt h3))
  have : ((c.drop o).take 1)[0]? = some cur := by rw [h6]; rfl
  rw [List.getElem?_take, if_pos (by omega), List.getElem?_drop] at this
  simpa using this
theorem Grid.write (t : Things sz f) (hs : 0 < sz) {bytes i : Nat} {B g : Heap} {x : α} {zs ws ws2 : List Value} {K : Heap → Prop} (G : Grid sz f n (B ++ g) vout done cur curl k) (hB : B.length = n) (hi : done.length = i) (hzs : zs.length = sz)
    (hb : (curl.length + 1) * bytes ≤ 140737488355328) (h63 : curl.length + 1 ≤ 9223372036854775807) (hw : keptB (B ++ g).length ws) (hw2 : keptB n ws2)
    (q : ∀ cur' g', Grid sz f n (B ++ g') vout done cur' (curl ++ [x]) k → (∀ j, j < (B ++ g).length → ¬ lies vout j → ¬ lies cur j → (B ++ g')[j]? = (B ++ g)[j]?) → (∀ j, lies cur' j → lies cur j ∨ (B ++ g).length ≤ j) → K (B ++ g')) :
    hW (bslW (B ++ g) 1 zs [(0, sz, f x)]) fun v1 h1 => keptW ws (B ++ g) h1 ∧ hW (apW sz bytes h1 cur v1) fun v2 h2 => keptW ws2 h1 h2 ∧ oW (iaS 1 vout (natV i)) fun p => sW (stW 1 h2 p v2) K := by
  subst hB
  refine bsl1 (t.len x) (t.okv x) hzs ⟨hw.kept fun j hj => by rw [List.getElem?_append_left hj], ?_⟩
  have hsrc := src1 (H := B ++ g) (t.len x)
  rw [List.append_assoc] at hsrc ⊢
  refine Acc.more rfl (by rw [← List.append_assoc]; exact G.acc.app) hs t.lens (es := [f x]) (by simpa using t.len x) (by simpa using t.okc x) hsrc (by simpa using hb) (by simpa using h63) fun v' g' a' f1 f2 f3 => ?_
  have f1' : ∀ j, j < (B ++ g).length → ¬ lies cur j → (B ++ g')[j]? = (B ++ g)[j]? := fun j hj hq => by
    rw [f1 j (by simp at hj ⊢; omega) hq, ← List.append_assoc, List.getElem?_append_left hj]
  have f2' : ∀ j, lies v' j → lies cur j ∨ (B ++ g).length ≤ j := fun j hj => (f2 j hj).imp id fun q => by simp at q ⊢; omega
  refine ⟨hw2.kept fun j hj => f1 j (by simp; omega) fun q => by have := G.acc.ge q; omega, ?_⟩
  have ap : ∀ j, lies v' j → ¬ lies vout j := fun j hj hv => by
    rcases f2' j hj with h | h
    · exact G.apart j h hv
    · have := G.out.ltA hv; omega
  have ao : Acc 1 B.length (B ++ g') vout (done.map (fun l => lit (l.map f)) ++ cur :: List.replicate k (.slice none 0 0)) := G.out.congr fun j hj => f1' j (G.out.ltA hj) fun hc => G.apart j hc hj
  have a'' : Acc sz B.length (B ++ g') v' ((curl ++ [x]).map f) := by rw [List.map_append]; exact a'
  refine Acc.set rfl ao (by omega) G.lens (by rw [a'.cell.2.1]; rfl) a'.cell.1 (by rw [a'.cell.2.1]; simp [a'.cell.2.2]) (G.lt hi) fun g2 a2 f4 => ?_
  have e : (done.map (fun l => lit (l.map f)) ++ cur :: List.replicate k (.slice none 0 0)).set i v' = done.map (fun l => lit (l.map f)) ++ v' :: List.replicate k (.slice none 0 0) := by
    subst hi
    rw [List.set_append_right _ _ (by simp)]
    simp
  rw [e] at a2
  exact q v' g2 ⟨a2, a''.congr fun j hj => f4 j (ap j hj), ap⟩ (fun j hj h1 h2 => (f4 j h1).trans (f1' j hj h2)) f2'
end
end Go.Ax
