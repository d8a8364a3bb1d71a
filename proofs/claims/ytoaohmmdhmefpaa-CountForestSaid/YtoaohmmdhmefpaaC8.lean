/- Ax, rules 8: rows of rows: the row that grows is read, turned and stored. -/
import Derived.Test.YtoaohmmdhmefpaaC7
namespace Go.Ax
open Go.RowKit
section
variable {α : Type} {sz : Nat} {f : α → Value} {n : Nat} {H : Heap} {vout cur : Value} {done : List (List α)} {curl : List α} {k : Nat}
theorem Grid.rd (G : Grid sz f n H vout done cur curl k) {i : Nat} (hi : done.length = i) {K : Value → Prop} (q : K cur) : oW (iaS 1 vout (natV i)) fun p => oW (ldW false 1 H p) K := by
  refine G.out.at_ (by omega) G.lens (G.lt hi) (fun z => by cases z) (fun _ => by rw [G.at_ hi]; exact G.acc.cell.2.1) ?_
  rw [G.at_ hi]; exact q
/-- The row that grows is told anew: it lies where nothing else lies. -/
theorem Grid.turn (G : Grid sz f n H vout done cur curl k) {H' : Heap} {curl' : List α} (a : Acc sz n H' cur (curl'.map f)) (e : ∀ j, j < H.length → ¬ lies cur j → H'[j]? = H[j]?) : Grid sz f n H' vout done cur curl' k :=
  ⟨G.out.congr fun j hj => e j (G.out.ltA hj) fun hc => G.apart j hc hj, a, G.apart⟩
theorem Grid.st {B g : Heap} {i : Nat} {cur' : Value} {curl' : List α} {K : Heap → Prop} (G : Grid sz f n (B ++ g) vout done cur curl k) (hB : B.length = n) (hi : done.length = i) (a : Acc sz n (B ++ g) cur' (curl'.map f)) (ap : ∀ j, lies cur' j → ¬ lies vout j)
    (q : ∀ g', Grid sz f n (B ++ g') vout done cur' curl' k → (∀ j, ¬ lies vout j → (B ++ g')[j]? = (B ++ g)[j]?) → K (B ++ g')) : oW (iaS 1 vout (natV i)) fun p => sW (stW 1 (B ++ g) p cur') K := by
  refine Acc.set hB G.out (by omega) G.lens (by rw [a.cell.2.1]; rfl) a.cell.1 (by rw [a.cell.2.1]; simp [a.cell.2.2]) (G.lt hi) fun g2 a2 f4 => ?_
  have e : (done.map (fun l => lit (l.map f)) ++ cur :: List.replicate k (.slice none 0 0)).set i cur' = done.map (fun l => lit (l.map f)) ++ cur' :: List.replicate k (.slice none 0 0) := by
    subst hi
    rw [List.set_append_right _ _ (by simp)]
    simp
  rw [e] at a2
  exact q g2 ⟨a2, a.congr fun j hj => f4 j (ap j hj), ap⟩ f4
/-- Several more. -/
theorem Grid.appL (t : Things sz f) (hs : 0 < sz) {bytes i : Nat} {B g : Heap} {xs : List α} {K : Heap → Prop} (G : Grid sz f n (B ++ g) vout done cur curl k) (hB : B.length = n) (hi : done.length = i)
    (hb : (curl.length + xs.length) * bytes ≤ 140737488355328) (h63 : curl.length + xs.length ≤ 9223372036854775807)
    (q : ∀ cur' g', Grid sz f n (B ++ g') vout done cur' (curl ++ xs) k → K (B ++ g')) :
    oW (iaS 1 vout (natV i)) fun p => oW (ldW false 1 (B ++ g) p) fun c => hW (apW sz bytes (B ++ g) c (lit (xs.map f))) fun v2 h2 => oW (iaS 1 vout (natV i)) fun p => sW (stW 1 h2 p v2) K := by
  refine G.rd hi ?_
  refine t.more hs G.acc hB hb h63 fun v' g' a' f1 f2 f3 => ?_
  have ap : ∀ j, lies v' j → ¬ lies vout j := fun j hj hv => by
    rcases f2 j hj with h | h
    · exact G.apart j h hv
    · have := G.out.ltA hv; omega
  have G1 : Grid sz f n (B ++ g') vout done cur curl k → True := fun _ => trivial
  have ao : Acc 1 n (B ++ g') vout (done.map (fun l => lit (l.map f)) ++ cur :: List.replicate k (.slice none 0 0)) := G.out.congr fun j hj => f1 j (G.out.ltA hj) fun hc => G.apart j hc hj
  refine Acc.set hB ao (by omega) G.lens (by rw [a'.cell.2.1]; rfl) a'.cell.1 (by rw [a'.cell.2.1]; simp [a'.cell.2.2]) (G.lt hi) fun g2 a2 f4 => ?_
  have e : (done.map (fun l => lit (l.map f)) ++ cur :: List.replicate k (.slice none 0 0)).set i v' = done.map (fun l => lit (l.map f)) ++ v' :: List.replicate k (.slice none 0 0) := by
    subst hi
    rw [List.set_append_right _ _ (by simp)]
    simp
  rw [e] at a2
  exact q v' g2 ⟨a2, a'.congr fun j hj => f4 j (ap j hj), ap⟩
end
end Go.Ax
