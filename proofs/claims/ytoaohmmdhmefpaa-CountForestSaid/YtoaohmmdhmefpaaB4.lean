/- Count: a local slice sorted, and made compact. -/
import Derived.Test.YtoaohmmdhmefpaaB3
import Derived.Test.YtoaohmmdhmefpaaSR
import Derived.Test.YtoaohmmdhmefpaaLay
import Derived.Test.YtoaohmmdhmefpaaC8
namespace Go.Ax
open Go Go.Proofs Go.RowKit

theorem acall_sortN {P : Program} {f : FuncId} (he : entersOk P f) (h0 : ∀ p cap w, Calls P f #[.slice p 0 cap] w fun e w' => e = .returned (.tuple #[]) ∧ w' = w)
    {H : Heap} {Q : Value → Heap → Prop} (hq : Q (.tuple #[]) H) : acall P f [.slice none 0 0] H Q := by
  refine ⟨he, fun B w0 ρ w args' s ha => ?_⟩
  obtain ⟨ha1, ha2⟩ := ha
  have hsz : args'.size = 1 := by simpa using ha1.symm
  have e0 := ha2 0 _ args'[0] rfl (by simp [hsz])
  have harg : args' = #[args'[0]] := by
    apply Array.ext
    · simp [hsz]
    · intro k h1 h2
      have : k = 0 := by omega
      subst this; rfl
  generalize args'[0] = v' at e0 harg
  subst harg
  cases e0 with
  | sliceNil =>
    refine (h0 none 0 w).mono ?_
    rintro e w' ⟨rfl, rfl⟩
    exact ⟨ρ, .tuple #[], .tuple #[], _, .refl _, rfl, rel_unit, s, hq⟩
theorem sort_enters : entersOk Try.prog F_slices_Sort_int_int := ⟨Try.f46, Try.func46, by kernel_rfl, by kernel_rfl⟩
theorem perm_nat {l : List Nat} {zs : List Int} (h : zs.Perm (l.map fun (n : Nat) => (n : Int))) : ∃ l' : List Nat, zs = l'.map (fun (n : Nat) => (n : Int)) ∧ l'.Perm l := by
  have hz : zs = (zs.map Int.toNat).map fun (n : Nat) => (n : Int) := by
    rw [List.map_map]
    conv => lhs; rw [← List.map_id zs]
    refine List.map_congr_left fun x hx => ?_
    obtain ⟨n, _, rfl⟩ := List.mem_map.1 (h.mem_iff.1 hx)
    rfl
  refine ⟨zs.map Int.toNat, hz, ?_⟩
  have := h.map Int.toNat
  rw [List.map_map] at this
  have e : (Int.toNat ∘ fun (n : Nat) => (n : Int)) = id := by funext n; rfl
  rw [e, List.map_id] at this
  exact this
theorem sort_spec {n : Nat} {B g : Heap} {v : Value} {l : List Nat} (hB : B.length = n) (a : Acc 1 n (B ++ g) v (l.map natV)) (hl : l.length ≤ 1000000000) {Q : Value → Heap → Prop}
    (hq : ∀ (l' : List Nat) (g' : Heap), l'.Perm l → Acc 1 n (B ++ g') v (l'.map natV) → (∀ j, ¬ lies v j → (B ++ g')[j]? = (B ++ g)[j]?) → g'.length = g.length → Q (.tuple #[]) (B ++ g')) : acall Try.prog F_slices_Sort_int_int [v] (B ++ g) Q := by
  rcases a with ⟨rfl, e⟩ | ⟨i, cap, c, m, h1, rfl, h3, h4, h5, h6, h7⟩
  · have : l = [] := by simpa using e
    subst this
    exact acall_sortN sort_enters (AnyM.slices_Sort_int_none Try.sortA) (hq [] g (.refl _) (.inl ⟨rfl, rfl⟩) (fun _ _ => rfl) rfl)
  · have hm : m ≠ .ro := by rcases h4 with q | q <;> rw [q] <;> simp
    have hlen : (l.map natV).length = l.length := List.length_map ..
    have hc : c.take l.length = (l.map fun (n : Nat) => (n : Int)).map vi := by
      rw [List.map_map]
      rw [hlen, Nat.mul_one, flat_one (fun e he => by obtain ⟨b, _, rfl⟩ := List.mem_map.1 he; rfl)] at h7
      exact h7
    have hsl := List.mergeSort_perm (l.map fun (n : Nat) => (n : Int)) (fun x y => decide (x ≤ y))
    obtain ⟨l', e1, e2⟩ := perm_nat hsl
    have hl2 := e2.length_eq
    have key : acall Try.prog F_slices_Sort_int_int [.slice (some ⟨i, 0, none⟩) (l.map fun (n : Nat) => (n : Int)).length cap] (B ++ g) Q := by
      refine acall_sortI sort_enters (AnyM.slices_Sort_int Try.sortA) (AnyM.slices_Sort_int_none Try.sortA) h3 hm (by rw [List.length_map]; exact hc) (by rw [List.length_map]; omega) ?_
      rw [e1, List.length_map, List.set_append_right _ _ (by omega), hB]
      refine hq l' _ e2 (.inr ⟨i, cap, _, m, h1, by rw [hlen, List.length_map, hl2], by
        rw [show (B ++ g.set (i - n) (.row ((l'.map fun (n : Nat) => (n : Int)).map vi ++ c.drop l.length) m)) = (B ++ g).set i (.row ((l'.map fun (n : Nat) => (n : Int)).map vi ++ c.drop l.length) m) by rw [List.set_append_right _ _ (by omega), hB]]
        exact getRow_set h3 _ _, h4, ?_, ?_, ?_⟩) (fun j hj => ?_) (by simp)
      · rw [hlen] at h6
        simp only [List.length_append, List.length_map, List.length_drop]
        omega
      · rw [List.length_map, hl2]; rw [hlen] at h6; exact h6
      · rw [List.length_map, Nat.mul_one, flat_one (fun e he => by obtain ⟨b, _, rfl⟩ := List.mem_map.1 he; rfl), List.take_append_of_le_length (by simp), List.take_of_length_le (by simp), List.map_map]
        rfl
      · have hne : i ≠ j := fun q => hj ⟨0, _, _, by rw [q]⟩
        rw [show (B ++ g.set (i - n) (.row ((l'.map fun (n : Nat) => (n : Int)).map vi ++ c.drop l.length) m)) = (B ++ g).set i (.row ((l'.map fun (n : Nat) => (n : Int)).map vi ++ c.drop l.length) m) by rw [List.set_append_right _ _ (by omega), hB]]
        rw [List.getElem?_set_ne hne]
    rw [List.length_map] at key
    rw [hlen]
    exact key

end Go.Ax

namespace Go.Ax
open Go Go.Proofs Go.RowKit

theorem set_self {H : Heap} {i : Nat} {c : List Value} {m : Md} (h : getRow H i = some (c, m)) : H.set i (.row c m) = H := by
  have := getRow_eq h
  apply List.ext_getElem?
  intro k
  by_cases q : i = k
  · subst q; rw [List.getElem?_set_self (List.getElem?_eq_some_iff.1 this).1, this]
  · rw [List.getElem?_set_ne q]
theorem getD_setN {out : List Nat} {i v j : Nat} (h : i < out.length) : (out.set i v).getD j 0 = if j = i then v else out.getD j 0 := getD_set h
theorem mem_takeD {l : List Nat} {k x : Nat} : x ∈ l.take k ↔ ∃ j, j < k ∧ j < l.length ∧ l.getD j 0 = x := by
  rw [List.mem_iff_getElem]
  constructor
  · rintro ⟨j, hj, rfl⟩
    rw [List.length_take] at hj
    refine ⟨j, by omega, by omega, ?_⟩
    rw [getD_at (by omega), List.getElem_take]
  · rintro ⟨j, h1, h2, rfl⟩
    refine ⟨j, by rw [List.length_take]; omega, ?_⟩
    rw [getD_at h2, List.getElem_take]

theorem compact_spec {n : Nat} {B g : Heap} {v : Value} {l : List Nat} (hB : B.length = n) (a : Acc 1 n (B ++ g) v (l.map natV)) (hl : l.length ≤ 1000000000) {Q : Value → Heap → Prop}
    (hq : ∀ (v' : Value) (l' : List Nat) (g' : Heap), Acc 1 n (B ++ g') v' (l'.map natV) → (∀ x, x ∈ l' ↔ x ∈ l) → l'.length ≤ l.length → (∀ j, lies v' j → lies v j) → (∀ j, ¬ lies v j → (B ++ g')[j]? = (B ++ g)[j]?) → g'.length = g.length → Q v' (B ++ g')) :
    acall Try.prog F_slices_Compact_int_int [v] (B ++ g) Q := by
  have triv := hq v l g a (fun _ => .rfl) (Nat.le_refl _) (fun _ q => q) (fun _ _ => rfl) rfl
  apply W_slices_Compact_int_int_ok
  unfold W_slices_Compact_int_int
  repeat' first | ((with_reducible apply s_lss)) | ((with_reducible apply s_br) <;> intro hb <;> try (exfalso; omega)) | ((with_reducible apply s_lenAM); (· assumption))
  · exact gcV_same triv
  rcases a with ⟨rfl, e⟩ | ⟨i, cap, c, m, h1, hv, h3, h4, h5, h6, h7⟩
  · have : l = [] := by simpa using e
    subst this
    exact absurd hb (by simp)
  have hm : m ≠ .ro := by rcases h4 with q | q <;> rw [q] <;> simp
  have hmd : m.openSize = none ∨ (0 < 1 ∧ m.openSize = some 1) := by
    rcases h4 with q | q <;> rw [q]
    · exact .inr ⟨by omega, rfl⟩
    · exact .inl rfl
  rw [List.length_map] at hv h6 h7
  rw [Nat.mul_one, flat_one (fun e he => by obtain ⟨b, _, rfl⟩ := List.mem_map.1 he; rfl)] at h7
  have hce : c = l.map natV ++ c.drop l.length := by rw [← h7, List.take_append_drop]
  generalize hrest : c.drop l.length = rest at hce
  subst hv
  have hlen5 : l.length + rest.length = cap := by have := congrArg List.length hce; simp at this; omega
  generalize hL : l.length = L at *
  let CH : List Nat → Heap := fun cl => (B ++ g).set i (.row (cl.map natV ++ rest) m)
  have hCHl : CH l = B ++ g := by show (B ++ g).set i (.row (l.map natV ++ rest) m) = _; rw [← hce]; exact set_self h3
  have hget : ∀ cl, getRow (CH cl) i = some (cl.map natV ++ rest, m) := fun cl => getRow_set h3 _ _
  have cell : ∀ {cl : List Nat} {x : Nat}, cl.length = L → x < L → (cl.map natV ++ rest)[x]? = some (natV (cl.getD x 0)) := fun {cl x} hc hx => by
    rw [List.getElem?_append_left (by simp; omega), List.getElem?_map, List.getElem?_eq_getElem (by omega), getD_at (by omega)]; rfl
  have rd : ∀ {cl : List Nat} {x : Nat} {K : Value → Prop}, cl.length = L → x < L → K (natV (cl.getD x 0)) → oW (iaS 1 (.slice (some ⟨i, 0, none⟩) L cap) (natV x)) fun p => oW (ldW false 1 (CH cl) p) K := fun {cl x K} hc hx k => by
    rw [iaS_slice hx, oW_some]
    exact s_row (hget cl) (by rw [Nat.zero_add, Nat.mul_one]; exact cell hc hx) k
  have rd2 : ∀ {cl : List Nat} {k0 j : Nat} {K : Value → Prop}, cl.length = L → k0 + j < L → K (natV (cl.getD (k0 + j) 0)) → oW (iaS 1 (.slice (some ⟨i, k0, none⟩) (L - k0) (cap - k0)) (natV j)) fun p => oW (ldW false 1 (CH cl) p) K := fun {cl k0 j K} hc hx k => by
    rw [iaS_slice (by omega), oW_some]
    exact s_row (hget cl) (by rw [Nat.mul_one]; exact cell hc hx) k
  have wr : ∀ {cl : List Nat} {x s : Nat} {K : Heap → Prop}, cl.length = L → x < L → K (CH (cl.set x s)) → oW (iaS 1 (.slice (some ⟨i, 0, none⟩) L cap) (natV x)) fun p => sW (stW 1 (CH cl) p (natV s)) K := fun {cl x s K} hc hx k => by
    rw [iaS_slice hx, oW_some, st1 (hget cl) hm rfl rfl rfl (by simp; omega), sW_some, Nat.zero_add, Nat.mul_one]
    have e : (CH cl).set i (.row ((cl.map natV ++ rest).set x (natV s)) m) = CH (cl.set x s) := by
      show ((B ++ g).set i _).set i _ = (B ++ g).set i _
      have e2 : (cl.map natV ++ rest).set x (natV s) = (cl.set x s).map natV ++ rest := by rw [List.set_append_left _ _ (by simp; omega), List.map_set]
      rw [List.set_set, e2]
    rw [e]; exact k
  have slo : ∀ {cl : List Nat} {k : Nat} {K : Value → Prop}, k ≤ L → K (.slice (some ⟨i, k, none⟩) (L - k) (cap - k)) → oW (slS 1 (CH cl) (.slice (some ⟨i, 0, none⟩) L cap) (some (natV k)) none none) K := fun {cl k K} hk q => by
    refine ⟨_, ?_, q⟩
    simp only [slS, asNat]
    rw [if_pos (by omega)]
    simp only [Int.toNat_natCast]
    rw [if_pos ⟨by omega, by omega, by omega, by omega, by simp⟩, hget]
    dsimp only
    rw [if_pos hmd]
    simp
  have shi : ∀ {cl : List Nat} {k : Nat} {K : Value → Prop}, k ≤ L → K (.slice (some ⟨i, 0, none⟩) k cap) → oW (slS 1 (CH cl) (.slice (some ⟨i, 0, none⟩) L cap) none (some (natV k)) none) K := fun {cl k K} hk q => by
    refine ⟨_, ?_, q⟩
    simp only [slS, asNat]
    rw [if_pos (by omega)]
    simp only [Int.toNat_natCast]
    rw [if_pos ⟨by omega, by omega, by omega, by omega, by simp⟩, hget]
    dsimp only
    rw [if_pos hmd]
    simp
  have fin : ∀ {cl : List Nat} {k : Nat}, cl.length = L → k ≤ L → (∀ x, x ∈ cl.take k ↔ x ∈ l) → Q (.slice (some ⟨i, 0, none⟩) k cap) (CH cl) := fun {cl k} hc hk hmem => by
    have e : CH cl = B ++ g.set (i - n) (.row (cl.map natV ++ rest) m) := by
      show (B ++ g).set i _ = _
      rw [List.set_append_right _ _ (by omega), hB]
    rw [e]
    refine hq _ (cl.take k) _ (.inr ⟨i, cap, cl.map natV ++ rest, m, h1, by rw [List.length_map, List.length_take]; congr 1; omega, by rw [← e]; exact hget cl, h4, by simp; omega, by rw [List.length_map, List.length_take]; omega, ?_⟩) hmem (by rw [List.length_take]; omega) (fun j ⟨o, x, y, q⟩ => ⟨0, _, _, by cases q; rfl⟩) (fun j hj => ?_) (by simp)
    · rw [Nat.mul_one, flat_one (fun e he => by obtain ⟨b, _, rfl⟩ := List.mem_map.1 he; rfl), List.length_map, List.length_take, Nat.min_eq_left (by omega), List.take_append_of_le_length (by simp; omega), List.map_take]
    · rw [← e]
      show ((B ++ g).set i _)[j]? = _
      rw [List.getElem?_set_ne fun q => hj ⟨0, _, _, by rw [q]⟩]
  refine ⟨fun mm vs H => ∃ k : Nat, vs = [.slice (some ⟨i, 0, none⟩) L cap, natV k] ∧ H = CH l ∧ 1 ≤ k ∧ k ≤ L ∧ mm = L - k, _, gcL_same ⟨1, rfl, hCHl.symm, by omega, by omega, rfl⟩, ?_⟩
  rintro m x0 x1 H ⟨k, hv, rfl, hk1, hk, rfl⟩
  replace hv := hv.symm
  simp only [List.cons.injEq, and_true] at hv
  obtain ⟨rfl, rfl⟩ := hv
  have lenv : ∀ {K : Value → Prop} {o : Nat} {L' c' : Nat}, K (natV L') → oW (lenS (.slice (some ⟨i, o, none⟩) L' c')) K := fun k => ⟨_, rfl, k⟩
  repeat' first | refine lenv ?_ | ((with_reducible apply s_lss)) | ((with_reducible apply s_br) <;> intro hb <;> try (exfalso; omega))
  rotate_left
  · have : k = L := by omega
    rw [hCHl]
    exact gcV_same triv
  refine rd hL (by omega) ?_
  repeat' first | ((with_reducible apply s_dec); (· omega); (· omega))
  refine rd hL (by omega) ?_
  repeat' first | ((with_reducible apply s_inc); (· omega)) | ((with_reducible apply s_eql)) | ((with_reducible apply s_br) <;> intro hb <;> try (exfalso; omega))
  rotate_left
  · refine ⟨_, ?_, gcL_same ⟨k + 1, rfl, rfl, by omega, by omega, rfl⟩⟩
    omega
  have hdup : l.getD k 0 = l.getD (k - 1) 0 := by omega
  refine slo (cl := l) (by omega) ?_
  refine ⟨fun mm vs H => ∃ (q k2 : Nat) (cl : List Nat), vs = [.slice (some ⟨i, 0, none⟩) L cap, natV q, .slice (some ⟨i, k, none⟩) (L - k) (cap - k), natV k2] ∧ H = CH cl ∧ cl.length = L ∧ 1 ≤ k2 ∧ k + k2 ≤ L ∧ k ≤ q ∧ q + 1 ≤ k + k2 ∧ (∀ x, x ∈ cl.take q ↔ x ∈ l.take (k + k2)) ∧ (∀ j, k + k2 ≤ j + 1 → cl.getD j 0 = l.getD j 0) ∧ mm = L - (k + k2), _,
    gcL_same ⟨k, 1, l, rfl, rfl, hL, by omega, by omega, by omega, by omega, fun x => ?_, fun _ _ => rfl, rfl⟩, ?_⟩
  · rw [mem_takeD, mem_takeD]
    constructor
    · rintro ⟨j, q1, q2, q3⟩; exact ⟨j, by omega, q2, q3⟩
    · rintro ⟨j, q1, q2, q3⟩
      by_cases e : j = k
      · subst e; exact ⟨j - 1, by omega, by omega, by omega⟩
      · exact ⟨j, by omega, q2, q3⟩
  rintro m x0 x1 x2 x3 H ⟨q, k2, cl, hv, rfl, hc, h21, h2L, hkq, hq2, hmem, htail, rfl⟩
  replace hv := hv.symm
  simp only [List.cons.injEq, and_true] at hv
  obtain ⟨rfl, rfl, rfl, rfl⟩ := hv
  repeat' first | refine lenv ?_ | ((with_reducible apply s_lss)) | ((with_reducible apply s_br) <;> intro hb <;> try (exfalso; omega))
  · refine rd2 hc (by omega) ?_
    repeat' first | ((with_reducible apply s_dec); (· omega); (· omega))
    refine rd2 hc (by omega) ?_
    have t1 := htail (k + k2) (by omega)
    have t2 := htail (k + (k2 - 1)) (by omega)
    repeat' first | ((with_reducible apply s_inc); (· omega)) | ((with_reducible apply s_neq)) | ((with_reducible apply s_br) <;> intro hb <;> try (exfalso; omega))
    · refine rd2 hc (by omega) ?_
      refine wr hc (by omega) ?_
      repeat' first | ((with_reducible apply s_inc); (· omega))
      refine ⟨_, ?_, gcL_same ⟨q + 1, k2 + 1, cl.set q (cl.getD (k + k2) 0), rfl, rfl, by rw [List.length_set]; exact hc, by omega, by omega, by omega, by omega, fun x => (by rw [take_succ' (by rw [List.length_set]; omega), List.getElem_set_self, List.take_set_of_le (Nat.le_refl _), List.mem_append, List.mem_singleton, hmem, show k + (k2 + 1) = k + k2 + 1 by omega, take_succ' (l := l) (by omega), List.mem_append, List.mem_singleton, t1, getD_at (by omega)]), fun j hj => (by rw [getD_set (by omega), if_neg (by omega)]; exact htail j (by omega)), rfl⟩⟩
      omega
    · refine ⟨_, ?_, gcL_same ⟨q, k2 + 1, cl, rfl, rfl, hc, by omega, by omega, by omega, by omega, fun x => (by rw [hmem, show k + (k2 + 1) = k + k2 + 1 by omega, take_succ' (l := l) (i := k + k2) (by omega), List.mem_append, List.mem_singleton]; exact ⟨.inl, fun z => z.elim id fun z => (by rw [mem_takeD]; exact ⟨k + (k2 - 1), by omega, by omega, by rw [z, ← getD_at (d := 0) (by omega)]; omega⟩)⟩), fun j hj => htail j (by omega), rfl⟩⟩
      omega
  · have e : k + k2 = L := by omega
    rw [e, ← hL, List.take_length] at hmem
    refine slo (cl := cl) (by omega) ?_
    have clr : ∀ {K : Heap → Prop}, K (CH (cl.take q ++ List.replicate (L - q) 0)) → sW (clrW [.int .i64 0] 1 (CH cl) (.slice (some ⟨i, q, none⟩) (L - q) (cap - q))) K := fun {K} kk => by
      by_cases e0 : L - q = 0
      · refine ⟨CH cl, ?_, ?_⟩
        · simp only [clrW]
          rw [if_pos e0, if_pos (by omega)]
        · rw [e0, List.replicate_zero, List.append_nil, List.take_of_length_le (by omega)] at kk; exact kk
      · have hrep : repA [Value.int .i64 0] (L - q) = List.replicate (L - q) (natV 0) := repA_one _ _
        refine ⟨_, ?_, kk⟩
        simp only [clrW]
        rw [if_neg e0, hget, hrep]
        dsimp only
        rw [if_pos ⟨hm, by omega, by rw [List.all_eq_true]; intro x hx; rw [(List.mem_replicate.1 hx).2]; rfl, by simp; omega⟩]
        congr 1
        show ((B ++ g).set i _).set i _ = (B ++ g).set i _
        rw [List.set_set]
        congr 2
        apply List.ext_getElem?
        intro j
        rw [get_writeL _ _ _ (by simp; omega), List.length_replicate]
        by_cases j1 : q ≤ j ∧ j < q + (L - q)
        · rw [if_pos j1, List.getElem?_replicate, if_pos (by omega), List.getElem?_append_left (by simp; omega), List.map_append, List.getElem?_append_right (by simp; omega), List.map_replicate, List.getElem?_replicate, if_pos (by simp; omega)]
        · rw [if_neg j1]
          by_cases j2 : j < q
          · rw [List.getElem?_append_left (by simp; omega), List.getElem?_append_left (by simp; omega), List.map_append, List.getElem?_append_left (by simp; omega), List.map_take, List.getElem?_take, if_pos j2]
          · rw [List.getElem?_append_right (by simp; omega), List.getElem?_append_right (by simp; omega)]
            congr 1
            simp; omega
    refine clr ?_
    have hcl2 : (cl.take q ++ List.replicate (L - q) 0).length = L := by simp; omega
    refine shi (by omega) ?_
    refine gcV_same (fin hcl2 (by omega) fun x => ?_)
    rw [List.take_append_of_le_length (by simp; omega), List.take_take, Nat.min_self]
    exact hmem x

end Go.Ax

namespace Go.Ax
open Go Go.Proofs Go.RowKit

/-- Where each knot steps, told. -/
structure StOk (k : List (List (List Nat))) (S : List (List Nat)) : Prop where
  len : S.length = k.length
  mem : ∀ i x, x ∈ S.getD i [] ↔ stepK k i x
  siz : ∀ i, (S.getD i []).length ≤ 1000000
theorem stOk_step {k : List (List (List Nat))} {S : List (List Nat)} (h : StOk k S) : stepS' S = stepK k := by
  funext a b
  exact propext (h.mem a b)

theorem steps_spec {k : List (List (List Nat))} (sz : KSz k) (hsm : ∀ i (h : i < k.length), k[i].flatten.length ≤ 1000000) {h : Heap} {Q : Value → Heap → Prop} (hq : ∀ S, StOk k S → Q (wnats S) h) : acall Try.prog F_count_knots_steps [knV k] h Q := by
  have hkl := sz.len
  apply W_count_knots_steps_ok
  unfold W_count_knots_steps
  repeat' first | refine s_mks (by omega) (by omega) ?_ | ((with_reducible apply s_lenM))
  refine ⟨fun m vs H => ∃ (i : Nat) (v : Value) (done : List (List Nat)) (g : Heap), vs = [v, knV k, natV k.length, natV i] ∧ H = h ++ g ∧ Acc 1 h.length (h ++ g) v (done.map nats ++ List.replicate (k.length - i) (.slice none 0 0)) ∧ done.length = i ∧
      (∀ j x, x ∈ done.getD j [] ↔ j < i ∧ stepK k j x) ∧ (∀ j, (done.getD j []).length ≤ 1000000) ∧ i ≤ k.length ∧ m = k.length - i, _,
    gcL_same ⟨0, _, [], _, rfl, rfl, acc_mks rfl, rfl, fun j x => ⟨fun q => by simp at q, fun q => by omega⟩, fun j => by simp, by omega, rfl⟩, ?_⟩
  rintro m x0 x1 x2 x3 H ⟨i, v, done, g, hv, rfl, a, hdl, hmem, hsz, hi, rfl⟩
  replace hv := hv.symm
  simp only [List.cons.injEq, and_true] at hv
  obtain ⟨rfl, rfl, rfl, rfl⟩ := hv
  repeat' first | ((with_reducible apply s_lss)) | ((with_reducible apply s_br) <;> intro hb <;> try (exfalso; omega)) | ((with_reducible apply s_lenM)) | ((with_reducible refine s_ix (by omega) ?_ ?_); (· rfl)) | ((with_reducible apply s_ld1); (· rfl))
  rotate_left
  · have e : i = k.length := by omega
    subst e
    rw [Nat.sub_self, List.replicate_zero, List.append_nil] at a
    refine tNats.done (by omega) a rfl ⟨[], (List.append_nil _).symm⟩ (hq done ⟨hdl, fun j x => ?_, hsz⟩)
    rw [hmem]
    refine ⟨fun q => q.2, fun q => ⟨?_, q⟩⟩
    obtain ⟨l, hl, _⟩ := q
    apply Classical.byContradiction
    intro hn
    rw [noway (by omega)] at hl; cases hl
  have hil : i < k.length := by omega
  have hkg : k.getD i [] = k[i] := getD_at hil
  have hwl := sz.ways i hil
  have hfl := hsm i hil
  obtain ⟨r, hr⟩ : ∃ r, k.length - i = r + 1 := ⟨k.length - i - 1, by omega⟩
  rw [hr] at a
  have G := Grid.start (f := natV) (sz := 1) a
  refine ⟨fun m vs H => ∃ (w : Nat) (cur : Value) (g' : Heap), vs = [v, natV i, knV k, natV k.length, natV i, wnats k[i], natV k[i].length, natV w] ∧ H = h ++ g' ∧ Grid 1 natV h.length (h ++ g') v done cur (k[i].take w).flatten r ∧ w ≤ k[i].length ∧ m = k[i].length - w, _,
    gcL_same ⟨0, _, g, rfl, rfl, G, by omega, rfl⟩, ?_⟩
  clear G a
  rintro m x0 x1 x2 x3 x4 x5 x6 x7 H ⟨w, cur, g', hv, rfl, G, hw, rfl⟩
  replace hv := hv.symm
  simp only [List.cons.injEq, and_true] at hv
  obtain ⟨rfl, rfl, rfl, rfl, rfl, rfl, rfl, rfl⟩ := hv
  have hfw : (k[i].take w).flatten.length ≤ 1000000 := by
    refine Nat.le_trans ?_ hfl
    conv => rhs; rw [← List.take_append_drop w k[i], List.flatten_append, List.length_append]
    omega
  repeat' first | ((with_reducible apply s_lss)) | ((with_reducible apply s_br) <;> intro hb <;> try (exfalso; omega)) | ((with_reducible refine s_ix (by omega) ?_ ?_); (· rfl)) | ((with_reducible apply s_ld1); (· rfl))
  · have hwk : w < k[i].length := by omega
    have hft : (k[i].take (w + 1)).flatten = (k[i].take w).flatten ++ k[i][w] := by rw [take_succ' hwk, List.flatten_append]; simp
    have hfw2 : (k[i].take (w + 1)).flatten.length ≤ 1000000 := by
      refine Nat.le_trans ?_ hfl
      conv => rhs; rw [← List.take_append_drop (w + 1) k[i], List.flatten_append, List.length_append]
      omega
    rw [hft, List.length_append] at hfw2
    refine G.appL tNat (by omega) rfl hdl (by omega) (by omega) fun cur' g2 G2 => ?_
    repeat' first | ((with_reducible apply s_inc); (· omega))
    refine ⟨_, ?_, gcL_same ⟨w + 1, cur', g2, rfl, rfl, by rw [hft]; exact G2, by omega, rfl⟩⟩
    omega
  · have e : w = k[i].length := by omega
    subst e
    rw [List.take_length] at G
    refine G.rd hdl ?_
    refine s_call (sort_spec rfl G.acc (by omega) fun l1 g1 p1 a1 f1 n1 => ?_)
    have G1 := G.turn a1 fun j _ hj => f1 j hj
    refine G1.rd hdl ?_
    have hl1 := p1.length_eq
    refine s_call (compact_spec rfl a1 (by omega) fun v2 l2 g2 a2 m2 le2 li2 f2 n2 => ?_)
    have ap2 : ∀ j, lies v2 j → ¬ lies v j := fun j hj => G1.apart j (li2 j hj)
    have ao2 : Acc 1 h.length (h ++ g2) v (done.map (fun l => lit (l.map natV)) ++ cur :: List.replicate r (.slice none 0 0)) := G1.out.congr fun j hj => f2 j fun hc => G1.apart j hc hj
    refine Acc.set rfl ao2 (by omega) G1.lens (by rw [a2.cell.2.1]; rfl) a2.cell.1 (by rw [a2.cell.2.1]; simp [a2.cell.2.2]) (G1.lt hdl) fun g3 a3 f3 => ?_
    have e3 : (done.map (fun l => lit (l.map natV)) ++ cur :: List.replicate r (.slice none 0 0)).set i v2 = done.map (fun l => lit (l.map natV)) ++ v2 :: List.replicate r (.slice none 0 0) := by
      rw [List.set_append_right _ _ (by simp; omega)]
      simp [hdl]
    rw [e3] at a3
    have G3 : Grid 1 natV h.length (h ++ g3) v done v2 l2 r := ⟨a3, a2.congr fun j hj => f3 j (ap2 j hj), ap2⟩
    repeat' first | ((with_reducible apply s_inc); (· omega))
    have hgd : ∀ j, (done ++ [l2]).getD j [] = if j = i then l2 else done.getD j [] := fun j => by
      rw [List.getD_eq_getElem?_getD, List.getElem?_append]
      by_cases q : j < done.length
      · rw [if_pos q, if_neg (by omega), List.getD_eq_getElem?_getD]
      · rw [if_neg q]
        by_cases q2 : j = i
        · rw [if_pos q2, show j - done.length = 0 by omega]; rfl
        · rw [if_neg q2, List.getD_eq_getElem?_getD, List.getElem?_eq_none (show [l2].length ≤ j - done.length by simp; omega), List.getElem?_eq_none (show done.length ≤ j by omega)]
    refine ⟨k.length - (i + 1), by omega, G3.next tNat (by omega) fun fr r' v' g' hfr gv a' => ⟨[v', knV k, natV k.length, natV (i + 1)], ⟨gv, .cl tW.clL, .cl (.int _ _), .cl (.int _ _), trivial⟩, i + 1, v', done ++ [l2], g', rfl, rfl, ?_, by rw [List.length_append, hdl]; rfl, fun j x => ?_, fun j => ?_, by omega, rfl⟩⟩
    · rw [show k.length - (i + 1) = r by omega]; exact a'
    · rw [hgd]
      split
      · rename_i q; subst q
        rw [m2, p1.mem_iff, List.mem_flatten]
        refine ⟨fun ⟨l, z1, z2⟩ => ⟨by omega, l, by rw [hkg]; exact z1, z2⟩, fun ⟨_, l, z1, z2⟩ => ⟨l, by rwa [hkg] at z1, z2⟩⟩
      · rename_i q
        rw [hmem]
        exact ⟨fun z => ⟨by omega, z.2⟩, fun z => ⟨by omega, z.2⟩⟩
    · rw [hgd]
      split
      · omega
      · exact hsz j

end Go.Ax

namespace Go.Ax
open Go Go.Proofs Go.RowKit

theorem fertR_get {k : List (List (List Nat))} {i : Nat} : (fertR k).getD i [] = (k.getD i []).filter (okWay (leastR k)) := by
  unfold fertR
  rw [List.getD_eq_getElem?_getD, List.getD_eq_getElem?_getD, List.getElem?_map]
  cases k[i]? <;> rfl
theorem fertR_at {k : List (List (List Nat))} {i : Nat} (h : i < (fertR k).length) : (fertR k)[i] = (k[i]'(by rw [fertR_len] at h; exact h)).filter (okWay (leastR k)) := by simp [fertR]
theorem ksz_fert {k : List (List (List Nat))} (sz : KSz k) : KSz (fertR k) :=
  ⟨by rw [fertR_len]; exact sz.len, fun i h => by rw [fertR_at h]; exact Nat.le_trans (List.length_filter_le ..) (sz.ways i (by rw [fertR_len] at h; exact h)), fun i l hl => by rw [fertR_get] at hl; exact sz.kids i l (List.mem_filter.1 hl).1⟩
theorem kkid_fert {k : List (List (List Nat))} {W : Nat} (ok : KOk k W) : KKid (fertR k) := fun i l hl x hx => by
  rw [fertR_len]; rw [fertR_get] at hl; exact ok.kid i l (List.mem_filter.1 hl).1 x hx
theorem kok_fert {k : List (List (List Nat))} {W : Nat} (ok : KOk k W) : KOk (fertR k) W :=
  ⟨kkid_fert ok, fun i l hl => by rw [fertR_get] at hl; exact ok.wid i l (List.mem_filter.1 hl).1, by rw [fertR_len]; exact ok.big⟩
/-- Few kids in all. -/
def KSm (k : List (List (List Nat))) : Prop := ∀ i (h : i < k.length), k[i].flatten.length ≤ 1000000
theorem flatten_filter {α : Type} {p : List α → Bool} : ∀ {l : List (List α)}, (l.filter p).flatten.length ≤ l.flatten.length
  | [] => by simp
  | x :: l => by
    have := flatten_filter (p := p) (l := l)
    rw [List.filter_cons]
    split
    · simp only [List.flatten_cons, List.length_append]; omega
    · simp only [List.flatten_cons, List.length_append]; omega
theorem ksm_fert {k : List (List (List Nat))} (sm : KSm k) : KSm (fertR k) := fun i h => by
  rw [fertR_at h]; exact Nat.le_trans flatten_filter (sm i (by rw [fertR_len] at h; exact h))
/-- Endlessly many trees. -/
def endP (F : List (List (List Nat))) (i : Nat) : Prop := ∃ j, (j = i ∨ Plus (stepK F) i j) ∧ Plus (stepK F) j j
theorem tot_ex {F : List (List (List Nat))} (kid : KKid F) {i : Nat} (h : ¬ endP F i) : ∃ m, TotK F i m :=
  tot_of (n := F.length) kid _ i (Nat.le_refl _) (fun q => h ⟨i, .inl rfl, q⟩) fun j hj q => h ⟨j, .inr hj, q⟩
theorem plus_lt {F : List (List (List Nat))} (kid : KKid F) {a b : Nat} (h : Plus (stepK F) a b) : b < F.length := by
  have : ∀ a b, stepK F a b → b < F.length := fun a b ⟨l, hl, hx⟩ => kid a l hl b hx
  induction h with
  | one h => exact this _ _ h
  | cons _ _ ih => exact ih
/-- A forest that can be counted. -/
structure TOk (g : Gr) (f : List Kt) (W : Nat) : Prop where
  fok : FOk g f
  kok : KOk (kidsK g f) W
  ksz : KSz (kidsK g f)
  ksm : KSm (kidsK g f)
theorem kidsK_len {g : Gr} {f : List Kt} : (kidsK g f).length = f.length := by simp [kidsK]

theorem rTrees_spec {g : Gr} {f : List Kt} {W : Nat} (ok : TOk g f W) {i : Nat} (hi : i < f.length) {h : Heap} {Q : Value → Heap → Prop} (hE : endP (fertR (kidsK g f)) i → Q (.tuple #[.int .i64 0, .bool true]) h)
    (hT : ¬ endP (fertR (kidsK g f)) i → ∀ m, TotK (fertR (kidsK g f)) i m → Q (.tuple #[natV (capN m), .bool false]) h) : acall Try.prog F_homographref28_Trees [g.enc, knots f, natV i] h Q := by
  have hfl := ok.fok.len
  apply W_homographref28_Trees_ok
  unfold W_homographref28_Trees
  rw [box_gr, hW_some]
  have ag : getRow (h ++ [grow g]) h.length = some (g.cells, .exact) := row_last
  refine ⟨fun vs H => vs = [knots f, natV i, .pointer (some ⟨h.length, 0, none⟩)] ∧ H = h ++ [grow g], ?_, ?_⟩
  · repeat' first | ((with_reducible apply s_lss)) | ((with_reducible apply s_geq)) | ((with_reducible apply s_br) <;> intro hb <;> try (exfalso; omega)) | ((with_reducible apply s_lenM))
    exact gcL_same ⟨rfl, rfl⟩
  rintro x7 x8 x9 h10 ⟨hv, rfl⟩
  replace hv := hv.symm
  simp only [List.cons.injEq, and_true] at hv
  obtain ⟨rfl, rfl, rfl⟩ := hv
  repeat' first | ((with_reducible apply s_rowA); (· first | assumption | exact row_last | exact getRow_app (by first | assumption | exact row_last | exact getRow_app (by first | assumption | exact row_last))); (· rfl)) | ((with_reducible apply s_call))
  refine rkidsAll_spec ok.fok ?_
  repeat' first | ((with_reducible apply s_call))
  refine rfert_spec ok.kok ok.ksz ?_
  repeat' first | ((with_reducible apply s_call))
  have hFl : (fertR (kidsK g f)).length = f.length := by rw [fertR_len, kidsK_len]
  have kid := kkid_fert ok.kok
  have szF := ksz_fert ok.ksz
  have kokF := kok_fert ok.kok
  generalize fertR (kidsK g f) = F at hE hT hFl kid szF kokF ⊢
  refine leads28_spec kokF szF fun T td => ?_
  have htl := td.len
  refine ⟨fun m vs H => ∃ j : Nat, vs = [knots f, natV i, knV F, lit (T.map bools), natV j] ∧ H = h ++ [grow g] ∧ (∀ j', j' < j → ¬ (onT T j' j' ∧ (j' = i ∨ onT T i j'))) ∧ j ≤ f.length ∧ m = f.length - j, _, gcL_same ⟨0, rfl, rfl, fun _ q => by omega, by omega, rfl⟩, ?_⟩
  rintro m x0 x1 x2 x3 x4 H ⟨j, hv, rfl, hno, hj, rfl⟩
  replace hv := hv.symm
  simp only [List.cons.injEq, and_true] at hv
  obtain ⟨rfl, rfl, rfl, rfl, rfl⟩ := hv
  have tb : ∀ {a b : Nat} {K : Value → Prop} (ha : a < T.length) (hb : b < f.length), K (.bool (decide (onT T a b))) → oW (iaS 1 (bools T[a]) (natV b)) fun p => oW (ldW false 1 (h ++ [grow g]) p) K := fun {a b K} ha hb q => by
    have hw := td.wid _ (List.getElem_mem ha)
    refine s_ix (by omega) rfl (s_ld1 rfl ?_)
    have e : decide (onT T a b) = T[a][b] := by
      have hh : onT T a b ↔ T[a][b] = true := by rw [onT_iff ha]; unfold onL; rw [getD_at (by omega)]
      cases e : T[a][b] with
      | true => exact decide_eq_true (hh.2 e)
      | false => exact decide_eq_false fun q => by rw [hh.1 q] at e; cases e
    rw [e] at q; exact q
  repeat' first | ((with_reducible apply s_lss)) | ((with_reducible apply s_br) <;> intro hb <;> try (exfalso; omega)) | ((with_reducible apply s_lenM)) | ((with_reducible refine s_ix (by omega) ?_ ?_); (· rfl)) | ((with_reducible apply s_ld1); (· rfl))
  · refine tb (by omega) (by omega) ?_
    repeat' first | ((with_reducible apply s_inc); (· omega)) | ((with_reducible apply s_eql)) | ((with_reducible apply s_brT)) | ((with_reducible apply s_brF)) | ((with_reducible apply s_br) <;> intro hb <;> try (exfalso; omega)) | ((with_reducible refine s_ix (by omega) ?_ ?_); (· rfl)) | ((with_reducible apply s_ld1); (· rfl))
    · exact gcV_frz ⟨_, rfl⟩ (fun _ _ _ => .tup2 (.cl (.int _ _)) (.cl (.bool _))) (hE ⟨j, .inl (by omega), (td.all j j).1 (by assumption)⟩)
    · refine tb (by omega) (by omega) ?_
      repeat' first | ((with_reducible apply s_inc); (· omega)) | ((with_reducible apply s_br) <;> intro hb <;> try (exfalso; omega))
      · exact gcV_frz ⟨_, rfl⟩ (fun _ _ _ => .tup2 (.cl (.int _ _)) (.cl (.bool _))) (hE ⟨j, .inr ((td.all i j).1 hb), (td.all j j).1 (by assumption)⟩)
      · refine ⟨_, ?_, gcL_same ⟨j + 1, rfl, rfl, fun j' hj' => (by by_cases e : j' = j; (subst e; exact fun z => z.2.elim (fun z => by omega) fun z => hb z); exact hno j' (by omega)), by omega, rfl⟩⟩
        omega
    · refine ⟨_, ?_, gcL_same ⟨j + 1, rfl, rfl, fun j' hj' => (by by_cases e : j' = j; (subst e; exact fun z => hb z.1); exact hno j' (by omega)), by omega, rfl⟩⟩
      omega
  have hje : j = f.length := by omega
  have hne : ¬ endP F i := fun ⟨j', z1, z2⟩ => by
    have := plus_lt kid z2
    exact hno j' (by omega) ⟨(td.all j' j').2 z2, z1.imp id fun z => (td.all i j').2 z⟩
  obtain ⟨m, hm⟩ := tot_ex kid hne
  refine s_mks (by omega) (by omega) ?_
  have e0 : ∀ n, AObj.row (List.replicate n (.int .i64 0)) .exact = .row ((List.replicate n 0).map vi) .exact := fun n => by rw [List.map_replicate]
  rw [e0]
  refine ⟨fun m vs H => ∃ (q : Nat) (kn : List Int), vs = [knots f, natV i, knV F, thV (h ++ [grow g]) f.length, natV q] ∧ H = TH (h ++ [grow g]) kn ∧ kn.length = f.length ∧ (∀ x, x < q → kn.getD x (-1) = -1) ∧ q ≤ f.length ∧ m = f.length - q, _, gcL_same ⟨0, List.replicate f.length 0, rfl, rfl, by simp, fun _ z => by omega, by omega, rfl⟩, ?_⟩
  rintro m x0 x1 x2 x3 x4 H ⟨q, kn, hv, rfl, hkn, hlow, hq, rfl⟩
  replace hv := hv.symm
  simp only [List.cons.injEq, and_true] at hv
  obtain ⟨rfl, rfl, rfl, rfl, rfl⟩ := hv
  repeat' first | ((with_reducible apply s_lss)) | ((with_reducible apply s_br) <;> intro hb <;> try (exfalso; omega)) | ((with_reducible apply s_lenM)) | ((with_reducible apply s_call))
  · refine TH.set hkn (by omega) ?_
    repeat' first | ((with_reducible apply s_inc); (· omega))
    refine ⟨_, ?_, gcL_same ⟨q + 1, kn.set q (-1), rfl, rfl, by rw [List.length_set]; exact hkn, fun x hx => (by rw [getD_setI (by omega)]; split; rfl; exact hlow x (by omega)), by omega, rfl⟩⟩
    omega
  · have hqe : q = f.length := by omega
    rw [← hFl]
    refine rtotal_spec szF kid hm (by omega) (by omega) (fun x hx => ?_) fun kn' _ _ => ?_
    · by_cases z : x < q
      · rw [hlow x z] at hx; omega
      · rw [List.getD_eq_getElem?_getD, List.getElem?_eq_none (by omega)] at hx
        simp at hx
    · repeat' first | ((with_reducible apply s_e20)) | ((with_reducible apply s_e21))
      exact gcV_frz ⟨_, List.append_assoc _ _ _⟩ (fun _ _ _ => .tup2 (.cl (.int _ _)) (.cl (.bool _))) (hT hne m hm)

end Go.Ax

namespace Go.Ax
open Go Go.Proofs Go.RowKit

theorem s_updB {n i : Nat} {B g : Heap} {v : Value} {out : List Bool} {K : Heap → Prop} (a : Acc 1 n (B ++ g) v (out.map .bool)) (hB : B.length = n) (hi : i < out.length)
    (q : ∀ g', Acc 1 n (B ++ g') v ((out.set i true).map .bool) → (∀ j, ¬ lies v j → (B ++ g')[j]? = (B ++ g)[j]?) → K (B ++ g')) : oW (iaS 1 v (natV i)) fun p => sW (stW 1 (B ++ g) p (.bool true)) K :=
  Acc.set hB a (by omega) tBool.lens rfl rfl rfl (by simpa using hi) fun g' a' f => q g' (by rw [List.map_set]; exact a') f
theorem onL_at {mk : List Bool} {x : Nat} (h : x < mk.length) : mk[x] = decide (onL mk x) := by
  have hh : onL mk x ↔ mk[x] = true := by unfold onL; rw [getD_at h]
  cases e : mk[x] with
  | true => exact (decide_eq_true (hh.2 e)).symm
  | false => exact (decide_eq_false fun q => by rw [hh.1 q] at e; cases e).symm
theorem bool_at {n : Nat} {H : Heap} {v : Value} {mk : List Bool} (a : Acc 1 n H v (mk.map .bool)) {x : Nat} (hx : x < mk.length) {K : Value → Prop} (k : K (.bool (decide (onL mk x)))) : oW (iaS 1 v (natV x)) fun p => oW (ldW false 1 H p) K := by
  refine tBool.at1 (by omega) (fun _ => rfl) a (j := x) hx ?_
  rw [onL_at hx]; exact k

theorem cTrees_spec {g : Gr} {f : List Kt} {W : Nat} (ok : TOk g f W) {i : Nat} (hi : i < f.length) {h : Heap} {Q : Value → Heap → Prop} (hE : endP (fertR (kidsK g f)) i → Q (.tuple #[.int .i64 0, .bool true]) h)
    (hT : ¬ endP (fertR (kidsK g f)) i → ∀ m, TotK (fertR (kidsK g f)) i m → Q (.tuple #[natV (capN m), .bool false]) h) : acall Try.prog F_count_Trees [g.enc, knots f, natV i] h Q := by
  have hfl := ok.fok.len
  apply W_count_Trees_ok
  unfold W_count_Trees
  rw [box_gr, hW_some]
  have ag : getRow (h ++ [grow g]) h.length = some (g.cells, .exact) := row_last
  repeat' first | ((with_reducible apply s_lss)) | ((with_reducible apply s_geq)) | ((with_reducible apply s_br) <;> intro hb <;> try (exfalso; omega)) | ((with_reducible apply s_lenM)) | ((with_reducible apply s_rowA); (· first | assumption | exact row_last | exact getRow_app (by first | assumption | exact row_last | exact getRow_app (by first | assumption | exact row_last))); (· rfl)) | ((with_reducible apply s_call))
  refine of_spec ok.fok ?_
  repeat' first | ((with_reducible apply s_call))
  refine cfert_spec ok.kok ok.ksz ?_
  repeat' first | ((with_reducible apply s_call))
  have hFl : (fertR (kidsK g f)).length = f.length := by rw [fertR_len, kidsK_len]
  have kid := kkid_fert ok.kok
  have szF := ksz_fert ok.ksz
  have smF := ksm_fert ok.ksm
  generalize fertR (kidsK g f) = F at hE hT hFl kid szF smF ⊢
  refine steps_spec szF smF fun S st => ?_
  have hst := stOk_step st
  have hSl := st.len
  have hSk : ∀ x, ∀ y ∈ S.getD x [], y < S.length := fun x y hy => by
    obtain ⟨l, hl, hx⟩ := (st.mem x y).1 hy
    rw [hSl]; exact kid x l hl y hx
  repeat' first | ((with_reducible apply s_call))
  refine behind_spec (by omega) hSk st.siz (by omega) fun mk hmk hon v g1 a1 => ?_
  refine s_updB a1 rfl (by omega) fun g2 a2 _ => ?_
  rw [hst] at hon
  have hml : (mk.set i true).length = f.length := by rw [List.length_set]; omega
  have hon2 : ∀ x, onL (mk.set i true) x ↔ Plus (stepK F) i x ∨ x = i := fun x => by rw [onL_set (by omega), hon]
  generalize mk.set i true = mk2 at a2 hml hon2
  refine s_lenAM a2 ?_
  refine ⟨fun m vs H => ∃ (j : Nat) (T : Heap), vs = [natV i, knV F, wnats S, v, natV mk2.length, natV j] ∧ H = h ++ [grow g] ++ (g2 ++ T) ∧ (∀ j', j' < j → ¬ ((Plus (stepK F) i j' ∨ j' = i) ∧ Plus (stepK F) j' j')) ∧ j ≤ f.length ∧ m = f.length - j, _, gcL_same ⟨0, [], rfl, by rw [List.append_nil], fun _ q => by omega, by omega, rfl⟩, ?_⟩
  rintro m x0 x1 x2 x3 x4 x5 H ⟨j, T, hv, rfl, hno, hj, rfl⟩
  replace hv := hv.symm
  simp only [List.cons.injEq, and_true] at hv
  obtain ⟨rfl, rfl, rfl, rfl, rfl, rfl⟩ := hv
  have a3 := a2.appR (t := T)
  repeat' first | ((with_reducible apply s_lss)) | ((with_reducible apply s_br) <;> intro hb <;> try (exfalso; omega)) | ((with_reducible apply s_call)) | ((with_reducible apply s_let))
  · refine bool_at a3 (by omega) ?_
    repeat' first | ((with_reducible apply s_inc); (· omega)) | ((with_reducible apply s_brF)) | ((with_reducible apply s_br) <;> intro hb <;> try (exfalso; omega)) | ((with_reducible apply s_call))
    · refine behind_spec (by omega) hSk st.siz (by omega) fun mk3 hmk3 hon3 v3 g3 a4 => ?_
      rw [hst] at hon3
      refine bool_at a4 (by omega) ?_
      repeat' first | ((with_reducible apply s_inc); (· omega)) | ((with_reducible apply s_br) <;> intro hb <;> try (exfalso; omega))
      · refine gcV_frz ⟨[grow g] ++ (g2 ++ T) ++ g3, by simp⟩ (fun _ _ _ => .tup2 (.cl (.int _ _)) (.cl (.bool _))) (hE ⟨j, ?_, (hon3 j).1 hb⟩)
        exact ((hon2 j).1 (by assumption)).symm
      · refine ⟨_, ?_, gcL_same ⟨j + 1, T ++ g3, rfl, by simp, fun j' hj' => (by by_cases e : j' = j; (subst e; exact fun z => hb ((hon3 j').2 z.2)); exact hno j' (by omega)), by omega, rfl⟩⟩
        omega
    · refine ⟨_, ?_, gcL_same ⟨j + 1, T, rfl, rfl, fun j' hj' => (by by_cases e : j' = j; (subst e; exact fun z => hb ((hon2 j').2 z.1)); exact hno j' (by omega)), by omega, rfl⟩⟩
      omega
  have hje : j = f.length := by omega
  have hne : ¬ endP F i := fun ⟨j', z1, z2⟩ => by
    have := plus_lt kid z2
    exact hno j' (by omega) ⟨z1.symm, z2⟩
  obtain ⟨m, hm⟩ := tot_ex kid hne
  refine ctotal_spec szF kid hm (by omega) (E := []) (fun x v hx => by cases hx) fun E' _ => ?_
  exact gcV_frz ⟨[grow g] ++ (g2 ++ T) ++ [.map (encE E')], by unfold MH; simp⟩ (fun _ _ _ => .tup2 (.cl (.int _ _)) (.cl (.bool _))) (hT hne m hm)

theorem cLeast_spec {g : Gr} {f : List Kt} {W : Nat} (ok : TOk g f W) {i : Nat} (hi : i < f.length) {h : Heap} {Q : Value → Heap → Prop} (hq : Q (natV ((leastR (kidsK g f)).getD i 0)) h) : acall Try.prog F_count_Least [g.enc, knots f, natV i] h Q := by
  have hfl := ok.fok.len
  apply W_count_Least_ok
  unfold W_count_Least
  rw [box_gr, hW_some]
  have ag : getRow (h ++ [grow g]) h.length = some (g.cells, .exact) := row_last
  repeat' first | ((with_reducible apply s_lss)) | ((with_reducible apply s_geq)) | ((with_reducible apply s_br) <;> intro hb <;> try (exfalso; omega)) | ((with_reducible apply s_lenM)) | ((with_reducible apply s_rowA); (· first | assumption | exact row_last | exact getRow_app (by first | assumption | exact row_last | exact getRow_app (by first | assumption | exact row_last))); (· rfl)) | ((with_reducible apply s_call))
  refine of_spec ok.fok ?_
  repeat' first | ((with_reducible apply s_call))
  refine cleast_spec ok.kok ok.ksz ?_
  have hl : (leastR (kidsK g f)).length = f.length := (itrL_ok ok.kok).len.trans kidsK_len
  repeat' first | ((with_reducible refine s_ix (by omega) ?_ ?_); (· rfl)) | ((with_reducible apply s_ld1); (· rfl))
  rw [getD_at (by omega)] at hq
  exact ret_end (.int _ _) hq

theorem cLoops_spec {g : Gr} {f : List Kt} {W : Nat} (ok : TOk g f W) {h : Heap} {Q : Value → Heap → Prop} (hq : ∀ l : List Bool, l.length = f.length → (∀ i, onL l i ↔ Plus (stepK (kidsK g f)) i i) → Q (bools l) h) : acall Try.prog F_count_Loops [g.enc, knots f] h Q := by
  have hfl := ok.fok.len
  apply W_count_Loops_ok
  unfold W_count_Loops
  rw [box_gr, hW_some]
  have ag : getRow (h ++ [grow g]) h.length = some (g.cells, .exact) := row_last
  repeat' first | ((with_reducible apply s_rowA); (· first | assumption | exact row_last | exact getRow_app (by first | assumption | exact row_last | exact getRow_app (by first | assumption | exact row_last))); (· rfl)) | ((with_reducible apply s_call))
  refine of_spec ok.fok ?_
  repeat' first | ((with_reducible apply s_call))
  have hKl : (kidsK g f).length = f.length := kidsK_len
  have kid := ok.kok.kid
  have sz := ok.ksz
  have sm := ok.ksm
  generalize kidsK g f = F at hq hKl kid sz sm ⊢
  refine steps_spec sz sm fun S st => ?_
  have hst := stOk_step st
  have hSl := st.len
  have hSk : ∀ x, ∀ y ∈ S.getD x [], y < S.length := fun x y hy => by
    obtain ⟨l, hl, hx⟩ := (st.mem x y).1 hy
    rw [hSl]; exact kid x l hl y hx
  repeat' first | ((with_reducible apply s_lenM))
  refine ⟨fun m vs H => ∃ (j : Nat) (v : Value) (l : List Bool) (g' : Heap), vs = [wnats S, v, natV S.length, natV j] ∧ H = h ++ g' ∧ Acc 1 h.length (h ++ g') v (l.map .bool) ∧ l.length = j ∧ (∀ x, onL l x ↔ x < j ∧ Plus (stepK F) x x) ∧ j ≤ f.length ∧ m = f.length - j, _,
    gcL_same ⟨0, _, [], _, rfl, rfl, .nil, rfl, fun x => ⟨fun q => by simp [onL] at q, fun q => by omega⟩, by omega, rfl⟩, ?_⟩
  rintro m x0 x1 x2 x3 H ⟨j, v, l, g', hv, rfl, a, hl, hon, hj, rfl⟩
  replace hv := hv.symm
  simp only [List.cons.injEq, and_true] at hv
  obtain ⟨rfl, rfl, rfl, rfl⟩ := hv
  repeat' first | ((with_reducible apply s_lss)) | ((with_reducible apply s_br) <;> intro hb <;> try (exfalso; omega)) | ((with_reducible apply s_call))
  · refine behind_spec (by omega) hSk st.siz (by omega) fun mk hmk hm v3 g3 a4 => ?_
    rw [hst] at hm
    refine bool_at a4 (by omega) ?_
    rw [List.append_assoc]
    refine tBool.push (x := decide (onL mk j)) (bytes := 1) (by omega) a.appR rfl rfl (by omega) (by omega) fun v' g2 a2 _ _ _ => ?_
    repeat' first | ((with_reducible apply s_inc); (· omega))
    have hsn : ∀ x, onL (l ++ [decide (onL mk j)]) x ↔ onL l x ∨ (x = j ∧ onL mk j) := fun x => by
      unfold onL
      rw [List.getD_eq_getElem?_getD, List.getElem?_append, List.getD_eq_getElem?_getD (l := l)]
      by_cases q : x < l.length
      · rw [if_pos q]
        exact ⟨.inl, fun z => z.elim id fun z => by omega⟩
      · rw [if_neg q, List.getElem?_eq_none (show l.length ≤ x by omega)]
        by_cases q2 : x = j
        · subst q2
          rw [show x - l.length = 0 by omega]
          exact ⟨fun z => .inr ⟨rfl, of_decide_eq_true z⟩, fun z => z.elim (fun z => (by cases z)) fun z => decide_eq_true z.2⟩
        · rw [List.getElem?_eq_none (by simp; omega)]
          exact ⟨fun z => (by cases z), fun z => z.elim (fun z => (by cases z)) fun z => absurd z.1 q2⟩
    refine ⟨_, ?_, gcL_same ⟨j + 1, v', _, g2, rfl, rfl, a2, by rw [List.length_append, hl]; rfl, fun x => (by rw [hsn, hon, hm]; exact ⟨fun z => z.elim (fun z => ⟨by omega, z.2⟩) fun z => ⟨by omega, by rw [z.1]; exact z.2⟩, fun z => (by by_cases e : x = j; (exact .inr ⟨e, by rw [← e]; exact z.2⟩); exact .inl ⟨by omega, z.2⟩)⟩), by omega, rfl⟩⟩
    omega
  · have e : j = f.length := by omega
    subst e
    refine tBool.done (by omega) a rfl ⟨[], (List.append_nil _).symm⟩ (hq l hl fun x => ?_)
    rw [hon]
    exact ⟨fun z => z.2, fun z => ⟨by have := plus_lt kid z; omega, z⟩⟩

end Go.Ax

namespace Go.Ax
open Go Go.Proofs Go.RowKit

/-- A table of numbers: a box, a row of rows, the rows. -/
structure SzAt (b N M : Nat) (H : Heap) (T : List (List Nat)) : Prop where
  box : ∃ m, getRow H (b + 1) = some ([.slice (some ⟨b, 0, none⟩) N N], m)
  bk : ∃ m, getRow H b = some ((List.range N).map (fun j => rowV M (b + 2 + j)), m)
  row : ∀ j, j < N → getRow H (b + 2 + j) = some ((T.getD j []).map natV, .exact)
  wid : ∀ j, j < N → (T.getD j []).length = M
  len : T.length = N
section
variable {b N M : Nat} {H : Heap} {T : List (List Nat)} (a : SzAt b N M H T)
include a
theorem SzAt.ix {i : Nat} (hi : i < N) {K : Value → Value → Prop} (k : K (.pointer (some ⟨b, i, none⟩)) (rowV M (b + 2 + i))) : oW (iaS 1 (.slice (some ⟨b, 0, none⟩) N N) (natV i)) fun p => oW (ldW false 1 H p) (K p) := by
  obtain ⟨m, h⟩ := a.bk
  rw [iaS_slice hi, oW_some, Nat.zero_add, Nat.mul_one]
  exact s_row h (by simp [hi]) k
theorem SzAt.cell {i s : Nat} (hi : i < N) (hs : s < M) {K : Value → Value → Prop} (k : K (.pointer (some ⟨b + 2 + i, s, none⟩)) (natV ((T.getD i []).getD s 0))) : oW (iaS 1 (rowV M (b + 2 + i)) (natV s)) fun p => oW (ldW false 1 H p) (K p) := by
  have hw := a.wid i hi
  rw [iaS_slice hs, oW_some, Nat.zero_add, Nat.mul_one]
  refine s_row (a.row i hi) ?_ k
  rw [List.getElem?_map, List.getElem?_eq_getElem (by omega)]
  exact congrArg (fun z => some (natV z)) (getD_at (by omega)).symm
theorem SzAt.put {i s v : Nat} (hi : i < N) (hs : s < M) {K : Heap → Prop}
    (k : ∀ H', SzAt b N M H' (T.set i ((T.getD i []).set s v)) → (∀ j, j ≠ b + 2 + i → H'[j]? = H[j]?) → H'.length = H.length → K H') : oW (iaS 1 (rowV M (b + 2 + i)) (natV s)) fun p => sW (stW 1 H p (natV v)) K := by
  have hw := a.wid i hi
  have hl := a.len
  rw [iaS_slice hs, oW_some, Nat.zero_add, Nat.mul_one, st1 (a.row i hi) (by simp) rfl rfl rfl (by rw [List.length_map]; omega), sW_some]
  have hlt := getRow_lt (a.row i hi)
  have ne : ∀ j, j ≠ b + 2 + i → (H.set (b + 2 + i) (.row (((T.getD i []).map natV).set s (natV v)) .exact))[j]? = H[j]? := fun j hj => List.getElem?_set_ne (Ne.symm hj)
  have gd : ∀ j, (T.set i ((T.getD i []).set s v)).getD j [] = if j = i then (T.getD i []).set s v else T.getD j [] := fun j => by
    rw [List.getD_eq_getElem?_getD, List.getElem?_set]
    by_cases q : i = j
    · rw [if_pos q, if_pos (by omega), if_pos q.symm]; rfl
    · rw [if_neg q, if_neg (Ne.symm q), List.getD_eq_getElem?_getD]
  refine k _ ⟨?_, ?_, fun j hj => ?_, fun j hj => ?_, by rw [List.length_set]; exact hl⟩ ne (by simp)
  · obtain ⟨m, h⟩ := a.box
    exact ⟨m, (getRow_same (ne _ (by omega))).trans h⟩
  · obtain ⟨m, h⟩ := a.bk
    exact ⟨m, (getRow_same (ne _ (by omega))).trans h⟩
  · rw [gd]
    by_cases q : j = i
    · subst q
      rw [if_pos rfl, List.map_set]
      exact getRow_set (a.row j hj) _ _
    · rw [if_neg q, getRow_same (ne _ (by omega))]; exact a.row j hj
  · rw [gd]
    split
    · rw [List.length_set]; exact hw
    · exact a.wid j hj
end
theorem addN_le {a b : Nat} (hb : b ≤ topN) : addN a b ≤ topN := by unfold addN; split <;> omega
theorem mulN_le {a b : Nat} : mulN a b ≤ topN := by
  unfold mulN; split
  · exact Nat.le_refl _
  · rename_i h; exact mulFits h
theorem rowP_le {u : Nat → Nat → Nat} (hu : ∀ a x, u a x ≤ topN) : ∀ {l : List Nat} {n : Nat}, rowP u l n ≤ topN
  | [], n => by rw [rowP]; split <;> decide
  | x :: l, n => by
    have ht : (0 : Nat) ≤ topN := Nat.zero_le _
    rw [rowP]
    split
    · exact ht
    split
    · exact hu _ _
    have : ∀ (ss : List Nat) (a : Nat), a ≤ topN → ss.foldl (fun m s => if 0 < u (s + 1) x then addN m (mulN (u (s + 1) x) (rowP u l (n - (s + 1)))) else m) a ≤ topN := by
      intro ss
      induction ss with
      | nil => exact fun a h => h
      | cons s ss ih =>
        intro a h
        rw [List.foldl_cons]
        refine ih _ ?_
        split
        · exact addN_le mulN_le
        · exact h
    exact this _ _ ht
abbrev rowsF (b p2 : Nat) : Value := .func (.func F_count_Sizes_D1) #[] #[.pointer (some ⟨b + 1, 0, none⟩), .pointer (some ⟨p2, 0, none⟩)]

theorem rows_spec {b N M p2 : Nat} {H : Heap} {T : List (List Nat)} (sa : SzAt b N M H T) {m2 : Md} (hp2 : getRow H p2 = some ([rowsF b p2], m2)) (hT : ∀ a x, (T.getD x []).getD a 0 ≤ topN) (hM : M ≤ 1000) :
    ∀ {l : List Nat} {n : Nat}, (∀ x ∈ l, x < N) → l.length ≤ 1000000000 → n < M → ∀ {Q : Value → Heap → Prop}, Q (natV (rowP (fun a x => (T.getD x []).getD a 0) l n)) H →
    acall Try.prog F_count_Sizes_D1 [nats l, natV n, .pointer (some ⟨b + 1, 0, none⟩), .pointer (some ⟨p2, 0, none⟩)] H Q
  | [], n, _, _, hn, Q, hq => by
    apply W_count_Sizes_D1_ok
    unfold W_count_Sizes_D1
    rw [rowP] at hq
    have h0 : ([] : List Nat).length = 0 := rfl
    repeat' first | ((with_reducible apply s_lss)) | ((with_reducible apply s_gtr)) | ((with_reducible apply s_eql)) | ((with_reducible apply s_br) <;> intro hb <;> try (exfalso; omega)) | ((with_reducible apply s_lenM))
    · rw [if_neg (by omega)] at hq; exact gcV_same hq
    · rw [if_pos (by omega)] at hq; exact gcV_same hq
  | x :: l, n, hk, hl, hn, Q, hq => by
    have htop : topN = 9223372036854775807 := rfl
    have hlc : (x :: l).length = l.length + 1 := rfl
    have hx := hk x (by simp)
    obtain ⟨mb, hbox⟩ := sa.box
    apply W_count_Sizes_D1_ok
    unfold W_count_Sizes_D1
    rw [rowP] at hq
    by_cases h1 : n < l.length + 1
    · rw [if_pos h1] at hq
      repeat' first | ((with_reducible apply s_lss)) | ((with_reducible apply s_br) <;> intro hb <;> try (exfalso; omega)) | ((with_reducible apply s_lenM))
      exact gcV_same hq
    rw [if_neg h1] at hq
    by_cases h2 : l = []
    · subst h2
      rw [if_pos rfl] at hq
      have h00 : ([] : List Nat).length = 0 := rfl
      repeat' first | ((with_reducible apply s_lss)) | ((with_reducible apply s_eql)) | ((with_reducible apply s_brF)) | ((with_reducible apply s_br) <;> intro hb <;> try (exfalso; omega)) | ((with_reducible apply s_lenM)) | ((with_reducible refine s_ix0 (by omega) ?_ ?_); (· rfl)) | ((with_reducible apply s_ld1); (· rfl)) | ((with_reducible apply s_row); (· first | assumption | exact row_last | exact getRow_app (by first | assumption | exact row_last | exact getRow_app (by first | assumption | exact row_last))); (· rfl))
      refine sa.ix hx ?_
      refine sa.cell hx hn ?_
      exact gcV_same hq
    rw [if_neg h2] at hq
    have h3 : 0 < l.length := List.length_pos_iff.2 h2
    repeat' first | ((with_reducible apply s_lss)) | ((with_reducible apply s_eql)) | ((with_reducible apply s_brF)) | ((with_reducible apply s_br) <;> intro hb <;> try (exfalso; omega)) | ((with_reducible apply s_lenM))
    refine ⟨fun m vs H' => ∃ q : Nat, vs = [nats (x :: l), natV n, .pointer (some ⟨b + 1, 0, none⟩), .pointer (some ⟨p2, 0, none⟩), natV ((List.range q).foldl (fun m s => if 0 < (T.getD x []).getD (s + 1) 0 then addN m (mulN ((T.getD x []).getD (s + 1) 0) (rowP (fun a x => (T.getD x []).getD a 0) l (n - (s + 1)))) else m) 0), natV (q + 1)] ∧
      H' = H ∧ q ≤ n ∧ m = n - q, _, gcL_same ⟨0, rfl, rfl, by omega, rfl⟩, ?_⟩
    rintro m x0 x1 x2 x3 x4 x5 H' ⟨q, hv, rfl, hqn, rfl⟩
    replace hv := hv.symm
    simp only [List.cons.injEq, and_true] at hv
    obtain ⟨rfl, rfl, rfl, rfl, rfl, rfl⟩ := hv
    have hfl : (List.range q).foldl (fun m s => if 0 < (T.getD x []).getD (s + 1) 0 then addN m (mulN ((T.getD x []).getD (s + 1) 0) (rowP (fun a x => (T.getD x []).getD a 0) l (n - (s + 1)))) else m) 0 ≤ topN := by
      have : ∀ (ss : List Nat) (a : Nat), a ≤ topN → ss.foldl (fun m s => if 0 < (T.getD x []).getD (s + 1) 0 then addN m (mulN ((T.getD x []).getD (s + 1) 0) (rowP (fun a x => (T.getD x []).getD a 0) l (n - (s + 1)))) else m) a ≤ topN := by
        intro ss
        induction ss with
        | nil => exact fun a h => h
        | cons s ss ih =>
          intro a h
          rw [List.foldl_cons]
          refine ih _ ?_
          split
          · exact addN_le mulN_le
          · exact h
      exact this _ _ (Nat.zero_le _)
    have hsc : (List.range (q + 1)).foldl (fun m s => if 0 < (T.getD x []).getD (s + 1) 0 then addN m (mulN ((T.getD x []).getD (s + 1) 0) (rowP (fun a x => (T.getD x []).getD a 0) l (n - (s + 1)))) else m) 0 =
      if 0 < (T.getD x []).getD (q + 1) 0 then addN ((List.range q).foldl (fun m s => if 0 < (T.getD x []).getD (s + 1) 0 then addN m (mulN ((T.getD x []).getD (s + 1) 0) (rowP (fun a x => (T.getD x []).getD a 0) l (n - (s + 1)))) else m) 0) (mulN ((T.getD x []).getD (q + 1) 0) (rowP (fun a x => (T.getD x []).getD a 0) l (n - (q + 1)))) else (List.range q).foldl (fun m s => if 0 < (T.getD x []).getD (s + 1) 0 then addN m (mulN ((T.getD x []).getD (s + 1) 0) (rowP (fun a x => (T.getD x []).getD a 0) l (n - (s + 1)))) else m) 0 := by
      rw [List.range_succ, List.foldl_append]; rfl
    generalize hacc : (List.range q).foldl (fun m s => if 0 < (T.getD x []).getD (s + 1) 0 then addN m (mulN ((T.getD x []).getD (s + 1) 0) (rowP (fun a x => (T.getD x []).getD a 0) l (n - (s + 1)))) else m) 0 = acc at hfl hsc
    repeat' first | ((with_reducible apply s_leq)) | ((with_reducible apply s_br) <;> intro hb <;> try (exfalso; omega)) | ((with_reducible refine s_ix0 (by omega) ?_ ?_); (· rfl)) | ((with_reducible apply s_ld1); (· rfl)) | ((with_reducible apply s_row); (· first | assumption | exact row_last | exact getRow_app (by first | assumption | exact row_last | exact getRow_app (by first | assumption | exact row_last))); (· rfl))
    · refine sa.ix hx ?_
      refine sa.cell hx (by omega) ?_
      have hle := hT (q + 1) x
      repeat' first | ((with_reducible apply s_inc); (· omega)) | ((with_reducible apply s_gtr)) | ((with_reducible apply s_br) <;> intro hb <;> try (exfalso; omega)) | ((with_reducible apply s_row); (· first | assumption | exact row_last | exact getRow_app (by first | assumption | exact row_last | exact getRow_app (by first | assumption | exact row_last))); (· rfl))
      · rw [if_pos (by omega)] at hsc
        refine tNat.sl1 (by simp) ?_
        repeat' first | ((with_reducible apply s_subN); (· omega); (· omega))
        refine s_callC2 (rows_spec sa hp2 hT hM (l := l) (n := n - (q + 1)) (fun y hy => hk y (by simp [hy])) (by omega) (by omega) ?_)
        repeat' first | ((with_reducible apply s_call)) | ((with_reducible apply s_kept))
        refine mulC_spec hle (rowP_le fun a x => hT a x) ?_
        repeat' first | ((with_reducible apply s_call)) | ((with_reducible apply s_kept))
        refine addC_spec hfl mulN_le ?_
        rw [← hsc]
        repeat' first | ((with_reducible apply s_inc); (· omega)) | ((with_reducible apply s_kept))
        refine ⟨_, ?_, gcL_same ⟨q + 1, rfl, rfl, by omega, rfl⟩⟩
        omega
      · rw [if_neg (by omega)] at hsc
        refine ⟨_, ?_, gcL_same ⟨q + 1, by rw [hsc], rfl, by omega, rfl⟩⟩
        omega
    · have e : q = n := by omega
      subst e
      rw [hacc] at hq
      exact gcV_same hq

end Go.Ax

namespace Go.Ax
open Go Go.Proofs Go.RowKit

theorem rowP_congr {u u' : Nat → Nat → Nat} : ∀ {l : List Nat} {n : Nat}, (∀ a x, a ≤ n → x ∈ l → u a x = u' a x) → rowP u l n = rowP u' l n
  | [], n, _ => rfl
  | x :: l, n, h => by
    rw [rowP, rowP, h n x (Nat.le_refl _) (by simp)]
    by_cases h1 : n < l.length + 1
    · rw [if_pos h1, if_pos h1]
    rw [if_neg h1, if_neg h1]
    by_cases h2 : l = []
    · rw [if_pos h2, if_pos h2]
    rw [if_neg h2, if_neg h2]
    have : ∀ (ss : List Nat) (a : Nat), (∀ s ∈ ss, s < n) → ss.foldl (fun m s => if 0 < u (s + 1) x then addN m (mulN (u (s + 1) x) (rowP u l (n - (s + 1)))) else m) a = ss.foldl (fun m s => if 0 < u' (s + 1) x then addN m (mulN (u' (s + 1) x) (rowP u' l (n - (s + 1)))) else m) a := by
      intro ss
      induction ss with
      | nil => exact fun _ _ => rfl
      | cons s ss ih =>
        intro a hs
        have h3 := hs s (by simp)
        rw [List.foldl_cons, List.foldl_cons, h (s + 1) x (by omega) (by simp), rowP_congr (l := l) (n := n - (s + 1)) fun a y ha hy => h a y (by omega) (by simp [hy])]
        exact ih _ fun s hs' => hs s (by simp [hs'])
    exact this _ _ fun s hs => by simpa using hs
theorem getD_rep {n x : Nat} {α : Type} {a d : α} (h : x < n) : (List.replicate n a).getD x d = a := by rw [List.getD_eq_getElem?_getD, List.getElem?_replicate, if_pos h]; rfl
/-- The table, so far. -/
def szU (K : List (List (List Nat))) (s i part a x : Nat) : Nat := if a < s ∨ (a = s ∧ x < i) then capN (treeN K a x) else if a = s ∧ x = i then part else 0
def szP (K : List (List (List Nat))) (s i w : Nat) : Nat := capN (((K.getD i []).take w).map fun l => rowN (treeN K) l (s - 1)).sum
theorem szU_le {K : List (List (List Nat))} {s i w a x : Nat} : szU K s i (szP K s i w) a x ≤ topN := by
  unfold szU szP
  split
  · exact capN_le
  split
  · exact capN_le
  · exact Nat.zero_le _
/-- Sizes of one knot. -/
def sizesL (K : List (List (List Nat))) (most i : Nat) : List Nat := (List.range (most + 1)).map fun s => capN (treeN K s i)
theorem sizesL_len {K : List (List (List Nat))} {most i : Nat} : (sizesL K most i).length = most + 1 := by simp [sizesL]
theorem sizesL_at {K : List (List (List Nat))} {most i q : Nat} (h : q < (sizesL K most i).length) : (sizesL K most i)[q] = capN (treeN K q i) := by simp [sizesL]
structure TabOk (K : List (List (List Nat))) (N M s i w : Nat) (T : List (List Nat)) : Prop where
  val : ∀ x, x < N → ∀ a, a < M → (T.getD x []).getD a 0 = szU K s i (szP K s i w) a x
theorem tab_le {K : List (List (List Nat))} {b N M s i w : Nat} {H : Heap} {T : List (List Nat)} (sa : SzAt b N M H T) (t : TabOk K N M s i w T) (a x : Nat) : (T.getD x []).getD a 0 ≤ topN := by
  by_cases hx : x < N
  · by_cases ha : a < M
    · rw [t.val x hx a ha]; exact szU_le
    · rw [getD_len (by rw [sa.wid x hx]; omega)]; exact Nat.zero_le _
  · have : T.getD x [] = [] := by rw [List.getD_eq_getElem?_getD, List.getElem?_eq_none (by rw [sa.len]; omega)]; rfl
    rw [this]; exact Nat.zero_le _

theorem s_lenV {a : Option Addr} {L c : Nat} {K : Value → Prop} (k : K (natV L)) : oW (lenS (.slice a L c)) K := ⟨_, rfl, k⟩
theorem cSizes_spec {g : Gr} {f : List Kt} {W : Nat} (ok : TOk g f W) {i most : Nat} (hi : i < f.length) (hm : most ≤ 60) {h : Heap} {Q : Value → Heap → Prop} (hq : Q (nats (sizesL (kidsK g f) most i)) h) :
    acall Try.prog F_count_Sizes [g.enc, knots f, natV i, natV most] h Q := by
  have hfl := ok.fok.len
  apply W_count_Sizes_ok
  unfold W_count_Sizes
  rw [box_gr, hW_some]
  have ag : getRow (h ++ [grow g]) h.length = some (g.cells, .exact) := row_last
  refine ⟨fun vs H => vs = [knots f, natV i, natV most, .pointer (some ⟨h.length, 0, none⟩)] ∧ H = h ++ [grow g], ?_, ?_⟩
  · repeat' first | ((with_reducible apply s_lss)) | ((with_reducible apply s_geq)) | ((with_reducible apply s_br) <;> intro hb <;> try (exfalso; omega)) | ((with_reducible apply s_lenM))
    exact gcL_same ⟨rfl, rfl⟩
  rintro x8 x9 x10 x11 h12 ⟨hv, rfl⟩
  replace hv := hv.symm
  simp only [List.cons.injEq, and_true] at hv
  obtain ⟨rfl, rfl, rfl, rfl⟩ := hv
  have hmin : minmaxA false [natV most, .int .i64 60] = some (natV most) := by
    by_cases q : most = 60
    · subst q; rfl
    · simp [minmaxA]; omega
  rw [hmin]
  repeat' first | ((with_reducible apply s_rowA); (· first | assumption | exact row_last | exact getRow_app (by first | assumption | exact row_last | exact getRow_app (by first | assumption | exact row_last))); (· rfl)) | ((with_reducible apply s_call)) | ((with_reducible apply s_some))
  refine of_spec ok.fok ?_
  have hKl : (kidsK g f).length = f.length := kidsK_len
  have kid := ok.kok.kid
  have sz := ok.ksz
  generalize kidsK g f = K at hq hKl kid sz ⊢
  generalize hBe : h ++ [grow g] = B
  have hBh : ∃ t, B = h ++ t := ⟨_, hBe.symm⟩
  repeat' first | refine s_mks (by omega) (by omega) ?_ | refine s_lenV ?_ | ((with_reducible apply s_lenM)) | ((with_reducible apply s_row); (· first | assumption | exact row_last | exact getRow_app (by first | assumption | exact row_last | exact getRow_app (by first | assumption | exact row_last))); (· rfl)) | ((with_reducible apply s_let)) | ((with_reducible apply s_stV); (· rfl); (· rfl); (· rfl))
  generalize hN : K.length = N at *
  let KC : Nat → List Value := fun j => (List.range j).map (fun q => rowV (most + 1) (B.length + 2 + q)) ++ List.replicate (N - j) (.slice none 0 0)
  have kcl : ∀ j, j ≤ N → (KC j).length = N := fun j hj => by show (_ ++ _ : List Value).length = N; simp; omega
  let HL : Nat → Heap := fun j => B ++ (.row (KC j) .exact :: .row [.slice (some ⟨B.length, 0, none⟩) N N] .exact :: List.replicate j (.row (List.replicate (most + 1) (natV 0)) .exact))
  have h0 : HL 0 = B ++ [AObj.row (List.replicate N (.slice none 0 0)) .exact] ++ [.row [.slice (some ⟨B.length, 0, none⟩) N N] .exact] := by
    show B ++ _ = _
    simp [KC]
  have hlen : ∀ j, (HL j).length = B.length + 2 + j := fun j => by show (B ++ _ : Heap).length = _; simp; omega
  have hb1 : ∀ j, getRow (HL j) (B.length + 1) = some ([.slice (some ⟨B.length, 0, none⟩) N N], .exact) := fun j => by show getRow (B ++ _) _ = _; rw [row_app]; rfl
  have hb0 : ∀ j, getRow (HL j) B.length = some (KC j, .exact) := fun j => by show getRow (B ++ _) _ = _; rw [row_app0]; rfl
  refine ⟨fun m vs H => ∃ j : Nat, vs = [natV i, natV most, knV K, .pointer (some ⟨B.length + 1, 0, none⟩), natV N, natV j] ∧ H = HL j ∧ j ≤ N ∧ m = N - j, _, gcL_same ⟨0, by simp, h0.symm, by omega, rfl⟩, ?_⟩
  rintro m x0 x1 x2 x3 x4 x5 H ⟨j, hv, rfl, hj, rfl⟩
  replace hv := hv.symm
  simp only [List.cons.injEq, and_true] at hv
  obtain ⟨rfl, rfl, rfl, rfl, rfl, rfl⟩ := hv
  have hbj := hb1 j
  repeat' first | ((with_reducible apply s_inc); (· omega)) | ((with_reducible apply s_lss)) | ((with_reducible apply s_br) <;> intro hb <;> try (exfalso; omega)) | ((with_reducible apply s_row); (· first | assumption | exact row_last | exact getRow_app (by first | assumption | exact row_last | exact getRow_app (by first | assumption | exact row_last))); (· rfl)) | ((with_reducible apply s_let)) | ((with_reducible apply s_stV); (· rfl); (· rfl); (· rfl))
  · refine s_mks (by omega) (by omega) ?_
    refine ⟨keptB.kept (n := (HL j).length) (keptB_ptr (by rw [hlen]; omega) keptB_nil) (fun q hq => by rw [List.getElem?_append_left hq]), ?_⟩
    rw [iaS_slice (by omega), oW_some, st1 (getRow_app (hb0 j)) (by simp) rfl rfl rfl (by rw [kcl j hj]; omega), sW_some]
    have e : (HL j ++ [AObj.row (List.replicate (most + 1) (.int .i64 0)) .exact]).set B.length (.row ((KC j).set (0 + j * 1) (rowV (most + 1) (HL j).length)) .exact) = HL (j + 1) := by
      have e1 : (KC j).set (0 + j * 1) (rowV (most + 1) (HL j).length) = KC (j + 1) := by
        rw [hlen]
        show ((List.range j).map _ ++ List.replicate (N - j) _).set _ _ = (List.range (j + 1)).map _ ++ List.replicate (N - (j + 1)) _
        rw [List.set_append_right _ _ (by simp), List.range_succ, List.map_append, List.append_assoc]
        congr 1
        rw [show N - j = N - (j + 1) + 1 by omega, List.replicate_succ]
        simp
      rw [e1]
      show (B ++ _ ++ _).set _ _ = B ++ _
      rw [List.append_assoc, set_app0]
      congr 1
      have er : List.replicate (j + 1) (AObj.row (List.replicate (most + 1) (natV 0)) .exact) = List.replicate j (AObj.row (List.replicate (most + 1) (natV 0)) .exact) ++ [AObj.row (List.replicate (most + 1) (natV 0)) .exact] := List.replicate_succ'
      rw [List.cons_append, List.set_cons_zero, er]
      rfl
    rw [e]
    repeat' first | ((with_reducible apply s_inc); (· omega))
    refine ⟨_, ?_, gcL_same ⟨j + 1, rfl, rfl, by omega, rfl⟩⟩
    omega
  have hje : j = N := by omega
  subst hje
  have kce : KC j = (List.range j).map (fun q => rowV (most + 1) (B.length + 2 + q)) := by show _ ++ List.replicate (j - j) _ = _; rw [Nat.sub_self, List.replicate_zero, List.append_nil]
  have sa0 : SzAt B.length j (most + 1) (HL j) (List.replicate j (List.replicate (most + 1) 0)) := by
    refine ⟨⟨_, hb1 j⟩, ⟨_, by rw [hb0 j, kce]⟩, fun q hq => ?_, fun q hq => by rw [getD_rep hq]; simp, by simp⟩
    rw [getD_rep hq, List.map_replicate]
    show getRow (B ++ _) _ = _
    rw [Nat.add_assoc, row_app, Nat.add_comm 2 q]
    show getRow (_ :: _ :: _) (q + 1 + 1) = _
    rw [row_s, row_s]
    unfold getRow
    rw [List.getElem?_replicate, if_pos hq]
  have sa1 : SzAt B.length j (most + 1) (HL j ++ [.row [rowsF B.length (HL j).length] .exact]) (List.replicate j (List.replicate (most + 1) 0)) :=
    ⟨let ⟨m, h⟩ := sa0.box; ⟨m, getRow_app h⟩, let ⟨m, h⟩ := sa0.bk; ⟨m, getRow_app h⟩, fun q hq => getRow_app (sa0.row q hq), sa0.wid, sa0.len⟩
  have hp2 : getRow (HL j ++ [.row [rowsF B.length (HL j).length] .exact]) (HL j).length = some ([rowsF B.length (HL j).length], .exact) := row_last
  have hlow : ∀ q, q < h.length → (HL j ++ [AObj.row [rowsF B.length (HL j).length] .exact])[q]? = h[q]? := fun q hq => by
    obtain ⟨t, rfl⟩ := hBh
    rw [List.getElem?_append_left (by rw [hlen]; simp; omega)]
    show (h ++ t ++ _)[q]? = _
    rw [List.append_assoc, List.getElem?_append_left hq]
  have hhl : h.length ≤ (HL j ++ [AObj.row [rowsF B.length (HL j).length] .exact]).length := by
    obtain ⟨t, rfl⟩ := hBh
    simp [hlen]; omega
  have hBl : h.length ≤ B.length := by obtain ⟨t, rfl⟩ := hBh; simp
  have hp2l : B.length + 2 + j ≤ (HL j).length := by rw [hlen]; omega
  generalize (HL j).length = p2 at sa1 hp2 hlow hhl hp2l ⊢
  generalize HL j ++ [AObj.row [rowsF B.length p2] .exact] = H0 at sa1 hp2 hlow hhl ⊢
  clear sa0 hb0 hb1 hlen h0 hbj kce kcl
  have tb0 : TabOk K j (most + 1) 1 0 0 (List.replicate j (List.replicate (most + 1) 0)) := ⟨fun x hx a ha => by
    rw [getD_rep hx, getD_rep ha]
    unfold szU szP
    rw [List.take_zero, List.map_nil, List.sum_nil]
    by_cases q : a = 0
    · subst q
      rw [if_pos (.inl (by omega)), treeN_zero]; rfl
    · rw [if_neg (by omega)]
      split <;> rfl⟩
  generalize List.replicate j (List.replicate (most + 1) 0) = T0 at sa1 tb0
  generalize hb : B.length = b at *
  generalize hF : H0.length = L0 at *
  let St : List (List Nat) → Heap → Prop := fun T H => SzAt b j (most + 1) H T ∧ getRow H p2 = some ([rowsF b p2], .exact) ∧ (∀ q, q < h.length → H[q]? = h[q]?) ∧ H.length = L0
  refine ⟨fun m vs H => ∃ (s : Nat) (T : List (List Nat)), vs = [natV i, natV most, knV K, .pointer (some ⟨b + 1, 0, none⟩), .pointer (some ⟨p2, 0, none⟩), natV s] ∧ St T H ∧ TabOk K j (most + 1) s 0 0 T ∧ 1 ≤ s ∧ s ≤ most + 1 ∧ m = most + 1 - s, _, gcL_same ⟨1, T0, rfl, ⟨sa1, hp2, hlow, hF⟩, tb0, by omega, by omega, rfl⟩, ?_⟩
  clear sa1 hp2 hlow hF tb0
  rintro m x0 x1 x2 x3 x4 x5 H ⟨s, T, hv, ⟨sa, hp2, hlow, hHl⟩, tb, hs1, hs, rfl⟩
  replace hv := hv.symm
  simp only [List.cons.injEq, and_true] at hv
  obtain ⟨rfl, rfl, rfl, rfl, rfl, rfl⟩ := hv
  obtain ⟨mb, hbox⟩ := sa.box
  repeat' first | ((with_reducible apply s_leq)) | ((with_reducible apply s_br) <;> intro hb <;> try (exfalso; omega)) | ((with_reducible apply s_lenM)) | ((with_reducible apply s_row); (· first | assumption | exact row_last | exact getRow_app (by first | assumption | exact row_last | exact getRow_app (by first | assumption | exact row_last))); (· rfl))
  rotate_left
  · have hse : s = most + 1 := by omega
    subst hse
    have hij : i < j := by omega
    refine sa.ix hij ?_
    have hsp := heap_split (h := h) (H := H) (by omega) hlow
    refine gcV_frz ⟨_, hsp⟩ (fun fr r hf => ?_) hq
    have hrow := sa.row i hij
    have hw := sa.wid i hij
    have e : T.getD i [] = sizesL K most i := by
      apply List.ext_getElem
      · rw [hw, sizesL_len]
      · intro q h1 h2
        have := tb.val i hij q (by omega)
        rw [getD_at h1] at this
        rw [this, sizesL_at]
        unfold szU
        rw [if_pos (.inl (by omega))]
    rw [e] at hrow hw
    exact .frz1 (hf _ (by omega)) (getRow_eq hrow) (by simp; omega) fun e he => by obtain ⟨q, _, rfl⟩ := List.mem_map.1 he; exact ⟨rfl, .int _ _⟩
  refine ⟨fun m vs H => ∃ (q : Nat) (T : List (List Nat)), vs = [natV i, natV most, knV K, .pointer (some ⟨b + 1, 0, none⟩), .pointer (some ⟨p2, 0, none⟩), natV s, natV j, natV q] ∧ St T H ∧ TabOk K j (most + 1) s q 0 T ∧ q ≤ j ∧ m = j - q, _, gcL_same ⟨0, T, by rw [← hN]; rfl, ⟨sa, hp2, hlow, hHl⟩, tb, by omega, rfl⟩, ?_⟩
  clear sa hp2 hlow hHl tb hbox
  rintro m x0 x1 x2 x3 x4 x5 x6 x7 H ⟨q, T, hv, ⟨sa, hp2, hlow, hHl⟩, tb, hq2, rfl⟩
  replace hv := hv.symm
  simp only [List.cons.injEq, and_true] at hv
  obtain ⟨rfl, rfl, rfl, rfl, rfl, rfl, rfl, rfl⟩ := hv
  repeat' first | ((with_reducible apply s_inc); (· omega)) | ((with_reducible apply s_lss)) | ((with_reducible apply s_br) <;> intro hb <;> try (exfalso; omega)) | ((with_reducible apply s_lenM)) | ((with_reducible refine s_ix (by omega) ?_ ?_); (· rfl)) | ((with_reducible apply s_ld1); (· rfl))
  rotate_left
  · have hqe : q = j := by omega
    subst hqe
    refine ⟨_, ?_, gcL_same ⟨s + 1, T, rfl, ⟨sa, hp2, hlow, hHl⟩, ⟨fun x hx a ha => ?_⟩, by omega, by omega, rfl⟩⟩
    · omega
    · rw [tb.val x hx a ha]
      unfold szU
      by_cases z : a < s ∨ (a = s ∧ x < q)
      · rw [if_pos z, if_pos (.inl (by omega))]
      · rw [if_neg z, if_neg (by omega), if_neg (by omega)]
        split
        · unfold szP; rw [List.take_zero]; rfl
        · rfl
  have hqK : q < K.length := by omega
  have hkg : K.getD q [] = K[q] := getD_at hqK
  have hwl := sz.ways q hqK
  refine ⟨fun m vs H => ∃ (w : Nat) (T : List (List Nat)), vs = [natV i, natV most, knV K, .pointer (some ⟨b + 1, 0, none⟩), .pointer (some ⟨p2, 0, none⟩), natV s, natV q, natV j, natV q, wnats K[q], natV K[q].length, natV w] ∧ St T H ∧ TabOk K j (most + 1) s q w T ∧ w ≤ K[q].length ∧ m = K[q].length - w, _, gcL_same ⟨0, T, rfl, ⟨sa, hp2, hlow, hHl⟩, tb, by omega, rfl⟩, ?_⟩
  clear sa hp2 hlow hHl tb
  rintro m x0 x1 x2 x3 x4 x5 x6 x7 x8 x9 x10 x11 H ⟨w, T, hv, ⟨sa, hp2, hlow, hHl⟩, tb, hw2, rfl⟩
  replace hv := hv.symm
  simp only [List.cons.injEq, and_true] at hv
  obtain ⟨rfl, rfl, rfl, rfl, rfl, rfl, rfl, rfl, rfl, rfl, rfl, rfl⟩ := hv
  obtain ⟨mb, hbox⟩ := sa.box
  repeat' first | ((with_reducible apply s_inc); (· omega)) | ((with_reducible apply s_lss)) | ((with_reducible apply s_br) <;> intro hb <;> try (exfalso; omega)) | ((with_reducible refine s_ix (by omega) ?_ ?_); (· rfl)) | ((with_reducible apply s_ld1); (· rfl)) | ((with_reducible apply s_row); (· first | assumption | exact row_last | exact getRow_app (by first | assumption | exact row_last | exact getRow_app (by first | assumption | exact row_last))); (· rfl))
  rotate_left
  · have hwe : w = K[q].length := by omega
    subst hwe
    have e : szP K s q K[q].length = capN (treeN K s q) := by
      unfold szP
      rw [hkg, List.take_length]
      obtain ⟨s', rfl⟩ : ∃ s', s = s' + 1 := ⟨s - 1, by omega⟩
      rw [treeN_succ, hkg]; rfl
    refine ⟨_, ?_, gcL_same ⟨q + 1, T, rfl, ⟨sa, hp2, hlow, hHl⟩, ⟨fun x hx a ha => ?_⟩, by omega, rfl⟩⟩
    · omega
    · rw [tb.val x hx a ha, e]
      unfold szU
      by_cases z : a < s ∨ (a = s ∧ x < q)
      · rw [if_pos z, if_pos (by omega)]
      · rw [if_neg z]
        by_cases z2 : a = s ∧ x = q
        · rw [if_pos z2, if_pos (by omega), z2.1, z2.2]
        · rw [if_neg z2, if_neg (by omega)]
          split
          · unfold szP; rw [List.take_zero]; rfl
          · rfl
  have hwk : w < K[q].length := by omega
  have hml : K[q][w] ∈ K.getD q [] := by rw [hkg]; exact List.getElem_mem hwk
  have hkid := kid q _ hml
  have hlw := sz.kids q _ hml
  have hqj : q < j := by omega
  refine sa.ix hqj ?_
  repeat' first | ((with_reducible apply s_row); (· first | assumption | exact row_last | exact getRow_app (by first | assumption | exact row_last | exact getRow_app (by first | assumption | exact row_last))); (· rfl))
  refine sa.ix hqj ?_
  refine sa.cell hqj (by omega) ?_
  repeat' first | ((with_reducible apply s_dec); (· omega); (· omega)) | ((with_reducible apply s_row); (· first | assumption | exact row_last | exact getRow_app (by first | assumption | exact row_last | exact getRow_app (by first | assumption | exact row_last))); (· rfl))
  have hval := tb.val q hqj s (by omega)
  have hvq : (T.getD q []).getD s 0 = szP K s q w := by
    rw [hval]; unfold szU; rw [if_neg (by omega), if_pos ⟨rfl, rfl⟩]
  have hrp : rowP (fun a x => (T.getD x []).getD a 0) K[q][w] (s - 1) = capN (rowN (treeN K) K[q][w] (s - 1)) := by
    rw [rowP_congr (u' := fun a x => capN (treeN K a x)) fun a x ha hx => ?_]
    · exact rowP_eq (fun x => treeN_zero)
    · rw [tb.val x (hkid x hx) a (by omega)]
      unfold szU
      rw [if_pos (.inl (by omega))]
  refine s_callC2 (rows_spec sa hp2 (tab_le sa tb) (by omega) (l := K[q][w]) (n := s - 1) hkid hlw (by omega) ?_)
  repeat' first | ((with_reducible apply s_call)) | ((with_reducible apply s_kept))
  refine addC_spec (by rw [hvq]; exact capN_le) (rowP_le fun a x => tab_le sa tb a x) ?_
  have hadd : addN ((T.getD q []).getD s 0) (rowP (fun a x => (T.getD x []).getD a 0) K[q][w] (s - 1)) = szP K s q (w + 1) := by
    rw [hvq, hrp]
    unfold szP
    rw [add_cap, hkg, sum_take hwk]
  rw [hadd]
  repeat' first | ((with_reducible apply s_kept))
  refine sa.put hqj (by omega) fun H' sa' fr' hl' => ?_
  repeat' first | ((with_reducible apply s_inc); (· omega))
  refine ⟨_, ?_, gcL_same ⟨w + 1, _, rfl, ⟨sa', (getRow_same (fr' p2 (by omega))).trans hp2, fun z hz => (fr' z (by omega)).trans (hlow z hz), hl'.trans hHl⟩, ⟨fun x hx a ha => ?_⟩, by omega, rfl⟩⟩
  · omega
  · have gd : (T.set q ((T.getD q []).set s (szP K s q (w + 1)))).getD x [] = if x = q then (T.getD q []).set s (szP K s q (w + 1)) else T.getD x [] := by
      rw [List.getD_eq_getElem?_getD, List.getElem?_set]
      by_cases z : q = x
      · rw [if_pos z, if_pos (by rw [sa.len]; exact hqj), if_pos z.symm]; rfl
      · rw [if_neg z, if_neg (Ne.symm z), List.getD_eq_getElem?_getD]
    rw [gd]
    by_cases z : x = q
    · subst z
      rw [if_pos rfl, getD_set (by rw [sa.wid x hx]; omega)]
      by_cases z2 : a = s
      · subst z2
        rw [if_pos rfl]
        unfold szU; rw [if_neg (by omega), if_pos ⟨rfl, rfl⟩]
      · rw [if_neg z2, tb.val x hx a ha]
        unfold szU
        by_cases z3 : a < s
        · rw [if_pos (.inl z3), if_pos (.inl z3)]
        · rw [if_neg (by omega), if_neg (by omega), if_neg (by omega), if_neg (by omega)]
    · rw [if_neg z, tb.val x hx a ha]
      unfold szU
      by_cases z3 : a < s ∨ (a = s ∧ x < q)
      · rw [if_pos z3, if_pos z3]
      · rw [if_neg z3, if_neg z3, if_neg fun y => z y.2, if_neg fun y => z y.2]

end Go.Ax

namespace Go.Ax
open Go Go.Proofs Go.RowKit

/-- Everything but one slice and a map is frozen; the map's things are told anew. -/
theorem gcL_acc1e {sz : Nat} {h g : Heap} {v : Value} {es es2 : List Value} {F : List Value → Heap → Prop} {vs : List Value} {mi : Nat} {E E2 : List (Value × Value)} (a : Acc sz h.length (h ++ g) v es)
    (hz : ∀ x ∈ es, (cellsOf x).length = sz) (hz2 : ∀ x ∈ es2, (cellsOf x).length = sz) (hl : es2.length = es.length) (hm : getMap (h ++ g) mi = some E) (hmi : h.length ≤ mi)
    (hE : ∀ fr r, (∀ i, h.length ≤ i → ¬ lies v i → i ≠ mi → fr i) → EsG fr r (h ++ g) E2 E)
    (hc : ∀ fr r, (∀ i, h.length ≤ i → ¬ lies v i → i ≠ mi → fr i) → ∀ (k : Nat) (p : k < es2.length) (q : k < es.length), GvL fr r (h ++ g) (cellsOf es2[k]) (cellsOf es[k]))
    (k : ∀ fr r v' mi' g', (∀ i, h.length ≤ i → ¬ lies v i → i ≠ mi → fr i) → Gv fr r (h ++ g) v' v → Gv fr r (h ++ g) (.map (some mi')) (.map (some mi)) → Acc sz h.length (h ++ g') v' es2 → getMap (h ++ g') mi' = some E2 → h.length ≤ mi' →
      ∃ vs2, GvL fr r (h ++ g) vs2 vs ∧ F vs2 (h ++ g')) : gcL h F vs (h ++ g) := by
  have hg2 : g[mi - h.length]? = some (.map E) := by
    unfold getMap at hm
    split at hm
    · rename_i x hh; cases hm; rwa [List.getElem?_append_right hmi] at hh
    · cases hm
  rcases a with ⟨rfl, rfl⟩ | ⟨i, cap, c, m, h1, rfl, h3, h4, h5, h6, h7⟩
  · have e2 : es2 = [] := List.length_eq_zero_iff.1 (by simpa using hl)
    subst e2
    have hr : rOf h.length [mi - h.length] h.length = some mi := by unfold rOf; rw [if_neg (by omega)]; simp; omega
    have hfr : ∀ j, h.length ≤ j → ¬ lies (.slice none 0 0) j → j ≠ mi → frOf h.length [mi - h.length] j := fun i hi _ hne => ⟨hi, by simp; omega⟩
    obtain ⟨vs2, h8, h9⟩ := k (frOf h.length [mi - h.length]) (rOf h.length [mi - h.length]) (.slice none 0 0) h.length [.map E2] hfr (.cl .nilS) (.map _ _ hr) .nil (by rw [map_app0]; rfl) (Nat.le_refl _)
    refine gcL_app [.map E2] [mi - h.length] (by simp) vs2 ?_ h8 h9
    exact ⟨.inr ⟨_, hg2, hE _ _ hfr⟩, trivial⟩
  · have hne : i ≠ mi := fun q => by
      subst q
      have := getRow_eq h3
      rw [List.getElem?_append_right h1, hg2] at this; cases this
    have hg : g[i - h.length]? = some (.row c m) := by
      have := getRow_eq h3
      rwa [List.getElem?_append_right h1] at this
    have lie : ∀ j, lies (.slice (some ⟨i, 0, none⟩) es.length cap) j ↔ j = i := fun j => ⟨fun ⟨o, x, y, q⟩ => by cases q; rfl, fun q => by subst q; exact ⟨0, _, _, rfl⟩⟩
    have hfr : ∀ j, h.length ≤ j → ¬ lies (.slice (some ⟨i, 0, none⟩) es.length cap) j → j ≠ mi → frOf h.length [i - h.length, mi - h.length] j := fun j hj hq hq2 => ⟨hj, by
      rw [lie] at hq; simp; omega⟩
    have hr : rOf h.length [i - h.length, mi - h.length] h.length = some i := by
      unfold rOf; rw [if_neg (by omega)]; simp; omega
    have hr2 : rOf h.length [i - h.length, mi - h.length] (h.length + 1) = some mi := by
      unfold rOf; rw [if_neg (by omega), Nat.add_sub_cancel_left]; simp; omega
    have len1 := flat_len hz
    have len2 := flat_len hz2
    have hle : es.length * sz ≤ c.length := by rw [h5]; exact Nat.mul_le_mul_right sz h6
    obtain ⟨vs2, h8, h9⟩ := k _ _ (.slice (some ⟨h.length, 0, none⟩) es2.length cap) (h.length + 1)
      [.row (es2.flatMap cellsOf ++ List.replicate (c.drop (es.length * sz)).length und) m, .map E2] hfr (by rw [hl]; exact .slice _ _ _ _ _ hr) (.map _ _ hr2)
      (.inr ⟨h.length, cap, _, m, Nat.le_refl _, rfl, row_app0.trans row_0, h4, by rw [List.length_append, len2, hl, List.length_replicate, List.length_drop]; omega, by omega, by rw [← len2, List.take_left]⟩) (by rw [map_app]; rfl) (by omega)
    have e : c = es.flatMap cellsOf ++ c.drop (es.length * sz) := by rw [← h7, List.take_append_drop]
    have q := GvL.append (GvL.flat (fr := frOf h.length [i - h.length, mi - h.length]) (r := rOf h.length [i - h.length, mi - h.length]) (h := h ++ g) hl (hc _ _ hfr)) (GvL.und (fr := frOf h.length [i - h.length, mi - h.length]) (r := rOf h.length [i - h.length, mi - h.length]) (h := h ++ g) (ys := c.drop (es.length * sz)))
    rw [← e] at q
    refine gcL_app [.row (es2.flatMap cellsOf ++ List.replicate (c.drop (es.length * sz)).length und) m, .map E2] [i - h.length, mi - h.length] (by simp; omega) vs2 ?_ h8 h9
    exact ⟨.inr ⟨_, hg, q, rfl⟩, .inr ⟨_, hg2, hE _ _ hfr⟩, trivial⟩
theorem Gv.one {fr : Nat → Prop} {r : Nat → Option Nat} {h : Heap} {i cap : Nat} {x y : Value} {m : Md} (e : fr i) (hi : getRow h i = some ([x], m)) (hy : cellsOf y = [y]) (g : Gv fr r h y x) : Gv fr r h (lit [y]) (.slice (some ⟨i, 0, none⟩) 1 cap) := by
  refine .frzS #[y] i 0 1 cap [x] m e (getRow_eq hi) (by omega) (fun k p => ?_) (by simp) fun k j p q q2 => ?_
  · have : k = 0 := by simpa using p
    subst this; simp [hy]
  · have : k = 0 := by simpa using p
    subst this
    have hj : j = 0 := by simpa [hy] using q
    subst hj
    simpa [hy] using g
theorem EsG.snoc {fr : Nat → Prop} {r : Nat → Option Nat} {h : Heap} {k : Value} {u v : Value} (g : Gv fr r h u v) : ∀ {E : List (Value × Value)}, (∀ p ∈ E, Cl p.2) → EsG fr r h (E ++ [(k, u)]) (E ++ [(k, v)])
  | [], _ => ⟨rfl, g, trivial⟩
  | p :: E, q => ⟨rfl, .cl (q p (by simp)), EsG.snoc g fun x hx => q x (by simp [hx])⟩

theorem index_spec {l : List Nat} (hl : l.length ≤ 1000000000) {a : Nat} {h : Heap} {Q : Value → Heap → Prop} (hq : ∀ z : Int, (0 ≤ z ↔ a ∈ l) → Q (.int .i64 z) h) : acall Try.prog F_slices_Index_int_int [nats l, natV a] h Q := by
  apply W_slices_Index_int_int_ok
  unfold W_slices_Index_int_int
  repeat' first | ((with_reducible apply s_lenM))
  refine ⟨fun m vs H => ∃ i : Nat, vs = [nats l, natV a, natV l.length, natV i] ∧ H = h ∧ i ≤ l.length ∧ (∀ x ∈ l.take i, x ≠ a) ∧ m = l.length - i, _, gcL_same ⟨0, rfl, rfl, by omega, by simp, rfl⟩, ?_⟩
  rintro m x0 x1 x2 x3 H ⟨i, hv, rfl, hi, ha, rfl⟩
  replace hv := hv.symm
  simp only [List.cons.injEq, and_true] at hv
  obtain ⟨rfl, rfl, rfl, rfl⟩ := hv
  repeat' first | ((with_reducible apply s_inc); (· omega)) | ((with_reducible apply s_lss)) | ((with_reducible apply s_eql)) | ((with_reducible apply s_br) <;> intro hb <;> try (exfalso; omega)) | ((with_reducible refine s_ix (by omega) ?_ ?_); (· rfl)) | ((with_reducible apply s_ld1); (· rfl))
  · exact gcV_same (hq i ⟨fun _ => by have : a = l[i] := (by omega); rw [this]; exact List.getElem_mem _, fun _ => by omega⟩)
  · have hs : ∀ x ∈ l.take (i + 1), x ≠ a := fun x hx => by
      rw [take_succ' (by omega)] at hx
      rcases List.mem_append.1 hx with q | q
      · exact ha x q
      · rw [List.mem_singleton.1 q]; omega
    refine ⟨_, ?_, gcL_same ⟨i + 1, rfl, rfl, by omega, hs, rfl⟩⟩
    omega
  · have e : i = l.length := by omega
    subst e
    rw [List.take_length] at ha
    exact gcV_same (hq (-1) ⟨fun q => by omega, fun q => absurd rfl (ha a q)⟩)
theorem contains_spec {l : List Nat} (hl : l.length ≤ 1000000000) {a : Nat} {h : Heap} {Q : Value → Heap → Prop} (hq : Q (.bool (decide (a ∈ l))) h) : acall Try.prog F_slices_Contains_int_int [nats l, natV a] h Q := by
  apply W_slices_Contains_int_int_ok
  unfold W_slices_Contains_int_int
  repeat' first | ((with_reducible apply s_call))
  refine index_spec hl fun z hz => ?_
  repeat' first | ((with_reducible apply s_geq))
  refine gcV_same ?_
  have : decide (0 ≤ z) = decide (a ∈ l) := by
    by_cases q : a ∈ l
    · rw [decide_eq_true q, decide_eq_true (hz.2 q)]
    · rw [decide_eq_false q, decide_eq_false fun w => q (hz.1 w)]
  rw [this]; exact hq

end Go.Ax

namespace Go.Ax
open Go Go.Proofs Go.RowKit

abbrev lastN (r : List Nat) : Nat := r.getD (r.length - 1) 0
theorem lastN_snoc {r : List Nat} {x : Nat} : lastN (r ++ [x]) = x := by
  unfold lastN
  rw [List.length_append, List.getD_eq_getElem?_getD]; simp
abbrev keysW (K : List (Nat × List Nat)) : List Nat := K.map (·.1)
def EK (K : List (Nat × List Nat)) : List (Int × Value) := K.map fun k => ((k.1 : Int), nats k.2)
theorem ek_none {K : List (Nat × List Nat)} {x : Nat} : aget (EK K) x = none ↔ x ∉ keysW K := by
  rw [aget_none]
  have : (EK K).map (·.1) = (keysW K).map fun n : Nat => (n : Int) := by unfold EK keysW; rw [List.map_map, List.map_map]; rfl
  rw [this]
  constructor
  · exact fun q w => q (List.mem_map.2 ⟨x, w, rfl⟩)
  · intro q w
    obtain ⟨y, h1, h2⟩ := List.mem_map.1 w
    have : y = x := by omega
    exact q (this ▸ h1)
theorem ek_some {K : List (Nat × List Nat)} {x : Int} {v : Value} (h : aget (EK K) x = some v) : ∃ k ∈ K, v = nats k.2 := by
  induction K with
  | nil => cases h
  | cons k K ih =>
    simp only [EK, List.map_cons, aget] at h
    by_cases q : (k.1 : Int) = x
    · rw [if_pos q] at h; cases h; exact ⟨k, by simp, rfl⟩
    · rw [if_neg q] at h
      obtain ⟨j, h1, h2⟩ := ih h
      exact ⟨j, by simp [h1], h2⟩
theorem ek_snoc {K : List (Nat × List Nat)} {x : Nat} {r : List Nat} : EK (K ++ [(x, r)]) = EK K ++ [((x : Int), nats r)] := by unfold EK; rw [List.map_append]; rfl

/-- Who has been come to is either still to be looked at, or all his ways have been gone. -/
def Cov (S : List (List Nat)) (first : Nat) (K : List (Nat × List Nat)) (T : List Nat) : Prop :=
  ∀ y, (y = first ∨ y ∈ keysW K) → y ∈ T ∨ (¬ stepS' S y first ∧ ∀ x, stepS' S y x → x ∈ keysW K)
theorem Cov.add {S : List (List Nat)} {first : Nat} {K : List (Nat × List Nat)} {T T' : List Nat} (c : Cov S first K T) {x : Nat} {r : List Nat} (h : ∀ z ∈ T, z ∈ T') (hx : x ∈ T') : Cov S first (K ++ [(x, r)]) T' := fun y hy => by
  have up : ∀ z, z ∈ keysW K → z ∈ keysW (K ++ [(x, r)]) := fun z hz => by simp [keysW] at hz ⊢; exact .inl hz
  by_cases q : y = x
  · subst q; exact .inl hx
  · rcases c y (hy.imp id fun w => by
      simp only [keysW, List.map_append, List.map_cons, List.map_nil, List.mem_append, List.mem_singleton] at w
      exact w.resolve_right q) with w | ⟨w1, w2⟩
    · exact .inl (h _ w)
    · exact .inr ⟨w1, fun z hz => up _ (w2 z hz)⟩
theorem Cov.done {S : List (List Nat)} {first : Nat} {K : List (Nat × List Nat)} {T : List Nat} {y : Nat} (c : Cov S first K (y :: T)) (h1 : ¬ stepS' S y first) (h2 : ∀ x, stepS' S y x → x ∈ keysW K) : Cov S first K T := fun z hz => by
  rcases c z hz with w | w
  · rcases List.mem_cons.1 w with rfl | w
    · exact .inr ⟨h1, h2⟩
    · exact .inl w
  · exact .inr w
theorem Cov.fin {S : List (List Nat)} {first : Nat} {K : List (Nat × List Nat)} (c : Cov S first K []) : ¬ Plus (stepS' S) first first := by
  have key : ∀ {a b}, Plus (stepS' S) a b → (a = first ∨ a ∈ keysW K) → b ≠ first := by
    intro a b p
    induction p with
    | @one a b h =>
      intro ha q
      obtain ⟨w1, _⟩ := (c a ha).resolve_left (by simp)
      exact w1 (q ▸ h)
    | @cons a b d h _ ih =>
      intro ha
      obtain ⟨_, w2⟩ := (c a ha).resolve_left (by simp)
      exact ih (.inr (w2 b h))
  exact fun p => key p (.inl rfl) rfl
/-- A row that has been come to. -/
structure WRow (S : List (List Nat)) (first : Nat) (K : List (Nat × List Nat)) (r : List Nat) : Prop where
  ne : 0 < r.length
  lt : lastN r < S.length
  come : lastN r = first ∨ Plus (stepS' S) first (lastN r)
  len : r.length ≤ K.length + 1
theorem WRow.up {S : List (List Nat)} {first : Nat} {K : List (Nat × List Nat)} {r : List Nat} (o : WRow S first K r) {k : Nat × List Nat} : WRow S first (K ++ [k]) r := ⟨o.ne, o.lt, o.come, by have := o.len; simp; omega⟩
theorem WRow.step {S : List (List Nat)} {first : Nat} {K : List (Nat × List Nat)} {r : List Nat} (o : WRow S first K r) {x : Nat} (hx : stepS' S (lastN r) x) (hl : x < S.length) {k : Nat × List Nat} : WRow S first (K ++ [k]) (r ++ [x]) :=
  ⟨by simp, by rw [lastN_snoc]; exact hl, .inr (by rw [lastN_snoc]; exact o.come.elim (fun q => .one (q ▸ hx)) fun q => q.trans (.one hx)), by have := o.len; simp; omega⟩
structure WKey (N : Nat) (K : List (Nat × List Nat)) : Prop where
  nd : (keysW K).Nodup
  lt : ∀ k ∈ K, k.1 < N ∧ 0 < k.2.length
theorem WKey.len {N : Nat} {K : List (Nat × List Nat)} (o : WKey N K) : K.length ≤ N := by
  have := sub_len (l := List.range N) o.nd fun x hx => by
    obtain ⟨k, h1, rfl⟩ := List.mem_map.1 hx
    exact List.mem_range.2 (o.lt k h1).1
  simpa using this
theorem WKey.add {N : Nat} {K : List (Nat × List Nat)} (o : WKey N K) {x : Nat} {r : List Nat} (hx : x ∉ keysW K) (hl : x < N) (hr : 0 < r.length) : WKey N (K ++ [(x, r)]) :=
  ⟨by
    show ((K ++ [(x, r)]).map (·.1)).Nodup
    rw [List.map_append]
    exact List.nodup_append.2 ⟨o.nd, by simp, fun a ha b hb q => by
      have : b = x := by simpa using hb
      exact hx (this ▸ q ▸ ha)⟩,
   fun k hk => by
    rcases List.mem_append.1 hk with q | q
    · exact o.lt k q
    · rw [List.mem_singleton.1 q]; exact ⟨hl, hr⟩⟩

end Go.Ax

namespace Go.Ax
open Go Go.Proofs Go.RowKit

theorem ek_cl {K : List (Nat × List Nat)} : ∀ p ∈ encE (EK K), Cl p.2 := fun p hp => by
  obtain ⟨q, hq, rfl⟩ := List.mem_map.1 hp
  obtain ⟨k, _, rfl⟩ := List.mem_map.1 hq
  exact tNat.clL

theorem around_spec {S : List (List Nat)} (hN : S.length ≤ 10000) (hk : ∀ x, ∀ y ∈ S.getD x [], y < S.length) (hbd : ∀ x, (S.getD x []).length ≤ 1000000) {first : Nat} (hf : first < S.length) {h : Heap} {Q : Value → Heap → Prop}
    (h1 : ¬ Plus (stepS' S) first first → Q (.slice none 0 0) h) (h2 : Plus (stepS' S) first first → ∀ l : List Nat, 0 < l.length → (stepS' S first first → l.length = 1) → Q (nats l) h) : acall Try.prog F_count_around [wnats S, natV first] h Q := by
  apply W_count_around_ok
  unfold W_count_around
  repeat' first | ((with_reducible apply s_let))
  refine bsl1 rfl rfl rfl ?_
  refine bsl1 rfl rfl rfl ?_
  refine ⟨fun m vs H => ∃ (K : List (Nat × List Nat)) (W : List (List Nat)) (mi : Nat) (g : Heap), vs = [wnats S, natV first, .map (some mi), wnats W] ∧ H = h ++ g ∧ getMap (h ++ g) mi = some (encE (EK K)) ∧ h.length ≤ mi ∧ WKey S.length K ∧ (∀ r ∈ W, WRow S first K r) ∧ Cov S first K (W.map lastN) ∧
      (stepS' S first first → W = [[first]]) ∧ W.length ≤ 10001 ∧ m = (if W = [] then 0 else S.length - K.length + 1), S.length + 1, ?_, ?_⟩
  · rw [List.append_assoc, List.append_assoc]
    refine gcL_acc1e (sz := 1) (es := []) (es2 := []) (E := encE (EK [])) (E2 := encE (EK [])) (mi := h.length) .nil (by simp) (by simp) rfl (by rw [map_app0]; rfl) (Nat.le_refl _) (fun fr r _ => EsG.cl ek_cl) (fun fr r _ k p => by simp at p) fun fr r v' mi' g' hfr gv gm a' m' ml' =>
      ⟨[wnats S, natV first, .map (some mi'), wnats [[first]]], ⟨.cl tNats.clL, .cl (.int _ _), gm, ?_, trivial⟩, [], [[first]], mi', g', rfl, rfl, m', ml', ⟨by simp, by simp⟩, ?_, ?_, fun _ => rfl, by simp, by simp⟩
    · refine Gv.one (x := .slice (some ⟨h.length + 1, 0, none⟩) 1 1) (m := .exact) (hfr _ (by simp) (fun ⟨_, _, _, q⟩ => by cases q) (by simp)) ?_ rfl ?_
      · rw [← List.append_assoc, ← List.append_assoc]
        refine row_last.trans ?_
        simp
      · refine Gv.one (x := natV first) (m := .exact) (hfr _ (by omega) (fun ⟨_, _, _, q⟩ => by cases q) (by omega)) ?_ rfl (.cl (.int _ _))
        rw [← List.append_assoc, ← List.append_assoc]
        exact getRow_app (by simp)
    · intro r hr
      rw [List.mem_singleton.1 hr]
      exact ⟨by simp, hf, .inl rfl, by simp⟩
    · intro y hy
      rcases hy with rfl | hy
      · left; simp
      · simp at hy
  rintro m x0 x1 x2 x3 H ⟨K, W, mi, g, hv, rfl, am, hmi, kk, rw_, cov, one, wl, rfl⟩
  replace hv := hv.symm
  simp only [List.cons.injEq, and_true] at hv
  obtain ⟨rfl, rfl, rfl, rfl⟩ := hv
  repeat' first | ((with_reducible apply s_gtr)) | ((with_reducible apply s_br) <;> intro hb <;> try (exfalso; omega)) | ((with_reducible apply s_lenM))
  rotate_left
  · have e : W = [] := List.length_eq_zero_iff.1 (by omega)
    subst e
    exact gcV_end (.cl .nilS) (h1 (Cov.fin (by simpa using cov)))
  have hW0 : W ≠ [] := fun q => by subst q; simp at hb
  rw [if_neg hW0]
  have hkn := kk.len
  refine ⟨fun m vs H => ∃ (w : Nat) (K' : List (Nat × List Nat)) (nxt : List (List Nat)) (nv : Value) (mi : Nat) (g : Heap), vs = [wnats S, natV first, .map (some mi), nv, wnats W, natV W.length, natV w] ∧ H = h ++ g ∧ Acc 1 h.length (h ++ g) nv (nxt.map nats) ∧ getMap (h ++ g) mi = some (encE (EK K')) ∧ h.length ≤ mi ∧
      WKey S.length K' ∧ (∀ r ∈ W, WRow S first K' r) ∧ (∀ r ∈ nxt, WRow S first K' r) ∧ Cov S first K' ((W.drop w ++ nxt).map lastN) ∧ K'.length = K.length + nxt.length ∧ (stepS' S first first → w = 0) ∧ w ≤ W.length ∧ m = W.length - w, _,
    gcL_same ⟨0, K, [], _, mi, g, rfl, rfl, .nil, am, hmi, kk, rw_, by simp, by simpa using cov, by simp, fun _ => rfl, by omega, rfl⟩, ?_⟩
  clear am hmi kk rw_ cov
  rintro m x0 x1 x2 x3 x4 x5 x6 H ⟨w, K', nxt, nv, mi, g, hv, rfl, a, am, hmi, kk, rw_, rn, cov, kl, w0, hw, rfl⟩
  replace hv := hv.symm
  simp only [List.cons.injEq, and_true] at hv
  obtain ⟨rfl, rfl, rfl, rfl, rfl, rfl, rfl⟩ := hv
  have hkn' := kk.len
  repeat' first | ((with_reducible apply s_lss)) | ((with_reducible apply s_br) <;> intro hb <;> try (exfalso; omega)) | ((with_reducible apply s_lenM)) | ((with_reducible refine s_ix (by omega) ?_ ?_); (· rfl)) | ((with_reducible apply s_ld1); (· rfl))
  rotate_left
  · have e : w = W.length := by omega
    subst e
    rw [List.drop_length, List.nil_append] at cov
    refine ⟨_, ?_, gcL_acc1e (sz := 1) (es := []) (es2 := []) (E2 := encE (EK K')) .nil (by simp) (by simp) rfl am hmi (fun fr r _ => EsG.cl ek_cl) (fun fr r _ k p => by simp at p) fun fr r v' mi' g' hfr gv gm a' m' ml' =>
      ⟨[wnats S, natV first, .map (some mi'), wnats nxt], ⟨.cl tNats.clL, .cl (.int _ _), gm, tNats.gv (by omega) a fun i hi hl => hfr i hi (fun ⟨_, _, _, q⟩ => by cases q) (fun q => lies_row a hl (q ▸ am)), trivial⟩, K', nxt, mi', g', rfl, rfl, m', ml', kk, rn, cov, fun q => ?_, by omega, rfl⟩⟩
    · split
      · omega
      · rename_i q
        have := List.length_pos_iff.2 q
        omega
    · have := one q; have := w0 q; subst W; simp at this
  have hwl : w < W.length := by omega
  have ro := rw_ _ (List.getElem_mem hwl)
  have hne := ro.ne
  have hrl := ro.len
  have hlt := ro.lt
  have hlN : lastN W[w] = W[w][W[w].length - 1] := getD_at (by omega)
  rw [hlN] at hlt
  have hlS : S.getD (lastN W[w]) [] = S[W[w][W[w].length - 1]] := by rw [hlN]; exact getD_at hlt
  have hbw := hbd (lastN W[w])
  rw [hlS] at hbw
  repeat' first | ((with_reducible apply s_dec); (· omega); (· omega)) | ((with_reducible refine s_ix (by omega) ?_ ?_); (· rfl)) | ((with_reducible apply s_ld1); (· rfl)) | ((with_reducible apply s_call))
  refine contains_spec (Nat.le_trans hbw (by omega)) ?_
  repeat' first | ((with_reducible apply s_br) <;> intro hb <;> try (exfalso; omega)) | ((with_reducible apply s_lenM)) | ((with_reducible refine s_ix (by omega) ?_ ?_); (· rfl)) | ((with_reducible apply s_ld1); (· rfl))
  · rw [← hlS] at hb
    have hp : Plus (stepS' S) first first := ro.come.elim (fun q => .one (q ▸ hb)) fun q => q.trans (.one hb)
    refine gcV_end (.cl tNat.clL) (h2 hp _ hne fun q => ?_)
    have := one q; subst W
    have : w = 0 := by simpa using hwl
    subst this; rfl
  have hns : ¬ stepS' S (lastN W[w]) first := fun q => by
    unfold stepS' at q
    rw [hlS] at q
    exact hb q
  clear hb
  have hcv : (W.drop w ++ nxt).map lastN = lastN W[w] :: (W.drop (w + 1) ++ nxt).map lastN := by rw [List.drop_eq_getElem_cons hwl]; rfl
  rw [hcv] at cov
  have hmem : ∀ j (q : j < S[W[w][W[w].length - 1]].length), stepS' S (lastN W[w]) S[W[w][W[w].length - 1]][j] := fun j q => by
    unfold stepS'; rw [hlS]; exact List.getElem_mem q
  have hin : ∀ x, stepS' S (lastN W[w]) x → x ∈ S[W[w][W[w].length - 1]] := fun x q => by
    unfold stepS' at q; rwa [hlS] at q
  refine ⟨fun m vs H => ∃ (j : Nat) (K' : List (Nat × List Nat)) (nxt : List (List Nat)) (nv : Value) (mi : Nat) (g : Heap), vs = [wnats S, natV first, .map (some mi), nv, nats W[w], wnats W, natV W.length, natV w, nats S[W[w][W[w].length - 1]], natV S[W[w][W[w].length - 1]].length, natV j] ∧ H = h ++ g ∧
      Acc 1 h.length (h ++ g) nv (nxt.map nats) ∧ getMap (h ++ g) mi = some (encE (EK K')) ∧ h.length ≤ mi ∧ WKey S.length K' ∧ (∀ r ∈ W, WRow S first K' r) ∧ (∀ r ∈ nxt, WRow S first K' r) ∧ Cov S first K' (lastN W[w] :: (W.drop (w + 1) ++ nxt).map lastN) ∧ K'.length = K.length + nxt.length ∧
      (∀ x ∈ S[W[w][W[w].length - 1]].take j, x ∈ keysW K') ∧ j ≤ S[W[w][W[w].length - 1]].length ∧ m = S[W[w][W[w].length - 1]].length - j, _,
    gcL_same ⟨0, K', nxt, _, mi, g, rfl, rfl, a, am, hmi, kk, rw_, rn, cov, kl, by simp, by omega, rfl⟩, ?_⟩
  clear a am hmi kk rw_ rn cov kl hkn' hrl ro hcv
  rintro m x0 x1 x2 x3 x4 x5 x6 x7 x8 x9 x10 H ⟨j, K', nxt, nv, mi, g, hv, rfl, a, am, hmi, kk, rw_, rn, cov, kl, sn, hj, rfl⟩
  replace hv := hv.symm
  simp only [List.cons.injEq, and_true] at hv
  obtain ⟨rfl, rfl, rfl, rfl, rfl, rfl, rfl, rfl, rfl, rfl, rfl⟩ := hv
  have hkn' := kk.len
  have ro := rw_ _ (List.getElem_mem hwl)
  have hrl := ro.len
  repeat' first | ((with_reducible apply s_inc); (· omega)) | ((with_reducible apply s_lss)) | ((with_reducible apply s_br) <;> intro hb <;> try (exfalso; omega)) | ((with_reducible refine s_ix (by omega) ?_ ?_); (· rfl)) | ((with_reducible apply s_ld1); (· rfl))
  rotate_left
  · have e : j = S[W[w][W[w].length - 1]].length := by omega
    rw [List.take_of_length_le (by omega)] at sn
    have cov' := cov.done hns fun x q => sn x (hin x q)
    have w0' : stepS' S first first → w + 1 = 0 := fun q => by
      have := one q; have h0 := w0 q; subst W; subst h0
      exact absurd q hns
    refine ⟨_, ?_, gcL_same ⟨w + 1, K', nxt, nv, mi, g, rfl, rfl, a, am, hmi, kk, rw_, rn, cov', kl, w0', by omega, rfl⟩⟩
    omega
  have hjl : j < S[W[w][W[w].length - 1]].length := by omega
  have hst := hmem j hjl
  have hxl := hk _ _ hst
  generalize hx : S[W[w][W[w].length - 1]][j] = x at hst hxl
  rw [lk_int am]
  have sn' : ∀ K2 : List (Nat × List Nat), (∀ y, y ∈ keysW K' → y ∈ keysW K2) → x ∈ keysW K2 → ∀ y ∈ S[W[w][W[w].length - 1]].take (j + 1), y ∈ keysW K2 := fun K2 q1 q2 y hy => by
    rw [take_succ' hjl] at hy
    rcases List.mem_append.1 hy with q | q
    · exact q1 y (sn y q)
    · rw [List.mem_singleton.1 q, hx]; exact q2
  cases hv : aget (EK K') (x : Int) with
  | some v =>
    obtain ⟨k, hk1, rfl⟩ := ek_some hv
    have hkn := (kk.lt k hk1).2
    obtain ⟨y, l, hyl⟩ : ∃ y l, k.2 = y :: l := by
      cases e : k.2 with
      | nil => rw [e] at hkn; simp at hkn
      | cons y l => exact ⟨y, l, rfl⟩
    have hxk : x ∈ keysW K' := Decidable.byContradiction fun q => by rw [ek_none.2 q] at hv; cases hv
    refine ⟨_, rfl, .bool false, by rw [hyl]; exact congrArg eqW nilS_lit, bW_false.2 ?_⟩
    repeat' first | ((with_reducible apply s_inc); (· omega))
    refine ⟨_, ?_, gcL_same ⟨j + 1, K', nxt, nv, mi, g, rfl, rfl, a, am, hmi, kk, rw_, rn, cov, kl, sn' K' (fun y q => q) hxk, by omega, rfl⟩⟩
    omega
  | none =>
    have hxk := ek_none.1 hv
    refine ⟨_, rfl, .bool true, rfl, bW_true.2 ?_⟩
    refine callW_plain.2 (clone_spec (by omega) fun v g2 a2 => ?_)
    refine Acc.push (n := (h ++ g).length) (e := natV x) (B := h ++ g) (g := g2) rfl a2 (by omega) tNat.lens rfl rfl rfl rfl (by simp; omega) (by simp; omega) fun v' g' a' q1 q2 q3 => ?_
    have hmlt := getMap_lt am
    have am1 := getMap_app (t := g') am
    rw [up_int am1, sW_some]
    have hset : (h ++ g ++ g').set mi (.map (encE (aset (EK K') x v'))) = h ++ (g.set (mi - h.length) (.map (encE (aset (EK K') x v'))) ++ g') := by
      rw [List.append_assoc, List.set_append_right _ _ hmi, List.set_append_left _ _ (by rw [List.length_append] at hmlt; omega)]
    have av : Acc 1 (h ++ g).length ((h ++ g ++ g').set mi (.map (encE (aset (EK K') x v')))) v' ((W[w] ++ [x]).map natV) := by
      rw [List.map_append]
      exact a'.congr fun i hi => List.getElem?_set_ne (by have := a'.ge hi; omega)
    have an : Acc 1 h.length ((h ++ g ++ g').set mi (.map (encE (aset (EK K') x v')))) nv (nxt.map nats) := (a.app (t := g')).congr fun i hi => List.getElem?_set_ne (fun q => lies_row a hi (q ▸ am))
    have am2 := getMap_set am1 (encE (aset (EK K') x v'))
    have hnv : ∀ i, lies nv i → i < (h ++ g).length := fun i hi => a.ltA hi
    rw [hset] at av an am2 ⊢
    generalize g.set (mi - h.length) (.map (encE (aset (EK K') x v'))) ++ g' = g3 at av an am2 ⊢
    rw [lk_int am2, aget_aset, if_pos rfl]
    refine ⟨v', rfl, ?_⟩
    have hnl : nxt.length ≤ 10000 := by omega
    refine Acc.push (n := h.length) (e := v') (B := h) (g := g3) rfl an (by omega) tNats.lens (by rw [av.cell.2.1]; rfl) av.cell.1 (by rw [av.cell.2.1]; simp [av.cell.2.2]) rfl (by simp; omega) (by simp; omega) fun nv' g4 an' r1 r2 r3 => ?_
    have hml3 := getMap_lt am2
    have av' : Acc 1 (h ++ g).length (h ++ g4) v' ((W[w] ++ [x]).map natV) := av.congr fun i hi => r1 i (av.ltA hi) fun q => by have := hnv i q; have := av.ge hi; omega
    have am3 : getMap (h ++ g4) mi = some (encE (aset (EK K') x v')) := (getMap_same (r1 mi hml3 fun q => by exact lies_row an q am2)).trans am2
    rw [aset_new hv] at am3
    have gvr : ∀ (fr : Nat → Prop) (r : Nat → Option Nat), (∀ i, h.length ≤ i → ¬ lies nv' i → i ≠ mi → fr i) → Gv fr r (h ++ g4) (nats (W[w] ++ [x])) v' := fun fr r hfr => by
      refine tNat.gv (by omega) av' fun i hi hl => hfr i (by rw [List.length_append] at hi; omega) (fun q => ?_) (fun q => by have := av'.ge hl; omega)
      rcases r2 i q with z | z
      · have := hnv i z; have := av'.ge hl; omega
      · have := av.ltA hl; omega
    repeat' first | ((with_reducible apply s_inc); (· omega))
    refine ⟨S[W[w][W[w].length - 1]].length - (j + 1), by omega, gcL_acc1e (sz := 1) (es2 := (nxt ++ [W[w] ++ [x]]).map nats) (E2 := encE (EK (K' ++ [(x, W[w] ++ [x])]))) an' ?_ tNats.lens (by simp) am3 hmi (fun fr r hfr => ?_) (fun fr r hfr => ?_) fun fr r v'' mi' g' hfr gv gm a' m' ml' =>
      ⟨[wnats S, natV first, .map (some mi'), v'', nats W[w], wnats W, natV W.length, natV w, nats S[W[w][W[w].length - 1]], natV S[W[w][W[w].length - 1]].length, natV (j + 1)], ⟨.cl tNats.clL, .cl (.int _ _), gm, gv, .cl tNat.clL, .cl tNats.clL, .cl (.int _ _), .cl (.int _ _), .cl tNat.clL, .cl (.int _ _), .cl (.int _ _), trivial⟩,
        j + 1, K' ++ [(x, W[w] ++ [x])], nxt ++ [W[w] ++ [x]], v'', mi', g', rfl, rfl, a', m', ml', kk.add hxk hxl (by simp), fun r hr => (rw_ r hr).up, fun r hr => ?_, cov.add (fun z hz => ?_) ?_, by simp; omega, sn' _ (fun y hy => by simp [keysW] at hy ⊢; exact .inl hy) (by simp [keysW]), by omega, rfl⟩⟩
    · intro e he
      rcases List.mem_append.1 he with q | q
      · exact tNats.lens e q
      · rw [List.mem_singleton.1 q, av.cell.2.1]; rfl
    · unfold encE; rw [ek_snoc, List.map_append, List.map_append]
      exact EsG.snoc (gvr fr r hfr) ek_cl
    · intro k p q
      simp only [List.map_append, List.map_cons, List.map_nil]
      refine cells_snoc tNats (e2 := nats (W[w] ++ [x])) (e := v') ?_ k _ _
      rw [av.cell.2.1]; exact ⟨gvr fr r hfr, trivial⟩
    · rcases List.mem_append.1 hr with q | q
      · exact (rn r q).up
      · rw [List.mem_singleton.1 q]; exact ro.step hst hxl
    · rcases List.mem_cons.1 hz with q | q
      · exact q ▸ List.mem_cons_self ..
      · refine List.mem_cons_of_mem _ ?_
        rw [← List.append_assoc, List.map_append]
        exact List.mem_append_left _ q
    · refine List.mem_cons_of_mem _ ?_
      rw [← List.append_assoc, List.map_append]
      exact List.mem_append_right _ (by simp [lastN_snoc])

end Go.Ax

namespace Go.Ax
open Go Go.Proofs Go.RowKit

def bestV : Option (List Nat) → Value
  | none => .slice none 0 0
  | some l => nats l
def bestN : Option (List Nat) → Nat
  | none => 0
  | some l => l.length
theorem bestV_len {b : Option (List Nat)} {K : Value → Prop} (k : K (natV (bestN b))) : oW (lenS (bestV b)) K := by
  cases b with
  | none => exact ⟨_, rfl, k⟩
  | some l => exact s_lenM k
theorem bestV_nil {b : Option (List Nat)} (h : b.isSome → 0 < bestN b) : nilS_ (bestV b) (.slice none 0 0) = some b.isNone := by
  cases b with
  | none => rfl
  | some l =>
    have := h rfl
    cases l with
    | nil => simp [bestN] at this
    | cons x l => exact nilS_lit
/-- The best so far. -/
structure BestOk (R : Nat → Nat → Prop) (j : Nat) (b : Option (List Nat)) : Prop where
  pos : b.isSome → 0 < bestN b
  iff : b.isSome ↔ ∃ i, i < j ∧ Plus R i i
  one : (∃ i, i < j ∧ R i i) → bestN b = 1
theorem BestOk.skip {R : Nat → Nat → Prop} {j : Nat} {b : Option (List Nat)} (o : BestOk R j b) (h : ¬ Plus R j j) : BestOk R (j + 1) b :=
  ⟨o.pos, o.iff.trans ⟨fun ⟨i, h1, h2⟩ => ⟨i, by omega, h2⟩, fun ⟨i, h1, h2⟩ => ⟨i, by
    rcases Nat.lt_or_ge i j with q | q
    · exact q
    · exact absurd ((show i = j by omega) ▸ h2) h, h2⟩⟩, fun ⟨i, h1, h2⟩ => o.one ⟨i, by
    rcases Nat.lt_or_ge i j with q | q
    · exact q
    · exact absurd ((show i = j by omega) ▸ Plus.one h2) h, h2⟩⟩
theorem BestOk.keep {R : Nat → Nat → Prop} {j : Nat} {b : Option (List Nat)} (o : BestOk R j b) {l : List Nat} (hs : b.isSome) (hl : bestN b ≤ l.length) (h1 : R j j → l.length = 1) : BestOk R (j + 1) b := by
  have hp := o.pos hs
  obtain ⟨i, h2, h3⟩ := o.iff.1 hs
  refine ⟨o.pos, ⟨fun _ => ⟨i, by omega, h3⟩, fun _ => hs⟩, fun ⟨x, h4, h5⟩ => ?_⟩
  rcases Nat.lt_or_ge x j with q | q
  · exact o.one ⟨x, q, h5⟩
  · have e : x = j := by omega
    subst e
    have := h1 h5; omega
theorem BestOk.take {R : Nat → Nat → Prop} {j : Nat} {b : Option (List Nat)} (o : BestOk R j b) {l : List Nat} (hp : Plus R j j) (hl0 : 0 < l.length) (hl : b.isSome → l.length < bestN b) (h1 : R j j → l.length = 1) : BestOk R (j + 1) (some l) := by
  refine ⟨fun _ => hl0, ⟨fun _ => ⟨j, by omega, hp⟩, fun _ => rfl⟩, fun ⟨x, h4, h5⟩ => ?_⟩
  rcases Nat.lt_or_ge x j with q | q
  · have := o.one ⟨x, q, h5⟩
    have h6 := hl (o.iff.2 ⟨x, q, .one h5⟩)
    omega
  · have e : x = j := by omega
    subst e
    exact h1 h5

theorem cCycle_spec {g : Gr} {f : List Kt} {W : Nat} (ok : TOk g f W) {h : Heap} {Q : Value → Heap → Prop} (hq : ∀ b, BestOk (stepK (kidsK g f)) f.length b → Q (bestV b) h) : acall Try.prog F_count_Cycle [g.enc, knots f] h Q := by
  have hfl := ok.fok.len
  apply W_count_Cycle_ok
  unfold W_count_Cycle
  rw [box_gr, hW_some]
  have ag : getRow (h ++ [grow g]) h.length = some (g.cells, .exact) := row_last
  repeat' first | ((with_reducible apply s_rowA); (· first | assumption | exact row_last | exact getRow_app (by first | assumption | exact row_last | exact getRow_app (by first | assumption | exact row_last))); (· rfl)) | ((with_reducible apply s_call))
  refine of_spec ok.fok ?_
  repeat' first | ((with_reducible apply s_call))
  have hKl : (kidsK g f).length = f.length := kidsK_len
  have kid := ok.kok.kid
  have sz := ok.ksz
  have sm := ok.ksm
  generalize kidsK g f = F at hq hKl kid sz sm ⊢
  refine steps_spec sz sm fun S st => ?_
  have hst := stOk_step st
  have hSl := st.len
  have hSk : ∀ x, ∀ y ∈ S.getD x [], y < S.length := fun x y hy => by
    obtain ⟨l, hl, hx⟩ := (st.mem x y).1 hy
    rw [hSl]; exact kid x l hl y hx
  repeat' first | ((with_reducible apply s_lenM))
  refine ⟨fun m vs H => ∃ (j : Nat) (b : Option (List Nat)), vs = [wnats S, bestV b, natV S.length, natV j] ∧ H = h ∧ BestOk (stepK F) j b ∧ j ≤ S.length ∧ m = S.length - j, S.length - 0,
    gcL_frz (vs2 := [wnats S, bestV none, natV S.length, natV 0]) ⟨[grow g], rfl⟩ (fun fr r _ => ⟨.cl tNats.clL, .cl .nilS, .cl (.int _ _), .cl (.int _ _), trivial⟩) ⟨0, none, rfl, rfl, ⟨fun q => (by cases q), ⟨fun q => (by cases q), fun ⟨i, q, _⟩ => by omega⟩, fun ⟨i, q, _⟩ => by omega⟩, by omega, rfl⟩, ?_⟩
  clear ag
  rintro m x0 x1 x2 x3 H ⟨j, b, hv, rfl, bo, hj, rfl⟩
  replace hv := hv.symm
  simp only [List.cons.injEq, and_true] at hv
  obtain ⟨rfl, rfl, rfl, rfl⟩ := hv
  repeat' first | ((with_reducible apply s_lss)) | ((with_reducible apply s_br) <;> intro hb <;> try (exfalso; omega)) | ((with_reducible apply s_call))
  · have hjl : j < S.length := by omega
    refine around_spec (by omega) hSk st.siz hjl (fun hn => ?_) fun hp l hl0 hl1 => ?_
    · rw [hst] at hn
      refine ⟨.bool false, rfl, bW_false.2 (bW_false.2 ?_)⟩
      repeat' first | ((with_reducible apply s_inc); (· omega))
      refine ⟨_, ?_, gcL_same ⟨j + 1, b, rfl, rfl, bo.skip hn, by omega, rfl⟩⟩
      omega
    · rw [hst] at hp hl1
      have hn : neW (nilS_ (nats l) (.slice none 0 0)) = some (.bool true) := by
        cases l with
        | nil => simp at hl0
        | cons x l => exact (congrArg neW nilS_lit).trans rfl
      refine ⟨.bool true, hn, bW_true.2 ?_⟩
      rw [bestV_nil bo.pos]
      refine ⟨_, rfl, ?_⟩
      cases b with
      | none =>
        refine bW_true.2 (bW_true.2 ?_)
        repeat' first | ((with_reducible apply s_inc); (· omega))
        refine ⟨_, ?_, gcL_same ⟨j + 1, some l, rfl, rfl, bo.take hp hl0 (fun q => (by cases q)) hl1, by omega, rfl⟩⟩
        omega
      | some b =>
        refine bW_false.2 ?_
        repeat' first | ((with_reducible apply s_lenM))
        refine bestV_len ?_
        repeat' first | ((with_reducible apply s_inc); (· omega)) | ((with_reducible apply s_lss)) | ((with_reducible apply s_br) <;> intro hb <;> try (exfalso; omega))
        · refine ⟨_, ?_, gcL_same ⟨j + 1, some l, rfl, rfl, bo.take hp hl0 (fun _ => by omega) hl1, by omega, rfl⟩⟩
          omega
        · refine ⟨_, ?_, gcL_same ⟨j + 1, some b, rfl, rfl, bo.keep rfl (by omega) hl1, by omega, rfl⟩⟩
          omega
  · have e : j = S.length := by omega
    subst e
    rw [hSl, hKl] at bo
    exact gcV_same (hq b bo)

end Go.Ax
