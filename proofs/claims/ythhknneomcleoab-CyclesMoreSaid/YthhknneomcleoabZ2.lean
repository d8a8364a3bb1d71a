/- Cycles: what the laws CyclesAgree and CyclesMore lean on (picked of the other seat's texts). -/
import Derived.Test.YthhknneomcleoabZ1
namespace Go.Ax
open Go Go.Proofs Go.RowKit
def onT (T : List (List Bool)) (s t : Nat) : Prop := onL (T.getD s []) t
instance (T : List (List Bool)) (s t : Nat) : Decidable (onT T s t) := by unfold onT; infer_instance
theorem onT_iff {T : List (List Bool)} {s t : Nat} (h : s < T.length) : onT T s t ↔ onL T[s] t := by unfold onT; rw [List.getD_eq_getElem?_getD, List.getElem?_eq_getElem h]; rfl
theorem onT_lt {T : List (List Bool)} {s t : Nat} (h : onT T s t) : s < T.length := by
  apply Classical.byContradiction
  intro hn
  unfold onT at h
  rw [List.getD_eq_getElem?_getD, List.getElem?_eq_none (by omega)] at h
  have := on_lt h
  simp at this
abbrev rowV (c j : Nat) : Value := .slice (some ⟨j, 0, none⟩) c c
/-- A table of bools: a row of rows, all of one length. -/
structure TabAt (c n0 : Nat) (H : Heap) (v : Value) (ms : List Nat) (T : List (List Bool)) : Prop where
  acc : Acc 1 n0 H v (ms.map (rowV c))
  len : ms.length = T.length
  nd : ms.Nodup
  ge : ∀ j ∈ ms, n0 ≤ j ∧ ¬ lies v j
  row : ∀ i (p : i < ms.length) (q : i < T.length), getRow H ms[i] = some (T[i].map .bool, .exact)
  wid : ∀ r ∈ T, r.length = c
theorem rowV_len {c : Nat} {l : List Nat} : ∀ x ∈ l.map (rowV c), (cellsOf x).length = 1 := fun x hx => by
  obtain ⟨n, _, rfl⟩ := List.mem_map.1 hx; rfl
theorem rowV_flat {c : Nat} {ms : List Nat} : (ms.map (rowV c)).flatMap cellsOf = ms.map (rowV c) := flat_one fun e he => by obtain ⟨n, _, rfl⟩ := List.mem_map.1 he; rfl
theorem TabAt.nil {c n0 : Nat} {H : Heap} : TabAt c n0 H (.slice none 0 0) [] [] := ⟨Acc.nil, rfl, .nil, by simp, by simp, by simp⟩
section
variable {c n0 : Nat} {H : Heap} {v : Value} {ms : List Nat} {T : List (List Bool)} (a : TabAt c n0 H v ms T)
include a
theorem TabAt.app {t : Heap} : TabAt c n0 (H ++ t) v ms T := ⟨a.acc.app, a.len, a.nd, a.ge, fun i p q => getRow_app (a.row i p q), a.wid⟩
theorem TabAt.congr {H' : Heap} (e : ∀ j, n0 ≤ j → j < H.length → H'[j]? = H[j]?) : TabAt c n0 H' v ms T :=
  ⟨a.acc.congr fun j hj => e j (a.acc.ge hj) (a.acc.lt hj), a.len, a.nd, a.ge, fun i p q => by
    have h := a.row i p q
    rw [getRow_same (e _ (a.ge _ (List.getElem_mem p)).1 (getRow_lt h))]; exact h, a.wid⟩
/-- A row is loaded. -/
theorem TabAt.get {x : Int} (hx : inR T.length x) {K : Value → Value → Prop} (k : ∀ p, K p (rowV c (ms[x.toNat]'(by rw [a.len]; unfold inR at hx; omega)))) : oW (iaS 1 v (.int .i64 x)) fun p => oW (ldW false 1 H p) fun w => K p w := by
  unfold inR at hx
  have hl : x.toNat < ms.length := by rw [a.len]; omega
  rcases a.acc with ⟨rfl, e⟩ | ⟨q, cap, cc, m, h1, rfl, h3, h4, h5, h6, h7⟩
  · have := congrArg List.length e; simp at this; subst this; simp at hl
  · rw [iaS_slice' hx.1 (by rw [List.length_map, a.len]; exact hx.2), oW_some]
    refine ⟨rowV c ms[x.toNat], ?_, k _⟩
    rw [ldW_one, h3, Option.bind_some]
    rw [rowV_flat] at h7
    simp only [List.length_map, Nat.mul_one] at h7
    have := get_take h7 hl
    rw [Nat.zero_add, Nat.mul_one, this]
    simp [hl]
/-- A cell is loaded. -/
theorem TabAt.cell {i : Nat} (p : i < ms.length) {t : Int} (ht : inR c t) {K : Value → Prop} (k : K (.bool (decide (onT T i t.toNat)))) : oW (iaS 1 (rowV c ms[i]) (.int .i64 t)) fun q => oW (ldW false 1 H q) K := by
  unfold inR at ht
  have q : i < T.length := by rw [← a.len]; exact p
  have hw := a.wid _ (List.getElem_mem q)
  have hl : t.toNat < T[i].length := by omega
  rw [iaS_slice' ht.1 ht.2, oW_some]
  refine ⟨.bool T[i][t.toNat], by rw [ldW_one, a.row i p q, Option.bind_some, Nat.zero_add, Nat.mul_one, List.getElem?_map, List.getElem?_eq_getElem hl]; rfl, ?_⟩
  have : decide (onT T i t.toNat) = T[i][t.toNat] := by rw [Bool.eq_iff_iff, decide_eq_true_eq, onT_iff q, on_iff hl]
  rwa [this] at k
/-- A cell is stored. -/
theorem TabAt.put {i : Nat} (p : i < ms.length) {t : Int} (ht : inR c t) {b : Bool} {K : Heap → Prop}
    (k : ∀ H' T', TabAt c n0 H' v ms T' → T'.length = T.length → (∀ s u, onT T' s u ↔ if s = i ∧ u = t.toNat then b = true else onT T s u) → (∀ j, j < n0 → H'[j]? = H[j]?) → H'.length = H.length → K H') :
    oW (iaS 1 (rowV c ms[i]) (.int .i64 t)) fun q => sW (stW 1 H q (.bool b)) K := by
  unfold inR at ht
  have q : i < T.length := by rw [← a.len]; exact p
  have hw := a.wid _ (List.getElem_mem q)
  have hl : t.toNat < T[i].length := by omega
  have hr := a.row i p q
  have hge := a.ge _ (List.getElem_mem p)
  rw [iaS_slice' ht.1 ht.2, oW_some, st1 hr (by simp) rfl rfl rfl (by simp; omega), sW_some]
  have hon : ∀ u, onL (T[i].set t.toNat b) u ↔ if u = t.toNat then b = true else onL T[i] u := fun u => by
    unfold onL
    rw [List.getD_eq_getElem?_getD, List.getD_eq_getElem?_getD, List.getElem?_set]
    by_cases e : t.toNat = u
    · subst e; simp [hl]
    · rw [if_neg e, if_neg (Ne.symm e)]
  refine k _ (T.set i (T[i].set t.toNat b)) ⟨a.acc.congr fun j hj => ?_, by simp [a.len], a.nd, a.ge, fun j pj qj => ?_, fun r hr2 => ?_⟩ (by simp) (fun s u => ?_) (fun j hj => ?_) (by simp)
  · rw [List.getElem?_set_ne fun e => hge.2 (by rw [e]; exact hj)]
  · by_cases e : j = i
    · subst e
      rw [List.getElem_set_self, getRow_set hr]
      simp [List.map_set]
    · have qj' : j < T.length := by simpa using qj
      rw [List.getElem_set_ne (Ne.symm e), getRow_same (List.getElem?_set_ne fun z => e ((List.getElem_inj a.nd).1 z).symm)]
      exact a.row j pj qj'
  · rcases List.mem_or_eq_of_mem_set hr2 with z | rfl
    · exact a.wid r z
    · rw [List.length_set]; exact hw
  · by_cases e : s = i
    · subst e
      rw [onT_iff (by simpa using q), List.getElem_set_self, hon, onT_iff q]
      by_cases eu : u = t.toNat <;> simp [eu]
    · unfold onT
      rw [List.getD_eq_getElem?_getD, List.getElem?_set_ne (Ne.symm e), ← List.getD_eq_getElem?_getD]
      simp [e]
  · rw [List.getElem?_set_ne (by omega)]
end
/-- One row more. -/
theorem TabAt.push {c n0 : Nat} {B g : Heap} {v : Value} {ms : List Nat} {T : List (List Bool)} (hB : B.length = n0) (a : TabAt c n0 (B ++ g) v ms T) {j : Nat} {r : List Bool} (hr : getRow (B ++ g) j = some (r.map .bool, .exact)) (hw : r.length = c) (hj : n0 ≤ j) (hnew : j ∉ ms) (hnl : ¬ lies v j) (hbig : T.length ≤ 1000000)
    {K : Value → Heap → Prop} (k : ∀ v' g', TabAt c n0 (B ++ g') v' (ms ++ [j]) (T ++ [r]) → K v' (B ++ g')) :
    hW (bslW (B ++ g) 1 [(.slice none 0 0)] [(0, 1, rowV c j)]) fun v1 h1 => hW (apW 1 24 h1 v v1) K := by
  have hl := a.len
  refine Acc.push hB a.acc (by omega) rowV_len (e := rowV c j) rfl rfl rfl rfl (by simp; omega) (by simp; omega) fun v' g' a2 q1 q2 q3 => k v' g' ?_
  have keep : ∀ q cc, ¬ lies v q → getRow (B ++ g) q = some cc → getRow (B ++ g') q = some cc := fun q cc hq he => by
    rw [getRow_same (q1 q (getRow_lt he) hq)]; exact he
  refine ⟨by rw [List.map_append]; exact a2, by simp [hl], ?_, fun q hq => ?_, fun i p q => ?_, fun x hx => ?_⟩
  · rw [List.nodup_append]
    exact ⟨a.nd, by simp, fun x hx y hy e => hnew (by rw [List.mem_singleton.1 hy] at e; rw [← e]; exact hx)⟩
  · rcases List.mem_append.1 hq with z | z
    · refine ⟨(a.ge q z).1, fun w => ?_⟩
      rcases q2 q w with w | w
      · exact (a.ge q z).2 w
      · obtain ⟨i, hi, rfl⟩ := List.mem_iff_getElem.1 z
        have := getRow_lt (a.row i hi (by rw [← hl]; exact hi))
        omega
    · have := List.mem_singleton.1 z
      subst this
      refine ⟨hj, fun w => ?_⟩
      rcases q2 q w with w | w
      · exact hnl w
      · have := getRow_lt hr
        omega
  · by_cases hi : i < ms.length
    · rw [List.getElem_append_left hi, List.getElem_append_left (by omega)]
      exact keep _ _ (a.ge _ (List.getElem_mem hi)).2 (a.row i hi (by omega))
    · have hie : i = ms.length := by simp at p; omega
      subst hie
      rw [List.getElem_append_right (by omega), List.getElem_append_right (by omega)]
      simp only [hl, Nat.sub_self, List.getElem_singleton]
      exact keep _ _ hnl hr
  · rcases List.mem_append.1 hx with z | z
    · exact a.wid x z
    · rw [List.mem_singleton.1 z]; exact hw
/-- A new row, all false. -/
theorem mks_row {H : Heap} {n : Nat} (hn : n ≤ 1000000) {K : Value → Heap → Prop} (k : K (rowV n H.length) (H ++ [brow (List.replicate n false)])) :
    hW (mksW [.bool false] 1 H (.int .i64 (n : Int)) (.int .i64 (n : Int))) K := by
  have hrep : repA [Value.bool false] n = (List.replicate n false).map fun x => Value.bool x := by rw [repA_one, List.map_replicate]
  refine ⟨_, _, by
    simp only [mksW]
    rw [if_pos (by omega)], ?_⟩
  simp only [Int.toNat_natCast]
  rw [hrep]
  exact k
/-- A table that is frozen with all else. -/
theorem TabAt.gv {c n0 : Nat} {h0 H : Heap} {v : Value} {ms : List Nat} {T : List (List Bool)} (hn : h0.length ≤ n0) (a : TabAt c n0 H v ms T) : Gv (frOf h0.length []) (rOf h0.length []) H (lit (T.map bools)) v := by
  have hl := a.len
  have hge := a.ge
  have hrow := a.row
  have hwid := a.wid
  have hacc := a.acc
  rcases hacc with ⟨rfl, e⟩ | ⟨q, cap, cc, m, h1, rfl, h3, h4, h5, h6, h7⟩
  · have : T = [] := by
      have := congrArg List.length e
      simp at this
      subst this
      exact List.eq_nil_of_length_eq_zero hl.symm
    subst this
    exact .lit0 _ _
  · rw [rowV_flat] at h7
    simp only [List.length_map, Nat.mul_one] at h7 h6 h5 ⊢
    have hfr : ∀ j, n0 ≤ j → frOf h0.length [] j := fun j hj => ⟨by omega, by simp⟩
    have := Gv.frzS (fr := frOf h0.length []) (r := rOf h0.length []) (h := H) (T.map bools).toArray q 0 1 cap cc m (hfr q h1) (getRow_eq h3) (by omega) (fun k p => by simp) (by simp; omega) fun k j p p2 p3 => ?_
    · simpa [hl] using this
    · have hk : k < T.length := by simpa using p
      have hkm : k < ms.length := by omega
      have hj0 : j = 0 := by simp at p2; exact p2
      subst hj0
      have hc : cc[0 + (k * 1 + 0)] = rowV c ms[k] := by
        have h8 := get_take h7 hkm
        rw [List.getElem?_map, List.getElem?_eq_getElem hkm] at h8
        have h9 := List.getElem?_eq_getElem p3
        have e0 : 0 + (k * 1 + 0) = k := by omega
        have h10 : cc[0 + (k * 1 + 0)]? = some (rowV c ms[k]) := by rw [e0]; exact h8
        exact Option.some.inj (h9.symm.trans h10)
      rw [hc]
      have e2 : (cellsOf (T.map bools).toArray[k])[0]'p2 = bools T[k] := by simp
      rw [e2]
      have hw := hwid _ (List.getElem_mem hk)
      exact Gv.frz1 (fr := frOf h0.length []) (r := rOf h0.length []) (h := H) (es := T[k].map .bool) (i := ms[k]) (cap := c) (len := c) (m := .exact) (hfr _ (hge _ (List.getElem_mem hkm)).1) (getRow_eq (hrow k hkm hk)) (by simp [hw]) (fun e he => by obtain ⟨b, _, rfl⟩ := List.mem_map.1 he; exact ⟨rfl, .bool _⟩)
/-- At the end of a call: frozen. -/
theorem TabAt.done {c n0 : Nat} {h0 B g : Heap} {v : Value} {ms : List Nat} {T : List (List Bool)} {Q : Value → Heap → Prop} (hB : B.length = n0) (hB0 : ∃ t, B = h0 ++ t) (a : TabAt c n0 (B ++ g) v ms T) (hq : Q (lit (T.map bools)) h0) : gcV h0 Q v (B ++ g) := by
  obtain ⟨t, rfl⟩ := hB0
  have hn : h0.length ≤ n0 := by rw [← hB]; simp
  have := a.gv hn
  rw [List.append_assoc] at this ⊢
  exact gcV_end this hq
theorem boolsT_len {T : List (List Bool)} : ∀ x ∈ T.map bools, (cellsOf x).length = 1 := fun x hx => by
  obtain ⟨n, _, rfl⟩ := List.mem_map.1 hx; rfl
theorem cl_tab {T : List (List Bool)} : Cl (lit (T.map bools)) := Cl.lit' fun e he x hx => by
  obtain ⟨n, _, rfl⟩ := List.mem_map.1 he
  simp at hx; subst hx; exact cl_bl
/-- A frozen table's row. -/
theorem ix_tab {T : List (List Bool)} {i : Nat} {h : Heap} {K : Value → Prop} (hi : i < T.length) (k : K (bools T[i])) : oW (iaS 1 (lit (T.map bools)) (.int .i64 (i : Int))) fun v => oW (ldW false 1 h v) K :=
  ix_lit hi rfl (by rw [cellsOf_func, ld_plit1, oW_some]; exact k)
theorem marked_setL {n : Nat} {S : Nat → Prop} : marked (setL n S) n = riseL n S := eq_riseL (marked_sorted _ _) fun x => by
  rw [mem_marked]
  constructor
  · rintro ⟨h1, h2⟩; exact ⟨h1, (setL_on.1 h2).2⟩
  · rintro ⟨h1, h2⟩
    refine ⟨h1, setL_on.2 ⟨?_, h2⟩⟩
    unfold inR at h1; omega
end Go.Ax
namespace Go.Ax
open Go Go.Proofs Go.RowKit
theorem cl_rows {l : List (List Int)} : Cl (lit (l.map ints)) := Cl.lit' fun e he x hx => by
  obtain ⟨b, _, rfl⟩ := List.mem_map.1 he
  simp at hx; subst hx; exact cl_il
/-- Rows of ints, each a slice of its own. -/
structure RowsAt (n0 : Nat) (H : Heap) (v : Value) (vals : List Value) (rows : List (List Int)) : Prop where
  acc : Acc 1 n0 H v vals
  len : vals.length = rows.length
  row : ∀ i (p : i < vals.length) (q : i < rows.length), Acc 1 n0 H vals[i] (rows[i].map fun x => .int .i64 x)
  sep : ∀ i (p : i < vals.length) j, lies vals[i] j → ¬ lies v j
theorem acc_cell {sz n : Nat} {H : Heap} {v : Value} {l : List Value} (a : Acc sz n H v l) : okVal v = true ∧ cellsOf v = [v] ∧ okCell v = true := by
  rcases a with ⟨rfl, _⟩ | ⟨q, cap, c, m, _, rfl, _⟩ <;> exact ⟨rfl, rfl, rfl⟩
theorem RowsAt.cells {n0 : Nat} {H : Heap} {v : Value} {vals : List Value} {rows : List (List Int)} (a : RowsAt n0 H v vals rows) : ∀ x ∈ vals, (cellsOf x).length = 1 := fun x hx => by
  obtain ⟨i, hi, rfl⟩ := List.mem_iff_getElem.1 hx
  rw [(acc_cell (a.row i hi (by rw [← a.len]; exact hi))).2.1]; rfl
theorem RowsAt.congr {n0 : Nat} {H H' : Heap} {v : Value} {vals : List Value} {rows : List (List Int)} (a : RowsAt n0 H v vals rows) (e : ∀ j, (lies v j ∨ ∃ x ∈ vals, lies x j) → H'[j]? = H[j]?) : RowsAt n0 H' v vals rows :=
  ⟨a.acc.congr fun j hj => e j (.inl hj), a.len, fun i p q => (a.row i p q).congr fun j hj => e j (.inr ⟨_, List.getElem_mem p, hj⟩), a.sep⟩
/-- One row more. -/
theorem RowsAt.push {n0 : Nat} {B g : Heap} {v : Value} {vals : List Value} {rows : List (List Int)} (hB : B.length = n0) (a : RowsAt n0 (B ++ g) v vals rows) {x : Value} {r : List Int} (ax : Acc 1 n0 (B ++ g) x (r.map fun x => .int .i64 x)) (hx : ∀ j, lies x j → ¬ lies v j) (hb : rows.length ≤ 1000000) {K : Value → Heap → Prop}
    (k : ∀ v' g', RowsAt n0 (B ++ g') v' (vals ++ [x]) (rows ++ [r]) → K v' (B ++ g')) : hW (bslW (B ++ g) 1 [(.slice none 0 0)] [(0, 1, x)]) fun v1 h1 => hW (apW 1 24 h1 v v1) K := by
  have hl := a.len
  obtain ⟨c1, c2, c3⟩ := acc_cell ax
  refine Acc.push hB a.acc (by omega) a.cells (e := x) (by rw [c2]; rfl) c1 (by rw [c2]; simp [c3]) rfl (by omega) (by omega) fun v' g' a2 q1 q2 q3 => k v' g' ?_
  have keep : ∀ {y : Value} {l : List Value}, Acc 1 n0 (B ++ g) y l → (∀ j, lies y j → ¬ lies v j) → Acc 1 n0 (B ++ g') y l := fun ay hy => ay.congr fun j hj => q1 j (ay.lt hj) (hy j hj)
  refine ⟨a2, by simp [hl], fun i p q => ?_, fun i p j hj hv => ?_⟩
  · by_cases hi : i < vals.length
    · rw [List.getElem_append_left hi, List.getElem_append_left (by omega)]
      exact keep (a.row i hi (by omega)) fun j hj => a.sep i hi j hj
    · have hie : i = vals.length := by simp at p; omega
      subst hie
      rw [List.getElem_append_right (by omega), List.getElem_append_right (by omega)]
      simp only [hl, Nat.sub_self, List.getElem_singleton]
      exact keep ax hx
  · by_cases hi : i < vals.length
    · rw [List.getElem_append_left hi] at hj
      rcases q2 j hv with w | w
      · exact a.sep i hi j hj w
      · have := (a.row i hi (by omega)).lt hj
        omega
    · have hie : i = vals.length := by simp at p; omega
      subst hie
      rw [List.getElem_append_right (by omega)] at hj
      simp only [Nat.sub_self, List.getElem_singleton] at hj
      rcases q2 j hv with w | w
      · exact hx j hj w
      · have := ax.lt hj
        omega
/-- Frozen with all else. -/
theorem RowsAt.gv {n0 : Nat} {h0 H : Heap} {v : Value} {vals : List Value} {rows : List (List Int)} (hn : h0.length ≤ n0) (a : RowsAt n0 H v vals rows) : Gv (frOf h0.length []) (rOf h0.length []) H (lit (rows.map ints)) v := by
  have hl := a.len
  have hfr : ∀ j, n0 ≤ j → frOf h0.length [] j := fun j hj => ⟨by omega, by simp⟩
  have hfl : vals.flatMap cellsOf = vals := flat_one fun e he => by
    obtain ⟨i, hi, rfl⟩ := List.mem_iff_getElem.1 he
    exact (acc_cell (a.row i hi (by omega))).2.1
  rcases a.acc with ⟨rfl, e⟩ | ⟨q, cap, cc, m, h1, rfl, h3, h4, h5, h6, h7⟩
  · have : rows = [] := List.eq_nil_of_length_eq_zero (by rw [← hl, e]; rfl)
    subst this
    exact .lit0 _ _
  · rw [hfl] at h7
    simp only [Nat.mul_one] at h7 h5
    have := Gv.frzS (fr := frOf h0.length []) (r := rOf h0.length []) (h := H) (rows.map ints).toArray q 0 1 cap cc m (hfr q h1) (getRow_eq h3) (by omega) (fun k p => by simp) (by simp; omega) fun k j p p2 p3 => ?_
    · simpa [hl] using this
    · have hk : k < rows.length := by simpa using p
      have hkm : k < vals.length := by omega
      have hj0 : j = 0 := by simp at p2; exact p2
      subst hj0
      have hc : cc[0 + (k * 1 + 0)] = vals[k] := by
        have h8 := get_take h7 hkm
        rw [List.getElem?_eq_getElem hkm] at h8
        have h9 := List.getElem?_eq_getElem p3
        have e0 : 0 + (k * 1 + 0) = k := by omega
        have h10 : cc[0 + (k * 1 + 0)]? = some vals[k] := by rw [e0]; exact h8
        exact Option.some.inj (h9.symm.trans h10)
      rw [hc]
      have e2 : (cellsOf (rows.map ints).toArray[k])[0]'p2 = ints rows[k] := by simp
      rw [e2]
      have ar := a.row k hkm hk
      exact ar.gv (fun i hi => hfr i (ar.ge hi)) (by omega) int_len int_cl
def mkRowS (bs : List Nat) (n : Nat) (st : Nat × List Int) : Nat × List Int := if st.1 < bs.length then (st.1 + 1, st.2 ++ [((bs[st.1]! % (2 + n) : Nat) : Int)]) else (st.1, st.2 ++ [0])
def mkAt (bs : List Nat) (a : Nat) : Nat := if a < bs.length then a + 1 else a
def mkLong (bs : List Nat) (a : Nat) : Nat := if a < bs.length then bs[a]! % 4 else 1
def mkCnt (bs : List Nat) (a : Nat) : Nat := if a < bs.length then 1 + bs[a]! % 3 else 1
def mkRule (bs : List Nat) (n s : Nat) (st : Nat × List (List Int)) : Nat × List (List Int) :=
  ((itr (mkRowS bs n) (mkLong bs st.1) (mkAt bs st.1, [((2 + s : Nat) : Int)])).1, st.2 ++ [(itr (mkRowS bs n) (mkLong bs st.1) (mkAt bs st.1, [((2 + s : Nat) : Int)])).2])
def mkSym (bs : List Nat) (n : Nat) (st : Nat × List (List Int)) (s : Nat) : Nat × List (List Int) := itr (mkRule bs n s) (mkCnt bs st.1) (mkAt bs st.1, st.2)
def mkN (bs : List Nat) : Nat := mkCnt bs 0
def mkAll (bs : List Nat) : Nat × List (List Int) := (List.range (mkN bs)).foldl (mkSym bs (mkN bs)) (mkAt bs 0, [])
def names5 : List ByteArray := [⟨#[97]⟩, ⟨#[98]⟩, ⟨#[83]⟩, ⟨#[84]⟩, ⟨#[85]⟩]
def mkG (bs : List Nat) : Gr := ⟨names5.take (2 + mkN bs), 2, [0, 1], (mkAll bs).2, 2⟩
theorem mkCnt_le {bs : List Nat} {a : Nat} : 1 ≤ mkCnt bs a ∧ mkCnt bs a ≤ 3 := by unfold mkCnt; split <;> omega
theorem mkLong_le {bs : List Nat} {a : Nat} : mkLong bs a ≤ 3 := by unfold mkLong; split <;> omega
theorem mkRow_ok {bs : List Nat} {n s : Nat} : ∀ {k : Nat} {st : Nat × List Int}, (∃ t, st.2 = ((2 + s : Nat) : Int) :: t ∧ ∀ x ∈ t, inR (2 + n) x) →
    (itr (mkRowS bs n) k st).2.length = st.2.length + k ∧ ∃ t, (itr (mkRowS bs n) k st).2 = ((2 + s : Nat) : Int) :: t ∧ ∀ x ∈ t, inR (2 + n) x
  | 0, st, h => ⟨rfl, h⟩
  | k + 1, st, ⟨t, e, h⟩ => by
    rw [itr]
    have : ∃ t', (mkRowS bs n st).2 = ((2 + s : Nat) : Int) :: t' ∧ ∀ x ∈ t', inR (2 + n) x := by
      unfold mkRowS
      have hm : bs[st.1]! % (2 + n) < 2 + n := Nat.mod_lt _ (by omega)
      split
      · refine ⟨t ++ [_], by simp only [e]; rfl, fun x hx => ?_⟩
        rcases List.mem_append.1 hx with z | z
        · exact h x z
        · simp only [List.mem_singleton] at z; subst z; unfold inR; omega
      · refine ⟨t ++ [_], by simp only [e]; rfl, fun x hx => ?_⟩
        rcases List.mem_append.1 hx with z | z
        · exact h x z
        · simp only [List.mem_singleton] at z; subst z; unfold inR; omega
    obtain ⟨r1, r2⟩ := mkRow_ok (k := k) this
    refine ⟨?_, r2⟩
    rw [r1]
    unfold mkRowS; split <;> simp <;> omega
/-- A rule that is made. -/
def RuleOk (n s : Nat) (r : List Int) : Prop := r.length ≤ 4 ∧ ∃ t, r = ((2 + s : Nat) : Int) :: t ∧ ∀ x ∈ t, inR (2 + n) x
theorem mkRules_ok {bs : List Nat} {n s : Nat} : ∀ {k : Nat} {st : Nat × List (List Int)}, ∃ new, (itr (mkRule bs n s) k st).2 = st.2 ++ new ∧ new.length = k ∧ ∀ r ∈ new, RuleOk n s r
  | 0, st => ⟨[], by simp [itr], rfl, by simp⟩
  | k + 1, st => by
    rw [itr]
    obtain ⟨new, e, hl, h⟩ := mkRules_ok (bs := bs) (n := n) (s := s) (k := k) (st := mkRule bs n s st)
    obtain ⟨r1, r2⟩ := mkRow_ok (bs := bs) (n := n) (s := s) (k := mkLong bs st.1) (st := (mkAt bs st.1, [((2 + s : Nat) : Int)])) ⟨[], rfl, by simp⟩
    refine ⟨(itr (mkRowS bs n) (mkLong bs st.1) (mkAt bs st.1, [((2 + s : Nat) : Int)])).2 :: new, by rw [e]; simp [mkRule], by simp [hl], fun r hr => ?_⟩
    rcases List.mem_cons.1 hr with rfl | hr
    · refine ⟨?_, r2⟩
      rw [r1]
      have := mkLong_le (bs := bs) (a := st.1)
      simp; omega
    · exact h r hr
theorem mkAll_ok {bs : List Nat} {n : Nat} : ∀ {k : Nat} {st : Nat × List (List Int)}, ∃ new, ((List.range k).foldl (mkSym bs n) st).2 = st.2 ++ new ∧ new.length ≤ 3 * k ∧ (∀ r ∈ new, ∃ s, s < k ∧ RuleOk n s r) ∧ ∀ s, s < k → ∃ r ∈ new, r.getD 0 0 = ((2 + s : Nat) : Int)
  | 0, st => ⟨[], by simp, by simp, by simp, by simp⟩
  | k + 1, st => by
    rw [List.range_succ, List.foldl_append]
    obtain ⟨new, e, hl, h, ha⟩ := mkAll_ok (bs := bs) (n := n) (k := k) (st := st)
    generalize hst : (List.range k).foldl (mkSym bs n) st = st1 at e
    obtain ⟨new2, e2, hl2, h2⟩ := mkRules_ok (bs := bs) (n := n) (s := k) (k := mkCnt bs st1.1) (st := (mkAt bs st1.1, st1.2))
    have hc := mkCnt_le (bs := bs) (a := st1.1)
    refine ⟨new ++ new2, ?_, by rw [List.length_append]; omega, fun r hr => ?_, fun s hs => ?_⟩
    · show (mkSym bs n st1 k).2 = _
      unfold mkSym
      rw [e2, e, List.append_assoc]
    · rcases List.mem_append.1 hr with z | z
      · obtain ⟨s, h1, h2⟩ := h r z
        exact ⟨s, by omega, h2⟩
      · exact ⟨k, by omega, h2 r z⟩
    · by_cases hsk : s < k
      · obtain ⟨r, hr, e⟩ := ha s hsk
        exact ⟨r, List.mem_append.2 (.inl hr), e⟩
      · have : s = k := by omega
        subst this
        cases new2 with
        | nil => simp at hl2; omega
        | cons r rest =>
          obtain ⟨_, t, e, _⟩ := h2 r (by simp)
          exact ⟨r, List.mem_append.2 (.inr (by simp)), by rw [e]; rfl⟩
theorem mkG_n {bs : List Nat} : (mkG bs).n = 2 + mkN bs := by
  have := mkCnt_le (bs := bs) (a := 0)
  show (names5.take (2 + mkN bs)).length = _
  unfold mkN
  rw [List.length_take]
  show min _ 5 = _
  omega
theorem mkG_ok {bs : List Nat} : (mkG bs).ok := by
  have hn := mkG_n (bs := bs)
  have hc := mkCnt_le (bs := bs) (a := 0)
  have hN : mkN bs = mkCnt bs 0 := rfl
  obtain ⟨new, e, hl, h, ha⟩ := mkAll_ok (bs := bs) (n := mkN bs) (k := mkN bs) (st := (mkAt bs 0, []))
  have er : (mkG bs).rules = new := by
    show (mkAll bs).2 = _
    unfold mkAll
    rw [e]; rfl
  have hR : ∀ s r, s < mkN bs → RuleOk (mkN bs) s r → (mkG bs).fits r := fun s r hs ⟨h1, t, h2, h3⟩ => by
    refine ⟨by rw [h2]; simp, by omega, ?_, ?_⟩
    · rw [h2]
      show (2 : Int) ≤ _ ∧ inR _ _
      rw [hn]
      unfold inR
      simp; omega
    · rw [h2, hn]
      exact h3
  refine ⟨(by show (0 : Int) ≤ 2; decide), ?_, rfl, by omega, ?_, by rw [er]; omega, ⟨(by show (2 : Int) ≤ 2; decide), ?_⟩, fun r hr => ?_, fun s h1 h2 => ?_⟩
  · show (2 : Int) ≤ _
    rw [hn]; omega
  · obtain ⟨r, hr, _⟩ := ha 0 (by omega)
    rw [er]
    exact List.length_pos_of_mem hr
  · show inR _ 2
    rw [hn]; unfold inR; omega
  · rw [er] at hr
    obtain ⟨s, h1, h2⟩ := h r hr
    exact hR s r h1 h2
  · have h1' : (2 : Int) ≤ s := h1
    rw [hn] at h2
    obtain ⟨r, hr, e⟩ := ha (s - 2) (by omega)
    rw [er]
    exact ⟨r, hr, by rw [e]; omega⟩
theorem ixZ_str {s : ByteArray} {i : Nat} (h : i < s.size) {K : Value → Prop} (k : K (byte (bytesN s)[i]!)) : oW (ixS (.string s) (.int .i64 (i : Int))) K := by
  have hsz : i < s.data.toList.length := h
  refine ⟨_, ?_, k⟩
  simp only [ixS]
  rw [if_pos (by omega)]
  have e1 : s[(i : Int).toNat]? = some s.data.toList[i] := by
    simp only [Int.toNat_natCast]
    rw [getElem?_pos s i h]; rfl
  rw [e1]
  rw [getElem!_pos (bytesN s) i (by simp [bytesN]; exact h)]
  simp [bytesN]
theorem byteZ_lt {s : ByteArray} {i : Nat} (h : i < s.size) : (bytesN s)[i]! < 256 := by
  have hsz : i < s.data.toList.length := h
  have e : (bytesN s)[i]! = s.data.toList[i].toNat := by
    rw [getElem!_pos (bytesN s) i (by simp [bytesN]; exact h)]
    simp [bytesN]
  rw [e]; exact UInt8.toNat_lt _
theorem bytesZ_len {s : ByteArray} : (bytesN s).length = s.size := by simp [bytesN]
theorem cvb {x : Nat} (hx : x < 256) : cvI .i64 (byte x) = some (.int .i64 (x : Int)) := by
  simp only [cvI]; rw [wrap_i64 (by omega)]
theorem remN {x y : Nat} (hy : y ≠ 0) : binN .rem (.int .i64 (x : Int)) (.int .i64 (y : Int)) = some (.int .i64 ((x % y : Nat) : Int)) := by
  have e : (x : Int).tmod (y : Int) = ((x % y : Nat) : Int) := by rw [Int.tmod_eq_emod_of_nonneg (by omega)]; simp
  rw [n_rem (by omega), e]
abbrev zg : AObj := .row [(.slice none 0 0), (.int .i64 0), (.slice none 0 0), (.slice none 0 0), (.int .i64 0)] .exact
abbrev mkB (h : Heap) (n : Nat) (rv : Value) : Heap := h ++ [zg, .row [.int .i64 0, .int .i64 1] .exact, .row (names5.map .string) .exact, .row [.slice (some ⟨h.length + 2, 0, none⟩) (2 + n) 5, .int .i64 2, .slice (some ⟨h.length + 1, 0, none⟩) 2 2, rv, .int .i64 2] .exact]
theorem mkB_len {h : Heap} {n : Nat} {rv : Value} : (mkB h n rv).length = h.length + 4 := by simp
theorem mkB_row {h : Heap} {n : Nat} {rv : Value} {T : Heap} : getRow (mkB h n rv ++ T) (h.length + 3) = some ([.slice (some ⟨h.length + 2, 0, none⟩) (2 + n) 5, .int .i64 2, .slice (some ⟨h.length + 1, 0, none⟩) 2 2, rv, .int .i64 2], .exact) := by rw [List.append_assoc, row_app]; rfl
theorem mkB_tail {h : Heap} {n : Nat} {rv : Value} {T : Heap} {q : Nat} (hq : h.length + 4 ≤ q) : (mkB h n rv ++ T)[q]? = T[q - (h.length + 4)]? := by
  rw [List.getElem?_append_right (by rw [mkB_len]; exact hq), mkB_len]
theorem mkRowS_inv {s : ByteArray} {n : Nat} {st : Nat × List Int} (h : st.1 ≤ s.size) : (mkRowS (bytesN s) n st).1 ≤ s.size ∧ (mkRowS (bytesN s) n st).2.length = st.2.length + 1 := by
  have blen : (bytesN s).length = s.size := bytesZ_len
  unfold mkRowS
  split
  · rename_i q; rw [blen] at q; exact ⟨q, by simp⟩
  · exact ⟨h, by simp⟩
theorem mkAt_le {s : ByteArray} {a : Nat} (h : a ≤ s.size) : mkAt (bytesN s) a ≤ s.size := by
  have blen : (bytesN s).length = s.size := bytesZ_len
  unfold mkAt
  split
  · rename_i q; rw [blen] at q; exact q
  · exact h
/-- The row of a rule: as the words have it. -/
def RowBlk (I49 : Nat → List Value → Heap → Prop) (k52 : Nat) (x53 x54 v71 x56 x57 x58 x59 x60 v64 v70 : Value) (h65 h : Heap) (Q : Value → Heap → Prop) : Prop :=
(∃ (I72 : Nat → List Value → Heap → Prop) (k73 : Nat), gcL h (I72 k73) [x53, x54, v71, x56, x57, x58, x59, x60, v64, v70, (.int .i64 0)] h65 ∧
∀ k75 : Nat, ∀ x76 : Value, ∀ x77 : Value, ∀ x78 : Value, ∀ x79 : Value, ∀ x80 : Value, ∀ x81 : Value, ∀ x82 : Value, ∀ x83 : Value, ∀ x84 : Value, ∀ x85 : Value, ∀ x86 : Value, ∀ h87, I72 k75 [x76, x77, x78, x79, x80, x81, x82, x83, x84, x85, x86] h87 →
(oW (binN .lss x86 x85) fun v88 =>
(bW v88
(oW (lenStr x76) fun v89 =>
(oW (binN .lss x78 v89) fun v90 =>
(bW v90
(oW (ixS x76 x78) fun v91 =>
(oW (cvI .i64 v91) fun v92 =>
(oW (binN .add (.int .i64 2) x80) fun v93 =>
(oW (binN .rem v92 v93) fun v94 =>
(oW (binN .add x78 (.int .i64 1)) fun v95 =>
(hW (bslW h87 1 [(.int .i64 0)] [(0, 1, v94)]) fun v96 h97 =>
(hW (apW 1 8 h97 x84 v96) fun v98 h99 =>
(oW (binN .add x86 (.int .i64 1)) fun v100 =>
(∃ m74, m74 < k75 ∧ gcL h (I72 m74) [x76, x77, v95, x79, x80, x81, x82, x83, v98, x85, v100] h99)))))))))
(hW (bslW h87 1 [(.int .i64 0)] [(0, 1, (.int .i64 0))]) fun v101 h102 =>
(hW (apW 1 8 h102 x84 v101) fun v103 h104 =>
(oW (binN .add x86 (.int .i64 1)) fun v105 =>
(∃ m74, m74 < k75 ∧ gcL h (I72 m74) [x76, x77, x78, x79, x80, x81, x82, x83, v103, x85, v105] h104)))))))
(oW (faW 3 1 x79) fun v106 =>
(oW (ldW false 1 h87 v106) fun v107 =>
(hW (bslW h87 1 [(.slice none 0 0)] [(0, 1, x84)]) fun v108 h109 =>
(hW (apW 1 24 h109 v107 v108) fun v110 h111 =>
(oW (faW 3 1 x79) fun v112 =>
(sW (stW 1 h111 v112 v110) fun h113 =>
(oW (binN .add x83 (.int .i64 1)) fun v114 =>
(∃ m51, m51 < k52 ∧ gcL h (I49 m51) [x76, x77, x78, x79, x80, x81, x82, v114] h113)))))))))))
def MkR (h : Heap) (s : ByteArray) (n : Nat) (st0 : Nat × List Int) (rules : List (List Int)) (y c i long : Nat) (k : Nat) (vs : List Value) (H : Heap) : Prop :=
  ∃ (j : Nat) (rv x : Value) (T : Heap) (vals : List Value), vs = [.string s, .pointer (some ⟨h.length, 0, none⟩), .int .i64 ((itr (mkRowS (bytesN s) n) j st0).1 : Int), .pointer (some ⟨h.length + 3, 0, none⟩), .int .i64 (n : Int), .int .i64 (y : Int), .int .i64 (c : Int), .int .i64 (i : Int), x, .int .i64 (long : Int), .int .i64 (j : Int)] ∧
    H = mkB h n rv ++ T ∧ RowsAt (h.length + 4) H rv vals rules ∧ Acc 1 (h.length + 4) H x ((itr (mkRowS (bytesN s) n) j st0).2.map fun x => .int .i64 x) ∧ (∀ q, lies x q → ¬ lies rv q ∧ ∀ v ∈ vals, ¬ lies v q) ∧ k = long - j ∧ j ≤ long
theorem rowBlk_spec {I49 : Nat → List Value → Heap → Prop} {k52 : Nat} {h : Heap} {s : ByteArray} (hs : s.size ≤ 1000) {n : Nat} (hn : n ≤ 3) {a0 : Nat} (ha0 : a0 ≤ s.size) {r0 : List Int} (hr0 : r0.length = 1) {rules : List (List Int)} (hru : rules.length ≤ 100) {y c i long : Nat} (hlong : long ≤ 3) (hi : i ≤ 100) {rv x : Value} {T : Heap} {vals : List Value}
    (ra : RowsAt (h.length + 4) (mkB h n rv ++ T) rv vals rules) (ax : Acc 1 (h.length + 4) (mkB h n rv ++ T) x (r0.map fun x => .int .i64 x)) (sep : ∀ q, lies x q → ¬ lies rv q ∧ ∀ v ∈ vals, ¬ lies v q) {Q : Value → Heap → Prop}
    (fin : ∀ rv' T' vals', RowsAt (h.length + 4) (mkB h n rv' ++ T') rv' vals' (rules ++ [(itr (mkRowS (bytesN s) n) long (a0, r0)).2]) →
      ∃ m51, m51 < k52 ∧ gcL h (I49 m51) [.string s, .pointer (some ⟨h.length, 0, none⟩), .int .i64 ((itr (mkRowS (bytesN s) n) long (a0, r0)).1 : Int), .pointer (some ⟨h.length + 3, 0, none⟩), .int .i64 (n : Int), .int .i64 (y : Int), .int .i64 (c : Int), .int .i64 ((i + 1 : Nat) : Int)] (mkB h n rv' ++ T')) :
    RowBlk I49 k52 (.string s) (.pointer (some ⟨h.length, 0, none⟩)) (.int .i64 (a0 : Int)) (.pointer (some ⟨h.length + 3, 0, none⟩)) (.int .i64 (n : Int)) (.int .i64 (y : Int)) (.int .i64 (c : Int)) (.int .i64 (i : Int)) x (.int .i64 (long : Int)) (mkB h n rv ++ T) h Q := by
  have blen : (bytesN s).length = s.size := bytesZ_len
  unfold RowBlk
  refine ⟨MkR h s n (a0, r0) rules y c i long, long, gcL_same ⟨0, rv, x, T, vals, rfl, rfl, ra, ax, sep, by omega, by omega⟩, ?_⟩
  clear ra ax sep
  rintro k x76 x77 x78 x79 x80 x81 x82 x83 x84 x85 x86 H ⟨j, rv, x, T, vals, hv, rfl, ra, ax, sep, hk, hj⟩
  simp only [List.cons.injEq, and_true] at hv
  obtain ⟨rfl, rfl, rfl, rfl, rfl, rfl, rfl, rfl, rfl, rfl, rfl⟩ := hv
  have hB := mkB_len (h := h) (n := n) (rv := rv)
  have inv : ∀ j, (itr (mkRowS (bytesN s) n) j (a0, r0)).1 ≤ s.size ∧ (itr (mkRowS (bytesN s) n) j (a0, r0)).2.length = 1 + j := fun j => by
    induction j with
    | zero => exact ⟨ha0, hr0⟩
    | succ j ih =>
      rw [itr_succ]
      have := mkRowS_inv (n := n) ih.1
      exact ⟨this.1, by omega⟩
  have hsucc := itr_succ (f := mkRowS (bytesN s) n) (k := j) (x := (a0, r0))
  have hj1 := inv j
  generalize hst : itr (mkRowS (bytesN s) n) j (a0, r0) = st at hsucc hj1 ax ⊢
  obtain ⟨a, r⟩ := st
  simp only at hj1 ax
  rw [n_lss, oW_some, bW_dec]
  constructor
  · intro hlt
    have hlt' : j < long := by omega
    have more : ∀ (e : Int) (a' : Nat), mkRowS (bytesN s) n (a, r) = (a', r ++ [e]) → hW (bslW (mkB h n rv ++ T) 1 [(.int .i64 0)] [(0, 1, .int .i64 e)]) fun v96 h97 => hW (apW 1 8 h97 x84 v96) fun v98 h99 => oW (binN .add (.int .i64 (j : Int)) (.int .i64 1)) fun v100 =>
        ∃ m74, m74 < k ∧ gcL h (MkR h s n (a0, r0) rules y c i long m74) [.string s, .pointer (some ⟨h.length, 0, none⟩), .int .i64 (a' : Int), .pointer (some ⟨h.length + 3, 0, none⟩), .int .i64 (n : Int), .int .i64 (y : Int), .int .i64 (c : Int), .int .i64 (i : Int), v98, .int .i64 (long : Int), v100] h99 := fun e a' he => by
      refine Acc.push hB ax (by omega) int_len (e := .int .i64 e) rfl rfl rfl rfl (by simp; omega) (by simp; omega) fun v' g' a2 q1 q2 q3 => ?_
      rw [n_add (by omega), oW_some]
      refine ⟨long - (j + 1), by omega, gcL_same ⟨j + 1, rv, v', g', vals, by rw [hsucc, he]; simp, rfl, ?_, by rw [hsucc, he]; simpa using a2, fun q hq => ?_, rfl, by omega⟩⟩
      · refine ra.congr fun q hq => ?_
        rcases hq with hq | ⟨w, hw, hq⟩
        · exact q1 q (ra.acc.lt hq) fun z => (sep q z).1 hq
        · obtain ⟨p, hp, rfl⟩ := List.mem_iff_getElem.1 hw
          exact q1 q ((ra.row p hp (by rw [← ra.len]; exact hp)).lt hq) fun z => (sep q z).2 _ hw hq
      · rcases q2 q hq with z | z
        · exact sep q z
        · refine ⟨fun w => by have := ra.acc.lt w; omega, fun v hv w => ?_⟩
          obtain ⟨p, hp, rfl⟩ := List.mem_iff_getElem.1 hv
          have := (ra.row p hp (by rw [← ra.len]; exact hp)).lt w
          omega
    rw [lenStr_str, oW_some, n_lss, oW_some, bW_dec]
    constructor
    · intro hla
      have hla' : a < s.size := by omega
      have hb := byteZ_lt hla'
      refine ixZ_str hla' ?_
      generalize hbe : (bytesN s)[a]! = b at *
      rw [cvb hb, oW_some, n_add (by omega), oW_some, show ((2 : Int) + (n : Int)) = ((2 + n : Nat) : Int) by omega, remN (by omega), oW_some, n_add (by omega), oW_some]
      refine more _ (a + 1) ?_
      unfold mkRowS
      rw [if_pos (by rw [blen]; exact hla'), hbe]
    · intro hla
      refine more 0 a ?_
      unfold mkRowS
      rw [if_neg (by rw [blen]; omega)]
  · intro hge
    have hjl : j = long := by omega
    subst hjl
    rw [hst] at fin
    rw [fa_ptr, oW_some, ldW_one, mkB_row]
    show oW (some rv) _
    rw [oW_some]
    refine ra.push hB ax (fun q hq => (sep q hq).1) (by omega) fun v' g' ra2 => ?_
    obtain ⟨c1, c2, c3⟩ := acc_cell ra2.acc
    rw [oW_some, st1 mkB_row (by simp) c1 c2 c3 (by simp), sW_some, n_add (by omega), oW_some, show ((i : Int) + 1) = ((i + 1 : Nat) : Int) by omega]
    have eset : (mkB h n rv ++ g').set (h.length + 3) (.row ([.slice (some ⟨h.length + 2, 0, none⟩) (2 + n) 5, .int .i64 2, .slice (some ⟨h.length + 1, 0, none⟩) 2 2, rv, .int .i64 2].set (0 + 3) v') .exact) = mkB h n v' ++ g' := by
      rw [List.append_assoc, set_app]; simp
    rw [eset]
    refine fin v' g' (vals ++ [x84]) (ra2.congr fun q hq => ?_)
    have hq4 : h.length + 4 ≤ q := by
      rcases hq with z | ⟨w, hw, z⟩
      · exact ra2.acc.ge z
      · obtain ⟨p, hp, rfl⟩ := List.mem_iff_getElem.1 hw
        exact (ra2.row p hp (by rw [← ra2.len]; exact hp)).ge z
    rw [mkB_tail hq4, mkB_tail hq4]
/-- The rules of a symbol: as the words have it. -/
def RuleBlk (I30 : Nat → List Value → Heap → Prop) (k33 : Nat) (x34 x35 v48 x37 x38 x39 v47 : Value) (h40 h : Heap) (Q : Value → Heap → Prop) : Prop :=
(∃ (I49 : Nat → List Value → Heap → Prop) (k50 : Nat), gcL h (I49 k50) [x34, x35, v48, x37, x38, x39, v47, (.int .i64 0)] h40 ∧
∀ k52 : Nat, ∀ x53 : Value, ∀ x54 : Value, ∀ x55 : Value, ∀ x56 : Value, ∀ x57 : Value, ∀ x58 : Value, ∀ x59 : Value, ∀ x60 : Value, ∀ h61, I49 k52 [x53, x54, x55, x56, x57, x58, x59, x60] h61 →
(oW (binN .lss x60 x59) fun v62 =>
(bW v62
(oW (binN .add (.int .i64 2) x58) fun v63 =>
(hW (bslW h61 1 [(.int .i64 0)] [(0, 1, v63)]) fun v64 h65 =>
(oW (lenStr x53) fun v66 =>
(oW (binN .lss x55 v66) fun v67 =>
(bW v67
(oW (ixS x53 x55) fun v68 =>
(oW (cvI .i64 v68) fun v69 =>
(oW (binN .rem v69 (.int .i64 4)) fun v70 =>
(oW (binN .add x55 (.int .i64 1)) fun v71 =>
(∃ (I72 : Nat → List Value → Heap → Prop) (k73 : Nat), gcL h (I72 k73) [x53, x54, v71, x56, x57, x58, x59, x60, v64, v70, (.int .i64 0)] h65 ∧
∀ k75 : Nat, ∀ x76 : Value, ∀ x77 : Value, ∀ x78 : Value, ∀ x79 : Value, ∀ x80 : Value, ∀ x81 : Value, ∀ x82 : Value, ∀ x83 : Value, ∀ x84 : Value, ∀ x85 : Value, ∀ x86 : Value, ∀ h87, I72 k75 [x76, x77, x78, x79, x80, x81, x82, x83, x84, x85, x86] h87 →
(oW (binN .lss x86 x85) fun v88 =>
(bW v88
(oW (lenStr x76) fun v89 =>
(oW (binN .lss x78 v89) fun v90 =>
(bW v90
(oW (ixS x76 x78) fun v91 =>
(oW (cvI .i64 v91) fun v92 =>
(oW (binN .add (.int .i64 2) x80) fun v93 =>
(oW (binN .rem v92 v93) fun v94 =>
(oW (binN .add x78 (.int .i64 1)) fun v95 =>
(hW (bslW h87 1 [(.int .i64 0)] [(0, 1, v94)]) fun v96 h97 =>
(hW (apW 1 8 h97 x84 v96) fun v98 h99 =>
(oW (binN .add x86 (.int .i64 1)) fun v100 =>
(∃ m74, m74 < k75 ∧ gcL h (I72 m74) [x76, x77, v95, x79, x80, x81, x82, x83, v98, x85, v100] h99)))))))))
(hW (bslW h87 1 [(.int .i64 0)] [(0, 1, (.int .i64 0))]) fun v101 h102 =>
(hW (apW 1 8 h102 x84 v101) fun v103 h104 =>
(oW (binN .add x86 (.int .i64 1)) fun v105 =>
(∃ m74, m74 < k75 ∧ gcL h (I72 m74) [x76, x77, x78, x79, x80, x81, x82, x83, v103, x85, v105] h104)))))))
(oW (faW 3 1 x79) fun v106 =>
(oW (ldW false 1 h87 v106) fun v107 =>
(hW (bslW h87 1 [(.slice none 0 0)] [(0, 1, x84)]) fun v108 h109 =>
(hW (apW 1 24 h109 v107 v108) fun v110 h111 =>
(oW (faW 3 1 x79) fun v112 =>
(sW (stW 1 h111 v112 v110) fun h113 =>
(oW (binN .add x83 (.int .i64 1)) fun v114 =>
(∃ m51, m51 < k52 ∧ gcL h (I49 m51) [x76, x77, x78, x79, x80, x81, x82, v114] h113)))))))))))))))
(∃ (I115 : Nat → List Value → Heap → Prop) (k116 : Nat), gcL h (I115 k116) [x53, x54, x55, x56, x57, x58, x59, x60, v64, (.int .i64 1), (.int .i64 0)] h65 ∧
∀ k118 : Nat, ∀ x119 : Value, ∀ x120 : Value, ∀ x121 : Value, ∀ x122 : Value, ∀ x123 : Value, ∀ x124 : Value, ∀ x125 : Value, ∀ x126 : Value, ∀ x127 : Value, ∀ x128 : Value, ∀ x129 : Value, ∀ h130, I115 k118 [x119, x120, x121, x122, x123, x124, x125, x126, x127, x128, x129] h130 →
(oW (binN .lss x129 x128) fun v131 =>
(bW v131
(oW (lenStr x119) fun v132 =>
(oW (binN .lss x121 v132) fun v133 =>
(bW v133
(oW (ixS x119 x121) fun v134 =>
(oW (cvI .i64 v134) fun v135 =>
(oW (binN .add (.int .i64 2) x123) fun v136 =>
(oW (binN .rem v135 v136) fun v137 =>
(oW (binN .add x121 (.int .i64 1)) fun v138 =>
(hW (bslW h130 1 [(.int .i64 0)] [(0, 1, v137)]) fun v139 h140 =>
(hW (apW 1 8 h140 x127 v139) fun v141 h142 =>
(oW (binN .add x129 (.int .i64 1)) fun v143 =>
(∃ m117, m117 < k118 ∧ gcL h (I115 m117) [x119, x120, v138, x122, x123, x124, x125, x126, v141, x128, v143] h142)))))))))
(hW (bslW h130 1 [(.int .i64 0)] [(0, 1, (.int .i64 0))]) fun v144 h145 =>
(hW (apW 1 8 h145 x127 v144) fun v146 h147 =>
(oW (binN .add x129 (.int .i64 1)) fun v148 =>
(∃ m117, m117 < k118 ∧ gcL h (I115 m117) [x119, x120, x121, x122, x123, x124, x125, x126, v146, x128, v148] h147)))))))
(oW (faW 3 1 x122) fun v149 =>
(oW (ldW false 1 h130 v149) fun v150 =>
(hW (bslW h130 1 [(.slice none 0 0)] [(0, 1, x127)]) fun v151 h152 =>
(hW (apW 1 24 h152 v150 v151) fun v153 h154 =>
(oW (faW 3 1 x122) fun v155 =>
(sW (stW 1 h154 v155 v153) fun h156 =>
(oW (binN .add x126 (.int .i64 1)) fun v157 =>
(∃ m51, m51 < k52 ∧ gcL h (I49 m51) [x119, x120, x121, x122, x123, x124, x125, v157] h156))))))))))))))))
(oW (binN .add x58 (.int .i64 1)) fun v158 =>
(∃ m32, m32 < k33 ∧ gcL h (I30 m32) [x53, x54, x55, x56, x57, v158] h61)))))
def MkU (h : Heap) (s : ByteArray) (n y : Nat) (st0 : Nat × List (List Int)) (c : Nat) (k : Nat) (vs : List Value) (H : Heap) : Prop :=
  ∃ (i : Nat) (rv : Value) (T : Heap) (vals : List Value), vs = [.string s, .pointer (some ⟨h.length, 0, none⟩), .int .i64 ((itr (mkRule (bytesN s) n y) i st0).1 : Int), .pointer (some ⟨h.length + 3, 0, none⟩), .int .i64 (n : Int), .int .i64 (y : Int), .int .i64 (c : Int), .int .i64 (i : Int)] ∧
    H = mkB h n rv ++ T ∧ RowsAt (h.length + 4) H rv vals (itr (mkRule (bytesN s) n y) i st0).2 ∧ k = c - i ∧ i ≤ c
theorem ruleBlk_spec {I30 : Nat → List Value → Heap → Prop} {k33 : Nat} {h : Heap} {s : ByteArray} (hs : s.size ≤ 1000) {n : Nat} (hn : n ≤ 3) {a0 : Nat} (ha0 : a0 ≤ s.size) {rules : List (List Int)} (hru : rules.length ≤ 50) {y c : Nat} (hy : y ≤ 3) (hc : c ≤ 3) {rv : Value} {T : Heap} {vals : List Value}
    (ra : RowsAt (h.length + 4) (mkB h n rv ++ T) rv vals rules) {Q : Value → Heap → Prop}
    (fin : ∀ rv' T' vals', RowsAt (h.length + 4) (mkB h n rv' ++ T') rv' vals' (itr (mkRule (bytesN s) n y) c (a0, rules)).2 → (itr (mkRule (bytesN s) n y) c (a0, rules)).1 ≤ s.size →
      ∃ m32, m32 < k33 ∧ gcL h (I30 m32) [.string s, .pointer (some ⟨h.length, 0, none⟩), .int .i64 ((itr (mkRule (bytesN s) n y) c (a0, rules)).1 : Int), .pointer (some ⟨h.length + 3, 0, none⟩), .int .i64 (n : Int), .int .i64 ((y + 1 : Nat) : Int)] (mkB h n rv' ++ T')) :
    RuleBlk I30 k33 (.string s) (.pointer (some ⟨h.length, 0, none⟩)) (.int .i64 (a0 : Int)) (.pointer (some ⟨h.length + 3, 0, none⟩)) (.int .i64 (n : Int)) (.int .i64 (y : Int)) (.int .i64 (c : Int)) (mkB h n rv ++ T) h Q := by
  have blen : (bytesN s).length = s.size := bytesZ_len
  have inv1 : ∀ (k : Nat) (st : Nat × List Int), st.1 ≤ s.size → (itr (mkRowS (bytesN s) n) k st).1 ≤ s.size := fun k => by
    induction k with
    | zero => exact fun st h => h
    | succ k ih =>
      intro st h
      rw [itr]
      exact ih _ (mkRowS_inv h).1
  have inv : ∀ i, (itr (mkRule (bytesN s) n y) i (a0, rules)).1 ≤ s.size ∧ (itr (mkRule (bytesN s) n y) i (a0, rules)).2.length = rules.length + i := fun i => by
    induction i with
    | zero => exact ⟨ha0, rfl⟩
    | succ i ih =>
      rw [itr_succ]
      refine ⟨inv1 _ _ (mkAt_le ih.1), ?_⟩
      show (_ ++ [_]).length = _
      simp only [List.length_append, List.length_singleton]; omega
  unfold RuleBlk
  refine ⟨MkU h s n y (a0, rules) c, c, gcL_same ⟨0, rv, T, vals, rfl, rfl, ra, by omega, by omega⟩, ?_⟩
  clear ra
  rintro k x53 x54 x55 x56 x57 x58 x59 x60 H ⟨i, rv, T, vals, hv, rfl, ra, hk, hi⟩
  simp only [List.cons.injEq, and_true] at hv
  obtain ⟨rfl, rfl, rfl, rfl, rfl, rfl, rfl, rfl⟩ := hv
  have hB := mkB_len (h := h) (n := n) (rv := rv)
  have hsucc := itr_succ (f := mkRule (bytesN s) n y) (k := i) (x := (a0, rules))
  have hi1 := inv i
  rw [n_lss, oW_some, bW_dec]
  constructor
  · intro hlt
    generalize itr (mkRule (bytesN s) n y) i (a0, rules) = st at *
    obtain ⟨a, rs⟩ := st
    simp only at hi1 ra
    rw [n_add (by omega), oW_some, show ((2 : Int) + (y : Int)) = ((2 + y : Nat) : Int) by omega]
    refine bsl1 (e := .int .i64 ((2 + y : Nat) : Int)) rfl rfl rfl ?_
    rw [cellsOf_int, List.append_assoc (mkB h n rv)]
    have ra' : RowsAt (h.length + 4) (mkB h n rv ++ (T ++ [AObj.row [.int .i64 ((2 + y : Nat) : Int)] .exact])) rv vals rs := by
      rw [← List.append_assoc]
      refine ra.congr fun q hq => ?_
      have : q < (mkB h n rv ++ T).length := by
        rcases hq with z | ⟨w, hw, z⟩
        · exact ra.acc.lt z
        · obtain ⟨p, hp, rfl⟩ := List.mem_iff_getElem.1 hw
          exact (ra.row p hp (by rw [← ra.len]; exact hp)).lt z
      rw [List.getElem?_append_left this]
    have ax : Acc 1 (h.length + 4) (mkB h n rv ++ (T ++ [AObj.row [.int .i64 ((2 + y : Nat) : Int)] .exact])) (.slice (some ⟨(mkB h n rv ++ T).length, 0, none⟩) 1 1) (([((2 + y : Nat) : Int)] : List Int).map fun x => .int .i64 x) := by
      have := Acc.made (sz := 1) (n := h.length + 4) (H := mkB h n rv ++ T) (l := [Value.int .i64 ((2 + y : Nat) : Int)]) (by simp) (by rw [List.length_append, hB]; omega)
      rw [List.append_assoc] at this
      exact this
    have sep : ∀ q, lies (.slice (some ⟨(mkB h n rv ++ T).length, 0, none⟩) 1 1) q → ¬ lies rv q ∧ ∀ v ∈ vals, ¬ lies v q := fun q hq => by
      have hqe : q = (mkB h n rv ++ T).length := by obtain ⟨_, _, _, e⟩ := hq; cases e; rfl
      subst hqe
      refine ⟨fun w => by have := ra.acc.lt w; omega, fun v hv w => ?_⟩
      obtain ⟨p, hp, rfl⟩ := List.mem_iff_getElem.1 hv
      have := (ra.row p hp (by rw [← ra.len]; exact hp)).lt w
      omega
    have done : ∀ (a1 long : Nat), a1 = mkAt (bytesN s) a → long = mkLong (bytesN s) a → a1 ≤ s.size →
        RowBlk (MkU h s n y (a0, rules) c) k (.string s) (.pointer (some ⟨h.length, 0, none⟩)) (.int .i64 (a1 : Int)) (.pointer (some ⟨h.length + 3, 0, none⟩)) (.int .i64 (n : Int)) (.int .i64 (y : Int)) (.int .i64 (c : Int)) (.int .i64 (i : Int)) (.slice (some ⟨(mkB h n rv ++ T).length, 0, none⟩) 1 1) (.int .i64 (long : Int)) (mkB h n rv ++ (T ++ [AObj.row [.int .i64 ((2 + y : Nat) : Int)] .exact])) h Q := fun a1 long h1 h2 h3 => by
      refine rowBlk_spec hs hn h3 (r0 := [((2 + y : Nat) : Int)]) rfl (by omega) (by rw [h2]; exact mkLong_le) (by omega) ra' ax sep fun rv' T' vals' ra2 => ?_
      subst h1 h2
      refine ⟨c - (i + 1), by omega, gcL_same ⟨i + 1, rv', T', vals', by rw [hsucc]; rfl, rfl, by rw [hsucc]; exact ra2, rfl, by omega⟩⟩
    rw [lenStr_str, oW_some, n_lss, oW_some, bW_dec]
    constructor
    · intro hla
      have hla' : a < s.size := by omega
      have hb := byteZ_lt hla'
      refine ixZ_str hla' ?_
      rw [cvb hb, oW_some, show (4 : Int) = ((4 : Nat) : Int) from rfl, remN (by omega), oW_some, n_add (by omega), oW_some]
      have e := done (a + 1) _ (by unfold mkAt; rw [if_pos (by rw [blen]; exact hla')]) (by unfold mkLong; rw [if_pos (by rw [blen]; exact hla')]) hla'
      rw [show (((a + 1 : Nat)) : Int) = (a : Int) + 1 from by omega] at e
      exact e
    · intro hla
      exact done a 1 (by unfold mkAt; rw [if_neg (by rw [blen]; omega)]) (by unfold mkLong; rw [if_neg (by rw [blen]; omega)]) hi1.1
  · intro hge
    have hic : i = c := by omega
    subst hic
    rw [n_add (by omega), oW_some, show ((y : Int) + 1) = ((y + 1 : Nat) : Int) by omega]
    exact fin rv T vals ra hi1.1
end Go.Ax
namespace Go.Ax
open Go Go.Proofs Go.RowKit
abbrev mkB0 (h : Heap) : Heap := h ++ [zg, .row [.int .i64 0, .int .i64 1] .exact, .row (names5.map .string) .exact, .row [.slice (some ⟨h.length + 2, 0, none⟩) 5 5, .int .i64 2, .slice (some ⟨h.length + 1, 0, none⟩) 2 2, .slice none 0 0, .int .i64 0] .exact]
def MkS (h : Heap) (s : ByteArray) (n : Nat) (k : Nat) (vs : List Value) (H : Heap) : Prop :=
  ∃ (y : Nat) (rv : Value) (T : Heap) (vals : List Value), vs = [.string s, .pointer (some ⟨h.length, 0, none⟩), .int .i64 (((List.range y).foldl (mkSym (bytesN s) n) (mkAt (bytesN s) 0, [])).1 : Int), .pointer (some ⟨h.length + 3, 0, none⟩), .int .i64 (n : Int), .int .i64 (y : Int)] ∧
    H = mkB h n rv ++ T ∧ RowsAt (h.length + 4) H rv vals ((List.range y).foldl (mkSym (bytesN s) n) (mkAt (bytesN s) 0, [])).2 ∧ ((List.range y).foldl (mkSym (bytesN s) n) (mkAt (bytesN s) 0, [])).1 ≤ s.size ∧ k = n - y ∧ y ≤ n
theorem names_take {n : Nat} (hn : n ≤ 3) : ((names5.map Value.string).drop 0).take ((2 + n) * 1) = ((names5.take (2 + n)).map Value.string).flatMap cellsOf := by
  rw [List.drop_zero, Nat.mul_one, ← List.map_take]
  exact (flat_one fun e he => by obtain ⟨b, _, rfl⟩ := List.mem_map.1 he; rfl).symm
theorem mkSym_len {bs : List Nat} {n : Nat} {st : Nat × List (List Int)} {y : Nat} : (mkSym bs n st y).2.length = st.2.length + mkCnt bs st.1 := by
  unfold mkSym
  obtain ⟨new, e, hl, _⟩ := mkRules_ok (bs := bs) (n := n) (s := y) (k := mkCnt bs st.1) (st := (mkAt bs st.1, st.2))
  rw [e, List.length_append, hl]
/-- What Make gives, not yet frozen. -/
abbrev mkV (h : Heap) (y : Nat) (rv : Value) : Value := .agg #[.slice (some ⟨h.length + 2, 0, none⟩) (2 + y) 5, .int .i64 2, .slice (some ⟨h.length + 1, 0, none⟩) 2 2, rv, .int .i64 2]
abbrev mkH (h : Heap) (y : Nat) (rv : Value) (T : Heap) : Heap := h ++ (.row [.slice (some ⟨h.length + 2, 0, none⟩) (2 + y) 5, .int .i64 2, .slice (some ⟨h.length + 1, 0, none⟩) 2 2, rv, .int .i64 2] .exact :: .row [.int .i64 0, .int .i64 1] .exact :: .row (names5.map .string) .exact :: .row [.slice (some ⟨h.length + 2, 0, none⟩) (2 + y) 5, .int .i64 2, .slice (some ⟨h.length + 1, 0, none⟩) 2 2, rv, .int .i64 2] .exact :: T)
theorem make16_raw {s : ByteArray} (hs : s.size ≤ 1000) {h : Heap} {Q : Value → Heap → Prop} (hq : ∀ rv vals T, RowsAt (h.length + 4) (mkH h (mkN (bytesN s)) rv T) rv vals (mkG (bytesN s)).rules → gcV h Q (mkV h (mkN (bytesN s)) rv) (mkH h (mkN (bytesN s)) rv T)) : acall Try.prog F_homographref16_Make [.string s] h Q := by
  have blen : (bytesN s).length = s.size := bytesZ_len
  apply W_homographref16_Make_ok
  unfold W_homographref16_Make
  rw [letH_eq]
  have L1 : (h ++ [zg]).length = h.length + 1 := by simp
  have b1 : bslW (h ++ [zg]) 2 [(.int .i64 0), (.int .i64 0)] [(0, 1, (.int .i64 0)), (1, 1, (.int .i64 1))] = some (.slice (some ⟨h.length + 1, 0, none⟩) 2 2, h ++ [zg, .row [.int .i64 0, .int .i64 1] .exact]) := by
    simp [bslW, okVal, cellsOf]
  rw [b1, hW_some]
  have b2 : bslW (h ++ [zg, .row [.int .i64 0, .int .i64 1] .exact]) 5 [(.string ⟨#[]⟩), (.string ⟨#[]⟩), (.string ⟨#[]⟩), (.string ⟨#[]⟩), (.string ⟨#[]⟩)] [(0, 1, (.string ⟨#[97]⟩)), (1, 1, (.string ⟨#[98]⟩)), (2, 1, (.string ⟨#[83]⟩)), (3, 1, (.string ⟨#[84]⟩)), (4, 1, (.string ⟨#[85]⟩))] =
      some (.slice (some ⟨h.length + 2, 0, none⟩) 5 5, h ++ [zg, .row [.int .i64 0, .int .i64 1] .exact, .row (names5.map .string) .exact]) := by
    simp [bslW, okVal, cellsOf, names5]
  rw [b2, hW_some]
  rw [show bldW [(.slice none 0 0), (.int .i64 0), (.slice none 0 0), (.slice none 0 0), (.int .i64 0)] [(1, 1, (.int .i64 2)), (2, 1, (.slice (some ⟨h.length + 1, 0, none⟩) 2 2)), (0, 1, (.slice (some ⟨h.length + 2, 0, none⟩) 5 5))] =
    some (.agg #[.slice (some ⟨h.length + 2, 0, none⟩) 5 5, .int .i64 2, .slice (some ⟨h.length + 1, 0, none⟩) 2 2, .slice none 0 0, .int .i64 0]) from rfl, oW_some, letH_eq]
  have L3 : (h ++ [zg, AObj.row [.int .i64 0, .int .i64 1] .exact, AObj.row (names5.map .string) .exact]).length = h.length + 3 := by simp
  rw [L3]
  have st5 : stW 5 (h ++ [zg, AObj.row [.int .i64 0, .int .i64 1] .exact, AObj.row (names5.map .string) .exact] ++ [zg]) (.pointer (some ⟨h.length + 3, 0, none⟩)) (.agg #[.slice (some ⟨h.length + 2, 0, none⟩) 5 5, .int .i64 2, .slice (some ⟨h.length + 1, 0, none⟩) 2 2, .slice none 0 0, .int .i64 0]) = some (mkB0 h) := by
    rw [stW_agg, ← L3, row_app0]
    show (some (_, Md.exact)).bind _ = _
    rw [Option.bind_some, if_pos (by simp [okCell]), set_app0]
    simp [mkB0]
  rw [st5, sW_some]
  refine ⟨fun vs H => vs = [.string s, .pointer (some ⟨h.length, 0, none⟩), .int .i64 (mkAt (bytesN s) 0 : Int), .pointer (some ⟨h.length + 3, 0, none⟩), .int .i64 (mkN (bytesN s) : Int)] ∧ H = mkB0 h, ?_, ?_⟩
  · rw [lenStr_str, oW_some, n_gtr, oW_some, bW_dec]
    constructor
    · intro h0
      have h0' : 0 < s.size := by omega
      have hb := byteZ_lt h0'
      refine ixZ_str (i := 0) h0' ?_
      rw [cvb hb, oW_some, show (3 : Int) = ((3 : Nat) : Int) from rfl, remN (by omega), oW_some, n_add (by omega), oW_some]
      refine gcL_same ⟨?_, rfl⟩
      unfold mkN mkAt mkCnt
      rw [blen, if_pos h0', if_pos h0']
      simp
    · intro h0
      refine gcL_same ⟨?_, rfl⟩
      unfold mkN mkAt mkCnt
      rw [blen, if_neg (by omega), if_neg (by omega)]
      simp
  rintro x16 x17 x18 x19 x20 h21 ⟨hv, rfl⟩
  simp only [List.cons.injEq, and_true] at hv
  obtain ⟨rfl, rfl, rfl, rfl, rfl⟩ := hv
  have hnN := mkCnt_le (bs := bytesN s) (a := 0)
  have hN : mkN (bytesN s) = mkCnt (bytesN s) 0 := rfl
  generalize hn : mkN (bytesN s) = n at hN
  have hn3 : n ≤ 3 := by omega
  have r0 : getRow (mkB0 h) (h.length + 3) = some ([.slice (some ⟨h.length + 2, 0, none⟩) 5 5, .int .i64 2, .slice (some ⟨h.length + 1, 0, none⟩) 2 2, .slice none 0 0, .int .i64 0], .exact) := by rw [row_app]; rfl
  have r2 : getRow (mkB0 h) (h.length + 2) = some (names5.map .string, .exact) := by rw [row_app]; rfl
  rw [fa_ptr, oW_some, ldW_one, r0]
  show oW (some (.slice (some ⟨h.length + 2, 0, none⟩) 5 5)) _
  rw [oW_some, n_add (by omega), oW_some, show ((2 : Int) + (n : Int)) = ((2 + n : Nat) : Int) by omega]
  have sl : slS 1 (mkB0 h) (.slice (some ⟨h.length + 2, 0, none⟩) 5 5) none (some (.int .i64 ((2 + n : Nat) : Int))) none = some (.slice (some ⟨h.length + 2, 0, none⟩) (2 + n) 5) := by
    simp only [slS, asNat]
    rw [if_pos (by omega)]
    simp only [Int.toNat_natCast]
    rw [if_pos ⟨by omega, by omega, by omega, by omega, by simp⟩, r2]
    simp [Md.openSize]
  rw [sl, oW_some, oW_some, st1 r0 (by simp) rfl rfl rfl (by simp), sW_some]
  have e1 : (mkB0 h).set (h.length + 3) (.row ([.slice (some ⟨h.length + 2, 0, none⟩) 5 5, .int .i64 2, .slice (some ⟨h.length + 1, 0, none⟩) 2 2, .slice none 0 0, .int .i64 0].set (0 + 0) (.slice (some ⟨h.length + 2, 0, none⟩) (2 + n) 5)) .exact) =
      h ++ [zg, .row [.int .i64 0, .int .i64 1] .exact, .row (names5.map .string) .exact, .row [.slice (some ⟨h.length + 2, 0, none⟩) (2 + n) 5, .int .i64 2, .slice (some ⟨h.length + 1, 0, none⟩) 2 2, .slice none 0 0, .int .i64 0] .exact] := by rw [set_app]; rfl
  rw [e1, fa_ptr, oW_some, st1 (c := [.slice (some ⟨h.length + 2, 0, none⟩) (2 + n) 5, .int .i64 2, .slice (some ⟨h.length + 1, 0, none⟩) 2 2, .slice none 0 0, .int .i64 0]) (m := .exact) (by rw [row_app]; rfl) (by simp) rfl rfl rfl (by simp), sW_some]
  have e2 : (h ++ [zg, .row [.int .i64 0, .int .i64 1] .exact, .row (names5.map .string) .exact, .row [.slice (some ⟨h.length + 2, 0, none⟩) (2 + n) 5, .int .i64 2, .slice (some ⟨h.length + 1, 0, none⟩) 2 2, .slice none 0 0, .int .i64 0] .exact]).set (h.length + 3)
      (.row ([.slice (some ⟨h.length + 2, 0, none⟩) (2 + n) 5, .int .i64 2, .slice (some ⟨h.length + 1, 0, none⟩) 2 2, .slice none 0 0, .int .i64 0].set (0 + 4) (.int .i64 2)) .exact) = mkB h n (.slice none 0 0) ++ [] := by rw [set_app, List.append_nil]; rfl
  rw [e2]
  refine ⟨MkS h s n, n, gcL_same ⟨0, .slice none 0 0, [], [], rfl, rfl, ⟨Acc.nil, rfl, by simp, by simp⟩, mkAt_le (Nat.zero_le _), by omega, by omega⟩, ?_⟩
  rintro k x34 x35 x36 x37 x38 x39 h40 ⟨y, rv, T, vals, hv, rfl, ra, hat, hk, hy⟩
  simp only [List.cons.injEq, and_true] at hv
  obtain ⟨rfl, rfl, rfl, rfl, rfl, rfl⟩ := hv
  have hlen : ((List.range y).foldl (mkSym (bytesN s) n) (mkAt (bytesN s) 0, [])).2.length ≤ 3 * y := by
    obtain ⟨new, e, hl, _⟩ := mkAll_ok (bs := bytesN s) (n := n) (k := y) (st := (mkAt (bytesN s) 0, []))
    rw [e]; simpa using hl
  rw [n_lss, oW_some, bW_dec]
  constructor
  · intro hlt
    have hsucc : (List.range (y + 1)).foldl (mkSym (bytesN s) n) (mkAt (bytesN s) 0, []) = mkSym (bytesN s) n ((List.range y).foldl (mkSym (bytesN s) n) (mkAt (bytesN s) 0, [])) y := by rw [List.range_succ, List.foldl_append]; rfl
    generalize (List.range y).foldl (mkSym (bytesN s) n) (mkAt (bytesN s) 0, []) = st at *
    obtain ⟨a, rs⟩ := st
    simp only at ra hat hlen
    have done : ∀ (a1 c : Nat), a1 = mkAt (bytesN s) a → c = mkCnt (bytesN s) a → RuleBlk (MkS h s n) k (.string s) (.pointer (some ⟨h.length, 0, none⟩)) (.int .i64 (a1 : Int)) (.pointer (some ⟨h.length + 3, 0, none⟩)) (.int .i64 (n : Int)) (.int .i64 (y : Int)) (.int .i64 (c : Int)) (mkB h n rv ++ T) h Q := fun a1 c h1 h2 => by
      have hc := mkCnt_le (bs := bytesN s) (a := a)
      refine ruleBlk_spec hs hn3 (by rw [h1]; exact mkAt_le hat) (by omega) (by omega) (by omega) ra fun rv' T' vals' ra2 ha2 => ?_
      subst h1 h2
      exact ⟨n - (y + 1), by omega, gcL_same ⟨y + 1, rv', T', vals', by rw [hsucc]; rfl, rfl, by rw [hsucc]; exact ra2, by rw [hsucc]; exact ha2, rfl, by omega⟩⟩
    rw [lenStr_str, oW_some, n_lss, oW_some, bW_dec]
    constructor
    · intro hla
      have hla' : a < s.size := by simp only at hla; omega
      have hb := byteZ_lt hla'
      refine ixZ_str hla' ?_
      rw [cvb hb, oW_some, show (3 : Int) = ((3 : Nat) : Int) from rfl, remN (by omega), oW_some, n_add (by omega), oW_some, n_add (by simp only; omega), oW_some]
      have e := done (a + 1) (1 + (bytesN s)[a]! % 3) (by unfold mkAt; rw [if_pos (by rw [blen]; exact hla')]) (by unfold mkCnt; rw [if_pos (by rw [blen]; exact hla')])
      rw [show (((a + 1 : Nat)) : Int) = (a : Int) + 1 from by omega, show (((1 + (bytesN s)[a]! % 3 : Nat)) : Int) = 1 + (((bytesN s)[a]! % 3 : Nat) : Int) from by omega] at e
      exact e
    · intro hla
      have e := done a 1 (by unfold mkAt; rw [if_neg (by rw [blen]; simp only at hla; omega)]) (by unfold mkCnt; rw [if_neg (by rw [blen]; simp only at hla; omega)])
      exact e
  · intro hge
    have hyn : y = n := by omega
    subst hyn
    have hres : ((List.range y).foldl (mkSym (bytesN s) y) (mkAt (bytesN s) 0, [])).2 = (mkG (bytesN s)).rules := by
      show _ = (mkAll (bytesN s)).2
      unfold mkAll
      rw [hn]
    rw [hres] at ra
    have ld : ldW true 5 (mkB h y rv ++ T) (.pointer (some ⟨h.length + 3, 0, none⟩)) = some (.agg #[.slice (some ⟨h.length + 2, 0, none⟩) (2 + y) 5, .int .i64 2, .slice (some ⟨h.length + 1, 0, none⟩) 2 2, rv, .int .i64 2]) := by rw [ldW_agg, mkB_row]; rfl
    obtain ⟨c1, c2, c3⟩ := acc_cell ra.acc
    have hz : getRow (mkB h y rv ++ T) h.length = some ([(.slice none 0 0), (.int .i64 0), (.slice none 0 0), (.slice none 0 0), (.int .i64 0)], .exact) := by rw [List.append_assoc, row_app0]; rfl
    rw [ld, oW_some, stW_agg, hz, Option.bind_some, if_pos (by simp [okCell]; exact c3), sW_some]
    generalize hHf : (mkB h y rv ++ T).set h.length _ = Hf
    have hHf' : Hf = h ++ (.row [.slice (some ⟨h.length + 2, 0, none⟩) (2 + y) 5, .int .i64 2, .slice (some ⟨h.length + 1, 0, none⟩) 2 2, rv, .int .i64 2] .exact :: .row [.int .i64 0, .int .i64 1] .exact :: .row (names5.map .string) .exact :: .row [.slice (some ⟨h.length + 2, 0, none⟩) (2 + y) 5, .int .i64 2, .slice (some ⟨h.length + 1, 0, none⟩) 2 2, rv, .int .i64 2] .exact :: T) := by
      rw [← hHf, List.append_assoc, set_app0]; rfl
    have ra3 : RowsAt (h.length + 4) Hf rv vals (mkG (bytesN s)).rules := ra.congr fun q hq => by
      have hq4 : h.length + 4 ≤ q := by
        rcases hq with z | ⟨w, hw, z⟩
        · exact ra.acc.ge z
        · obtain ⟨p, hp, rfl⟩ := List.mem_iff_getElem.1 hw
          exact (ra.row p hp (by rw [← ra.len]; exact hp)).ge z
      rw [← hHf, List.getElem?_set_ne (by omega)]
    have hr0 : getRow Hf h.length = some ([.slice (some ⟨h.length + 2, 0, none⟩) (2 + y) 5, .int .i64 2, .slice (some ⟨h.length + 1, 0, none⟩) 2 2, rv, .int .i64 2], .exact) := by rw [hHf', row_app0]; rfl
    rw [ldP_agg, hr0]
    show oW (some (.agg #[.slice (some ⟨h.length + 2, 0, none⟩) (2 + y) 5, .int .i64 2, .slice (some ⟨h.length + 1, 0, none⟩) 2 2, rv, .int .i64 2])) _
    rw [oW_some]
    have e := hq rv vals T
    rw [hn] at e
    rw [hHf'] at ra3 ⊢
    exact e ra3
theorem mkH_gv {bs : List Nat} {h T : Heap} {rv : Value} {vals : List Value} (ra3 : RowsAt (h.length + 4) (mkH h (mkN bs) rv T) rv vals (mkG bs).rules) {Q : Value → Heap → Prop} (hq : Q (mkG bs).enc h) : gcV h Q (mkV h (mkN bs) rv) (mkH h (mkN bs) rv T) := by
  have hr1 : (mkH h (mkN bs) rv T)[h.length + 1]? = some (.row [.int .i64 0, .int .i64 1] .exact) := by rw [List.getElem?_append_right (by omega)]; simp
  have hr2 : (mkH h (mkN bs) rv T)[h.length + 2]? = some (.row (names5.map .string) .exact) := by rw [List.getElem?_append_right (by omega)]; simp
  have hn3 : mkN bs ≤ 3 := mkCnt_le (bs := bs) (a := 0) |>.2
  have hg := ra3.gv (h0 := h) (by omega)
  have fr : ∀ j, h.length ≤ j → frOf h.length [] j := fun j hj => ⟨hj, by simp⟩
  have gn : Gv (frOf h.length []) (rOf h.length []) (mkH h (mkN bs) rv T) (lit ((mkG bs).names.map .string)) (.slice (some ⟨h.length + 2, 0, none⟩) (2 + mkN bs) 5) := by
    show Gv _ _ _ (lit ((names5.take (2 + mkN bs)).map .string)) _
    refine Gv.frz (sz := 1) (fr _ (by omega)) hr2 (by omega) (fun e he => by obtain ⟨b, _, rfl⟩ := List.mem_map.1 he; rfl) (names_take hn3) (by simp [names5]; omega) (fun e he x hx => by
      obtain ⟨b, _, rfl⟩ := List.mem_map.1 he
      simp at hx; subst hx; exact .str _)
  have gt : Gv (frOf h.length []) (rOf h.length []) (mkH h (mkN bs) rv T) (ints (mkG bs).tokens) (.slice (some ⟨h.length + 1, 0, none⟩) 2 2) :=
    Gv.frz1 (fr _ (by omega)) hr1 rfl fun e he => by
      obtain ⟨b, _, rfl⟩ := List.mem_map.1 he
      exact ⟨rfl, .int _ _⟩
  refine gcV_end (v2 := (mkG bs).enc) (.agg _ _ rfl fun i p q => ?_) hq
  match i, p with
  | 0, _ => exact gn
  | 1, _ => exact .cl (.int _ _)
  | 2, _ => exact gt
  | 3, _ => exact hg
  | 4, _ => exact .cl (.int _ _)
theorem make16_spec {s : ByteArray} (hs : s.size ≤ 1000) {h : Heap} {Q : Value → Heap → Prop} (hq : Q (mkG (bytesN s)).enc h) : acall Try.prog F_homographref16_Make [.string s] h Q :=
  make16_raw hs fun _ _ _ ra => mkH_gv ra hq
end Go.Ax
namespace Go.Ax
open Go Go.Proofs Go.RowKit
/-- One step or more. -/
inductive Plus (R : Nat → Nat → Prop) : Nat → Nat → Prop
  | one {a b : Nat} (h : R a b) : Plus R a b
  | cons {a b c : Nat} (h : R a b) (t : Plus R b c) : Plus R a c
theorem Plus.trans {R : Nat → Nat → Prop} {a b c : Nat} (h : Plus R a b) (t : Plus R b c) : Plus R a c := by
  induction h with
  | one h => exact .cons h t
  | cons h _ ih => exact .cons h (ih t)
theorem Plus.mono {R S : Nat → Nat → Prop} (hs : ∀ a b, R a b → S a b) {a b : Nat} (h : Plus R a b) : Plus S a b := by
  induction h with
  | one h => exact .one (hs _ _ h)
  | cons h _ ih => exact .cons (hs _ _ h) ih
theorem Plus.least {R S : Nat → Nat → Prop} (h1 : ∀ a b, R a b → S a b) (h2 : ∀ a b c, S a b → S b c → S a c) {a b : Nat} (h : Plus R a b) : S a b := by
  induction h with
  | one h => exact h1 _ _ h
  | cons h _ ih => exact h2 _ _ _ (h1 _ _ h) ih
/-- How many pairs are not in a table. -/
def missT (n : Nat) (T : List (List Bool)) : Nat := (List.range (n * n)).countP fun p => !decide (onT T (p / n) (p % n))
theorem countP_strict {α : Type} {p q : α → Bool} : ∀ {l : List α}, (∀ x ∈ l, p x = true → q x = true) → (∃ x ∈ l, q x = true ∧ p x = false) → l.countP p < l.countP q
  | [], _, ⟨_, h, _⟩ => by cases h
  | a :: l, hs, ⟨x, hx, h1, h2⟩ => by
    rw [List.countP_cons, List.countP_cons]
    have hle : l.countP p ≤ l.countP q := List.countP_mono_left fun y hy => hs y (List.mem_cons_of_mem _ hy)
    rcases List.mem_cons.1 hx with rfl | hx
    · rw [h1, h2]; simp; omega
    · have := countP_strict (p := p) (q := q) (l := l) (fun y hy => hs y (List.mem_cons_of_mem _ hy)) ⟨x, hx, h1, h2⟩
      have ha := hs a (List.mem_cons_self ..)
      cases hp : p a with
      | false => simp; omega
      | true => rw [ha hp]; simp; omega
theorem miss_lt {n : Nat} {T T' : List (List Bool)} {i j : Nat} (hi : i < n) (hj : j < n) (hs : ∀ a b, onT T a b → onT T' a b) (h1 : ¬ onT T i j) (h2 : onT T' i j) : missT n T' < missT n T := by
  unfold missT
  refine countP_strict (fun x _ h => ?_) ⟨i * n + j, ?_, ?_⟩
  · simp only [Bool.not_eq_true', decide_eq_false_iff_not] at h ⊢
    exact fun q => h (hs _ _ q)
  · rw [List.mem_range]
    calc i * n + j < i * n + n := by omega
      _ = (i + 1) * n := by rw [Nat.succ_mul]
      _ ≤ n * n := Nat.mul_le_mul_right _ hi
  · have e1 : (i * n + j) / n = i := by
      rw [Nat.mul_comm, Nat.mul_add_div (by omega), Nat.div_eq_of_lt hj]; rfl
    have e2 : (i * n + j) % n = j := by
      rw [Nat.mul_comm, Nat.mul_add_mod, Nat.mod_eq_of_lt hj]
    rw [e1, e2]
    simp [h1, h2]
theorem miss_le {n : Nat} {T T' : List (List Bool)} (hs : ∀ a b, onT T a b → onT T' a b) : missT n T' ≤ missT n T := by
  unfold missT
  refine List.countP_mono_left fun x _ h => ?_
  simp only [Bool.not_eq_true', decide_eq_false_iff_not] at h ⊢
  exact fun q => h (hs _ _ q)
/-- The table of a relation. -/
noncomputable def tabS (n : Nat) (R : Nat → Nat → Prop) : List (List Bool) := (List.range n).map fun i => setL n (R i)
theorem tabS_len {n : Nat} {R : Nat → Nat → Prop} : (tabS n R).length = n := by simp [tabS]
theorem tabS_row {n : Nat} {R : Nat → Nat → Prop} {i : Nat} (h : i < (tabS n R).length) : (tabS n R)[i] = setL n (R i) := by simp [tabS]
theorem eq_tabS {n : Nat} {R : Nat → Nat → Prop} {T : List (List Bool)} (hl : T.length = n) (hw : ∀ r ∈ T, r.length = n) (h : ∀ i j, i < n → j < n → (onT T i j ↔ R i j)) : T = tabS n R := by
  apply List.ext_getElem (by rw [tabS_len, hl])
  intro i p q
  rw [tabS_row]
  refine eq_setL (hw _ (List.getElem_mem p)) fun j hj => ?_
  rw [← onT_iff p]
  exact h i j (by omega) hj
theorem onT_lt2 {T : List (List Bool)} {c i j : Nat} (hw : ∀ r ∈ T, r.length = c) (h : onT T i j) : i < T.length ∧ j < c := by
  have h1 := onT_lt h
  refine ⟨h1, ?_⟩
  rw [onT_iff h1] at h
  have := on_lt h
  rw [hw _ (List.getElem_mem h1)] at this
  exact this
/-- A step of a kind by a rule: what stands ahead, and behind. -/
def stepR (g : Gr) (p : List Int → List Int → Prop) (i j : Nat) : Prop := ∃ r ∈ g.rules, ∃ a x b, r.drop 1 = a ++ x :: b ∧ p a b ∧ i = lhs r ∧ j = x.toNat
def emptyR (g : Gr) (l : List Int) : Prop := ∀ x ∈ l, onL g.nullL x.toNat
def Gr.alone (g : Gr) : Nat → Nat → Prop := stepR g fun a b => emptyR g a ∧ emptyR g b
def Gr.ahead (g : Gr) (m : Nat) : Nat → Nat → Prop := stepR g fun a _ => m ≤ a.length ∧ emptyR g a
noncomputable def Gr.aloneT (g : Gr) : List (List Bool) := tabS g.n (Plus g.alone)
noncomputable def Gr.cycL (g : Gr) : List Bool := setL g.n fun i => Plus g.alone i i
noncomputable def Gr.leftL (g : Gr) : List Bool := setL g.n fun i => Plus (g.ahead 0) i i
def Gr.hid (g : Gr) (s : Nat) : Prop := ∃ i j, g.ahead 1 i j ∧ (i = s ∨ Plus (g.ahead 0) s i) ∧ (j = s ∨ Plus (g.ahead 0) j s)
noncomputable def Gr.hidL (g : Gr) : List Bool := setL g.n g.hid
theorem stepR_lt {g : Gr} (ok : g.ok) {p : List Int → List Int → Prop} {i j : Nat} (h : stepR g p i j) : i < g.n ∧ j < g.n := by
  obtain ⟨r, hr, a, x, b, e, _, rfl, rfl⟩ := h
  have := (ok.fit r hr).2.2.2 x (by rw [e]; simp)
  unfold inR at this
  exact ⟨lhs_lt ok hr, by omega⟩
end Go.Ax
namespace Go.Ax
open Go Go.Proofs Go.RowKit
theorem TabAt.lenS {c n0 : Nat} {H : Heap} {v : Value} {ms : List Nat} {T : List (List Bool)} (a : TabAt c n0 H v ms T) : Go.Ax.lenS v = some (.int .i64 (T.length : Int)) := by
  have := a.acc.len
  rw [List.length_map, a.len] at this; exact this
theorem lenRow {c j : Nat} : lenS (rowV c j) = some (.int .i64 (c : Int)) := by simp
/-- A table between a relation and what follows from it. -/
structure ClS (c n0 : Nat) (v : Value) (ms : List Nat) (h : Heap) (R : Nat → Nat → Prop) (T : List (List Bool)) (H : Heap) : Prop where
  tab : TabAt c n0 H v ms T
  sq : T.length = c
  low : ∀ j, j < n0 → H[j]? = h[j]?
  len : H.length = h.length
  all : ∀ a b, R a b → onT T a b
  snd : ∀ a b, onT T a b → Plus R a b
/-- Closed, up to a place. -/
def ClB (T : List (List Bool)) (i k j : Nat) : Prop := ∀ i' k' j', (i' < i ∨ i' = i ∧ (k' < k ∨ k' = k ∧ j' < j)) → onT T i' k' → onT T k' j' → onT T i' j'
structure ClW (c n0 : Nat) (v : Value) (ms : List Nat) (h : Heap) (R : Nat → Nat → Prop) (T0 : List (List Bool)) (i k j : Nat) (more : Bool) (T : List (List Bool)) (H : Heap) : Prop where
  st : ClS c n0 v ms h R T H
  up : ∀ a b, onT T0 a b → onT T a b
  yes : more = true → missT c T < missT c T0
  no : more = false → T = T0 ∧ ClB T0 i k j
def ClI1 (c n0 : Nat) (v : Value) (ms : List Nat) (h : Heap) (R : Nat → Nat → Prop) (m : Nat) (vs : List Value) (H : Heap) : Prop :=
  ∃ (T : List (List Bool)) (more : Bool), vs = [v, .bool more] ∧ ClS c n0 v ms h R T H ∧ m = missT c T + (if more then 1 else 0) ∧ (more = false → ClB T c 0 0)
def ClI2 (c n0 : Nat) (v : Value) (ms : List Nat) (h : Heap) (R : Nat → Nat → Prop) (T0 : List (List Bool)) (m : Nat) (vs : List Value) (H : Heap) : Prop :=
  ∃ (T : List (List Bool)) (more : Bool) (i : Nat), vs = [v, .bool more, .int .i64 (c : Int), .int .i64 (i : Int)] ∧ ClW c n0 v ms h R T0 i 0 0 more T H ∧ m = c - i ∧ i ≤ c
def ClI3 (c n0 : Nat) (v : Value) (ms : List Nat) (h : Heap) (R : Nat → Nat → Prop) (T0 : List (List Bool)) (i : Nat) (rv : Value) (m : Nat) (vs : List Value) (H : Heap) : Prop :=
  ∃ (T : List (List Bool)) (more : Bool) (k : Nat), vs = [v, .bool more, .int .i64 (i : Int), .int .i64 (c : Int), .int .i64 (i : Int), rv, .int .i64 (c : Int), .int .i64 (k : Int)] ∧ ClW c n0 v ms h R T0 i k 0 more T H ∧ m = c - k ∧ k ≤ c
def ClI4 (c n0 : Nat) (v : Value) (ms : List Nat) (h : Heap) (R : Nat → Nat → Prop) (T0 : List (List Bool)) (i : Nat) (rv : Value) (k : Nat) (is : Bool) (m : Nat) (vs : List Value) (H : Heap) : Prop :=
  ∃ (T : List (List Bool)) (more : Bool) (j : Nat), vs = [v, .bool more, .int .i64 (i : Int), .int .i64 (k : Int), .bool is, .int .i64 (c : Int), .int .i64 (i : Int), rv, .int .i64 (c : Int), .int .i64 (k : Int), .int .i64 (c : Int), .int .i64 (j : Int)] ∧ ClW c n0 v ms h R T0 i k j more T H ∧
    (is = true → onT T i k) ∧ (more = false → is = decide (onT T0 i k)) ∧ m = c - j ∧ j ≤ c
theorem closeT_spec {c n0 : Nat} {h : Heap} {v : Value} {ms : List Nat} {T : List (List Bool)} (ta : TabAt c n0 h v ms T) (sq : T.length = c) (hc : c ≤ 1000000) {Q : Value → Heap → Prop}
    (hq : ∀ H' T', TabAt c n0 H' v ms T' → T'.length = c → (∀ i j, onT T' i j ↔ Plus (onT T) i j) → (∀ j, j < n0 → H'[j]? = h[j]?) → H'.length = h.length → Q v H') :
    acall Try.prog F_cycles_table_bool_close [v] h Q := by
  apply W_cycles_table_bool_close_ok
  unfold W_cycles_table_bool_close
  refine ⟨ClI1 c n0 v ms h (onT T), missT c T + 1, gcL_same ⟨T, true, rfl, ⟨ta, sq, fun _ _ => rfl, rfl, fun _ _ q => q, fun _ _ q => .one q⟩, rfl, (fun q => by cases q)⟩, ?_⟩
  generalize hR : onT T = R at hq
  clear hR ta sq
  rintro k4 x5 x6 h7 ⟨T0, more, hv, st, hk, hno⟩
  simp only [List.cons.injEq, and_true] at hv
  obtain ⟨rfl, rfl⟩ := hv
  rw [bW_bool]
  constructor
  rotate_left
  · intro hm
    refine gcV_same (hq h7 T0 st.tab st.sq (fun i j => ⟨st.snd i j, fun q => ?_⟩) st.low st.len)
    refine Plus.least (S := onT T0) st.all (fun a b d h1 h2 => ?_) q
    have := onT_lt2 st.tab.wid h1
    exact hno hm a b d (.inl (by have := st.sq; omega)) h1 h2
  intro hm
  subst hm
  rw [st.tab.lenS, oW_some, st.sq]
  refine ⟨ClI2 c n0 x5 ms h R T0, c, gcL_same ⟨T0, false, 0, rfl, ⟨st, fun _ _ q => q, (fun q => by cases q), fun _ => ⟨rfl, fun _ _ _ q => by omega⟩⟩, by omega, by omega⟩, ?_⟩
  simp only [if_true] at hk
  clear st hno
  rintro k12 x13 x14 x15 x16 h17 ⟨T1, more, i, hv, w, hk2, hi⟩
  simp only [List.cons.injEq, and_true] at hv
  obtain ⟨rfl, rfl, rfl, rfl⟩ := hv
  rw [n_lss, oW_some, bW_dec]
  constructor
  rotate_left
  · intro hge
    have hic : i = c := by omega
    subst hic
    refine ⟨missT i T1 + (if more then 1 else 0), ?_, gcL_same ⟨T1, more, rfl, w.st, rfl, fun q => ?_⟩⟩
    · cases more with
      | true => have := w.yes rfl; simp; omega
      | false => have := (w.no rfl).1; subst this; simp; omega
    · obtain ⟨e, q2⟩ := w.no q
      subst e; exact q2
  intro hlt
  have hi' : i < c := by omega
  have hsq := w.st.sq
  refine w.st.tab.get (x := (i : Int)) (by unfold inR; omega) fun p => ?_
  simp only [Int.toNat_natCast]
  rw [lenRow, oW_some]
  have hmi : i < ms.length := by rw [w.st.tab.len]; omega
  generalize hrv : rowV c (ms[i]'hmi) = rv
  refine ⟨ClI3 c n0 x13 ms h R T0 i rv, c, gcL_same ⟨T1, more, 0, rfl, w, by omega, by omega⟩, ?_⟩
  clear w hsq p
  rintro k25 x26 x27 x28 x29 x30 x31 x32 x33 h34 ⟨T2, more, k, hv, w, hk3, hkc⟩
  simp only [List.cons.injEq, and_true] at hv
  obtain ⟨rfl, rfl, rfl, rfl, rfl, rfl, rfl, rfl⟩ := hv
  rw [n_lss, oW_some, bW_dec]
  constructor
  rotate_left
  · intro hge
    have hkc' : k = c := by omega
    subst hkc'
    rw [n_add (by omega), oW_some]
    refine ⟨k - (i + 1), by omega, gcL_same ⟨T2, more, i + 1, rfl, ⟨w.st, w.up, w.yes, fun q => ?_⟩, rfl, by omega⟩⟩
    obtain ⟨e, q2⟩ := w.no q
    refine ⟨e, fun i' k' j' hlt2 h1 h2 => ?_⟩
    have : k' < k := by
      have e2 := onT_lt2 (c := k) (T := T0) (by rw [← e]; exact w.st.tab.wid) h1
      exact e2.2
    exact q2 i' k' j' (by omega) h1 h2
  intro hlt2
  have hk' : k < c := by omega
  have hsq := w.st.sq
  have hml := w.st.tab.len
  rw [← hrv]
  refine w.st.tab.cell hmi (t := (k : Int)) (by unfold inR; omega) ?_
  simp only [Int.toNat_natCast]
  refine w.st.tab.get (x := (k : Int)) (by unfold inR; omega) fun p => ?_
  rw [lenRow, oW_some]
  generalize hrv2 : rowV c (ms[i]'hmi) = rv
  refine ⟨ClI4 c n0 x26 ms h R T0 i rv k (decide (onT T2 i k)), c, gcL_same ⟨T2, more, 0, rfl, w, fun q => by simpa using q, fun q => by rw [(w.no q).1], by omega, by omega⟩, ?_⟩
  generalize decide (onT T2 i k) = is
  clear w hsq p hml
  rintro k44 x45 x46 x47 x48 x49 x50 x51 x52 x53 x54 x55 x56 h57 ⟨T3, more, j, hv, w, his, his2, hk4, hj⟩
  simp only [List.cons.injEq, and_true] at hv
  obtain ⟨rfl, rfl, rfl, rfl, rfl, rfl, rfl, rfl, rfl, rfl, rfl, rfl⟩ := hv
  rw [n_lss, oW_some, bW_dec]
  constructor
  rotate_left
  · intro hge
    have hjc : j = c := by omega
    subst hjc
    rw [n_add (by omega), oW_some]
    refine ⟨j - (k + 1), by omega, gcL_same ⟨T3, more, k + 1, rfl, ⟨w.st, w.up, w.yes, fun q => ?_⟩, rfl, by omega⟩⟩
    obtain ⟨e, q2⟩ := w.no q
    refine ⟨e, fun i' k' j' hlt2 h1 h2 => ?_⟩
    have : j' < j := (onT_lt2 (c := j) (T := T0) (by rw [← e]; exact w.st.tab.wid) h2).2
    exact q2 i' k' j' (by omega) h1 h2
  intro hlt3
  have hj' : j < c := by omega
  have hsq := w.st.sq
  have hml := w.st.tab.len
  -- nothing is to be done
  have skip : (more = false → onT T0 i k → onT T0 k j → onT T0 i j) → oW (binN .add (.int .i64 (j : Int)) (.int .i64 1)) fun v73 => ∃ m43, m43 < k44 ∧ gcL h (ClI4 c n0 x45 ms h R T0 i x52 k is m43) [x45, .bool more, .int .i64 (i : Int), .int .i64 (k : Int), .bool is, .int .i64 (c : Int), .int .i64 (i : Int), x52, .int .i64 (c : Int), .int .i64 (k : Int), .int .i64 (c : Int), v73] h57 := fun hcl => by
    rw [n_add (by omega), oW_some]
    refine ⟨c - (j + 1), by omega, gcL_same ⟨T3, more, j + 1, rfl, ⟨w.st, w.up, w.yes, fun q => ?_⟩, his, his2, rfl, by omega⟩⟩
    obtain ⟨e, q2⟩ := w.no q
    refine ⟨e, fun i' k' j' hlt2 h1 h2 => ?_⟩
    by_cases z : i' = i ∧ k' = k ∧ j' = j
    · obtain ⟨rfl, rfl, rfl⟩ := z
      exact hcl q h1 h2
    · exact q2 i' k' j' (by omega) h1 h2
  rw [bW_bool]
  constructor
  rotate_left
  · intro hf
    rw [bW_false]
    refine skip fun q h1 => ?_
    have := his2 q
    rw [hf] at this
    simp only [eq_comm (a := false), decide_eq_false_iff_not] at this
    exact absurd h1 this
  intro hist
  have hik := his hist
  refine w.st.tab.get (x := (k : Int)) (by unfold inR; omega) fun p => ?_
  simp only [Int.toNat_natCast]
  refine w.st.tab.cell (by omega) (t := (j : Int)) (by unfold inR; omega) ?_
  simp only [Int.toNat_natCast]
  rw [bW_dec]
  constructor
  rotate_left
  · intro hn
    rw [bW_false]
    refine skip fun q _ h2 => ?_
    rw [(w.no q).1] at hn
    exact absurd h2 hn
  intro hkj
  refine w.st.tab.get (x := (i : Int)) (by unfold inR; omega) fun p => ?_
  simp only [Int.toNat_natCast]
  refine w.st.tab.cell (by omega) (t := (j : Int)) (by unfold inR; omega) ?_
  simp only [Int.toNat_natCast]
  rw [u_not, oW_some, bW_bool]
  constructor
  rotate_left
  · intro hn
    have hij : onT T3 i j := by simpa using hn
    refine skip fun q _ _ => ?_
    rw [← (w.no q).1]; exact hij
  intro hn
  have hij : ¬ onT T3 i j := by simpa using hn
  refine w.st.tab.get (x := (i : Int)) (by unfold inR; omega) fun p => ?_
  simp only [Int.toNat_natCast]
  refine w.st.tab.put (by omega) (t := (j : Int)) (by unfold inR; omega) fun H' T' ta' hl' hon hlow hlen => ?_
  simp only [Int.toNat_natCast] at hon
  have up : ∀ a b, onT T3 a b → onT T' a b := fun a b q => by
    rw [hon]
    split
    · trivial
    · exact q
  have hT' : onT T' i j := by rw [hon, if_pos ⟨rfl, rfl⟩]; trivial
  rw [n_add (by omega), oW_some]
  refine ⟨c - (j + 1), by omega, gcL_same ⟨T', true, j + 1, rfl, ⟨⟨ta', by rw [hl', hsq], fun q hq2 => (hlow q hq2).trans (w.st.low q hq2), hlen.trans w.st.len, fun a b q => up a b (w.st.all a b q), fun a b q => ?_⟩, fun a b q => up a b (w.up a b q), fun _ => ?_, (fun q => by cases q)⟩, fun q => up _ _ (his q), (fun q => by cases q), rfl, by omega⟩⟩
  · rw [hon] at q
    split at q
    · rename_i z
      obtain ⟨rfl, rfl⟩ := z
      exact (w.st.snd _ _ hik).trans (w.st.snd _ _ hkj)
    · exact w.st.snd a b q
  · have h1 := miss_lt (n := c) (by omega) hj' up hij hT'
    have h2 := miss_le (n := c) w.up
    omega
end Go.Ax
namespace Go.Ax
open Go Go.Proofs Go.RowKit
/-- What a heap has, and more. -/
theorem ext_low {B H H' : Heap} {n0 : Nat} (e : ∃ U, H = B ++ U) (low : ∀ j, j < n0 → H'[j]? = H[j]?) (hn : B.length ≤ n0) (hl : H'.length = H.length) : ∃ U, H' = B ++ U := by
  obtain ⟨U, rfl⟩ := e
  refine ⟨H'.drop B.length, ?_⟩
  have : H'.take B.length = B := by
    apply List.ext_getElem?
    intro i
    by_cases h : i < B.length
    · rw [List.getElem?_take_of_lt h, low i (by omega), List.getElem?_append_left h]
    · rw [List.getElem?_eq_none (by simp; omega), List.getElem?_eq_none (by omega)]
  conv => rhs; lhs; rw [← this]
  rw [List.take_append_drop]
theorem sl_ints2 {l : List Int} {a b : Nat} {h : Heap} (hab : a ≤ b) (hb : b ≤ l.length) : slS 1 h (ints l) (some (.int .i64 (a : Int))) (some (.int .i64 (b : Int))) none = some (ints ((l.take b).drop a)) := by
  simp only [slS, isLit, litSlice, asNat]
  have hall : (l.map fun n => Value.int .i64 n).all (fun e => (cellsOf e).length == 1) = true := by simp
  simp only [List.toList_toArray, hall, if_true]
  rw [if_pos (by omega), if_pos (by omega)]
  simp only [Int.toNat_natCast, List.length_map]
  rw [if_pos ⟨hab, hb⟩, ← List.map_drop, ← List.map_take]
  congr 3
  rw [List.drop_take]
theorem drop1_split {r : List Int} {i : Nat} (h : i < (r.drop 1).length) : r.drop 1 = (r.take (i + 1)).drop 1 ++ (r.drop 1)[i] :: r.drop (i + 2) := by
  rw [List.drop_take, Nat.add_sub_cancel]
  have e := List.take_append_drop i (r.drop 1)
  rw [List.drop_eq_getElem_cons h, List.drop_drop] at e
  rw [show i + 2 = 1 + (i + 1) from by omega]
  exact e.symm
/-- Tables without anything. -/
def BlI (n : Nat) (h : Heap) (m : Nat) (vs : List Value) (H : Heap) : Prop :=
  ∃ (i : Nat) (v : Value) (g : Heap) (ms : List Nat), vs = [.int .i64 (n : Int), v, .int .i64 (n : Int), .int .i64 (i : Int)] ∧ H = h ++ g ∧ Acc 1 h.length H v (ms.map (rowV n) ++ List.replicate (n - i) (.slice none 0 0)) ∧ ms.length = i ∧ ms.Nodup ∧
    (∀ j ∈ ms, h.length ≤ j ∧ ¬ lies v j) ∧ (∀ j ∈ ms, getRow H j = some ((List.replicate n false).map .bool, .exact)) ∧ m = n - i ∧ i ≤ n
theorem blank_spec {n : Nat} (hn : n ≤ 1000000) {h : Heap} {Q : Value → Heap → Prop} (hq : ∀ U v ms, TabAt n h.length (h ++ U) v ms (List.replicate n (List.replicate n false)) → Q v (h ++ U)) : acall Try.prog F_cycles_blank_bool [.int .i64 (n : Int)] h Q := by
  apply W_cycles_blank_bool_ok
  unfold W_cycles_blank_bool
  refine ⟨_, _, by
    simp only [mksW]
    rw [if_pos (by omega)], ?_⟩
  simp only [Int.toNat_natCast]
  rw [repA_one, show lenS (.slice (some ⟨h.length, 0, none⟩) n n) = some (.int .i64 (n : Int)) by simp, oW_some]
  refine ⟨BlI n h, n, gcL_same ⟨0, _, [.row (List.replicate n (.slice none 0 0)) .exact], [], rfl, rfl, ?_, rfl, .nil, by simp, by simp, rfl, by omega⟩, ?_⟩
  · have := Acc.made (sz := 1) (n := h.length) (H := h) (l := List.replicate n (.slice none 0 0)) (fun x hx => by rw [List.eq_of_mem_replicate hx]; rfl) (Nat.le_refl _)
    have fl : (List.replicate n (Value.slice none 0 0)).flatMap cellsOf = List.replicate n (.slice none 0 0) := flat_one fun e he => by rw [List.eq_of_mem_replicate he]; rfl
    rw [fl] at this
    simpa using this
  rintro k7 x8 x9 x10 x11 h12 ⟨i, v, g, ms, hv, rfl, acc, hml, hnd, hge, hrow, hk, hi⟩
  simp only [List.cons.injEq, and_true] at hv
  obtain ⟨rfl, rfl, rfl, rfl⟩ := hv
  have hz : ∀ x ∈ ms.map (rowV n) ++ List.replicate (n - i) (Value.slice none 0 0), (cellsOf x).length = 1 := fun x hx => by
    rcases List.mem_append.1 hx with q | q
    · exact rowV_len x q
    · rw [List.eq_of_mem_replicate q]; rfl
  rw [n_lss, oW_some, bW_dec]
  constructor
  · intro hlt
    have hi' : i < n := by omega
    refine ⟨_, _, by
      simp only [mksW]
      rw [if_pos (by omega)], ?_⟩
    simp only [Int.toNat_natCast]
    rw [repA_one, show (List.replicate n (Value.bool false)) = (List.replicate n false).map Value.bool by rw [List.map_replicate], List.append_assoc]
    have hln : ∀ j, lies x9 j → j < (h ++ g).length := fun j hj => acc.lt hj
    have acc' : Acc 1 h.length (h ++ (g ++ [.row ((List.replicate n false).map .bool) .exact])) x9 (ms.map (rowV n) ++ List.replicate (n - i) (.slice none 0 0)) := by rw [← List.append_assoc]; exact acc.app
    refine Acc.set rfl acc' (by omega) hz (e := rowV n (h ++ g).length) rfl rfl rfl (by simp; omega) fun g' a2 same => ?_
    rw [n_add (by omega), oW_some]
    have hnew : (h ++ g).length ∉ ms := fun z => by have := getRow_lt (hrow _ z); omega
    have hnl : ¬ lies x9 (h ++ g).length := fun z => by have := hln _ z; omega
    have hrn : getRow (h ++ g') (h ++ g).length = some ((List.replicate n false).map .bool, .exact) := by
      rw [getRow_same (same _ hnl), ← List.append_assoc, row_app0]; rfl
    refine ⟨n - (i + 1), by omega, gcL_same ⟨i + 1, x9, g', ms ++ [(h ++ g).length], rfl, rfl, ?_, by simp [hml], ?_, fun j hj => ?_, fun j hj => ?_, rfl, by omega⟩⟩
    · have e : (ms.map (rowV n) ++ List.replicate (n - i) (Value.slice none 0 0)).set i (rowV n (h ++ g).length) = (ms ++ [(h ++ g).length]).map (rowV n) ++ List.replicate (n - (i + 1)) (.slice none 0 0) := by
        rw [List.set_append_right _ _ (by simp [hml]), show n - i = (n - (i + 1)) + 1 by omega, List.replicate_succ]
        simp [hml]
      rw [e] at a2; exact a2
    · rw [List.nodup_append]
      exact ⟨hnd, by simp, fun x hx y hy e => hnew (by rw [List.mem_singleton.1 hy] at e; rw [← e]; exact hx)⟩
    · rcases List.mem_append.1 hj with q | q
      · exact hge j q
      · rw [List.mem_singleton.1 q]; exact ⟨by simp, hnl⟩
    · rcases List.mem_append.1 hj with q | q
      · have hlt := getRow_lt (hrow j q)
        rw [getRow_same (same _ (hge j q).2), ← List.append_assoc]
        exact getRow_app (hrow j q)
      · rw [List.mem_singleton.1 q]; exact hrn
  · intro hge2
    have hin : i = n := by omega
    rw [hin, Nat.sub_self, List.replicate_zero, List.append_nil] at acc
    refine gcV_same (hq g x9 ms ⟨acc, by simp; omega, hnd, hge, fun j p q => ?_, fun r hr => by rw [List.eq_of_mem_replicate hr]; simp⟩)
    rw [List.getElem_replicate]
    exact hrow _ (List.getElem_mem p)
theorem not_blank {n c i j : Nat} : ¬ onT (List.replicate n (List.replicate c false)) i j := fun h => by
  have h1 := onT_lt h
  rw [onT_iff h1, List.getElem_replicate] at h
  exact absurd h on_fls
/-- Steps by some rules. -/
def stepL (rs : List (List Int)) (p : List Int → List Int → Prop) (i j : Nat) : Prop := ∃ r ∈ rs, ∃ a x b, r.drop 1 = a ++ x :: b ∧ p a b ∧ i = lhs r ∧ j = x.toNat
def StI (g : Gr) (p : List Int → List Int → Prop) (B : Heap) (f : Value) (m : Nat) (vs : List Value) (H : Heap) : Prop :=
  ∃ (k : Nat) (v : Value) (ms : List Nat) (T : List (List Bool)), vs = [f, v, lit (g.rules.map ints), .int .i64 (g.rules.length : Int), .int .i64 (k : Int)] ∧ (∃ U, H = B ++ U) ∧ TabAt g.n B.length H v ms T ∧ T.length = g.n ∧ (∀ i j, onT T i j ↔ stepL (g.rules.take k) p i j) ∧ m = g.rules.length - k ∧ k ≤ g.rules.length
def StJ (g : Gr) (p : List Int → List Int → Prop) (B : Heap) (f : Value) (k : Nat) (r : List Int) (m : Nat) (vs : List Value) (H : Heap) : Prop :=
  ∃ (q : Nat) (v : Value) (ms : List Nat) (T : List (List Bool)), vs = [f, v, ints r, lit (g.rules.map ints), .int .i64 (g.rules.length : Int), .int .i64 (k : Int), ints (r.drop 1), .int .i64 ((r.drop 1).length : Int), .int .i64 (q : Int)] ∧ (∃ U, H = B ++ U) ∧ TabAt g.n B.length H v ms T ∧ T.length = g.n ∧
    (∀ i j, onT T i j ↔ stepL (g.rules.take k) p i j ∨ ∃ a x b, r.drop 1 = a ++ x :: b ∧ a.length < q ∧ p a b ∧ i = lhs r ∧ j = x.toNat) ∧ m = (r.drop 1).length - q ∧ q ≤ (r.drop 1).length
theorem stepL_succ {rs : List (List Int)} {k : Nat} (hk : k < rs.length) {p : List Int → List Int → Prop} {i j : Nat} : stepL (rs.take (k + 1)) p i j ↔ stepL (rs.take k) p i j ∨ ∃ a x b, rs[k].drop 1 = a ++ x :: b ∧ p a b ∧ i = lhs rs[k] ∧ j = x.toNat := by
  unfold stepL
  rw [List.take_add_one, List.getElem?_eq_getElem hk]
  constructor
  · rintro ⟨r, hr, q⟩
    rcases List.mem_append.1 hr with z | z
    · exact .inl ⟨r, z, q⟩
    · simp only [Option.toList_some, List.mem_singleton] at z
      subst z; exact .inr q
  · rintro (⟨r, hr, q⟩ | q)
    · exact ⟨r, List.mem_append_left _ hr, q⟩
    · exact ⟨rs[k], List.mem_append_right _ (by rw [Option.toList_some]; exact List.mem_singleton.2 rfl), q⟩
theorem steps_spec {g : Gr} (ok : g.ok) {f : Value} {p : List Int → List Int → Prop} [∀ a b, Decidable (p a b)] {h : Heap} (hf : ∀ U, ∀ r ∈ g.rules, ∀ a x b, r.drop 1 = a ++ x :: b → ∀ K : Value → Heap → Prop, K (.bool (decide (p a b))) (h ++ U) → callW Try.prog f [ints a, ints b] (h ++ U) K)
    {Q : Value → Heap → Prop} (hq : ∀ U v ms T, TabAt g.n (h.length + 1) (h ++ U) v ms T → T.length = g.n → (∀ i j, onT T i j ↔ stepR g p i j) → Q v (h ++ U)) : acall Try.prog F_cycles_steps [g.enc, f] h Q := by
  have hnn := ok.nn
  have hrr := ok.rr
  apply W_cycles_steps_ok
  unfold W_cycles_steps
  rw [box_gr, hW_some]
  refine GAt.names .box ?_
  rw [lenN, oW_some]
  refine callW_plain.2 (blank_spec (n := g.n) (by omega) fun U v ms tb => ?_)
  have ga : GAt (h ++ [grow g] ++ U) h.length g := GAt.box.app
  refine ga.rules ?_
  rw [lenR, oW_some]
  have lB : (h ++ [grow g]).length = h.length + 1 := by simp
  generalize hB : h ++ [grow g] = B at *
  refine ⟨StI g p B f, g.rules.length, gcL_same ⟨0, v, ms, _, rfl, ⟨U, rfl⟩, tb, by simp, fun i j => ⟨fun q => absurd q not_blank, fun ⟨r, hr, _⟩ => by simp at hr⟩, rfl, by omega⟩, ?_⟩
  clear tb ga
  rintro k14 x15 x16 x17 x18 x19 h20 ⟨k, v, ms, T, hv, hU, ta, sq, hT, hk, hkl⟩
  simp only [List.cons.injEq, and_true] at hv
  obtain ⟨rfl, rfl, rfl, rfl, rfl⟩ := hv
  rw [n_lss, oW_some, bW_dec]
  constructor
  rotate_left
  · intro hge
    have hke : k = g.rules.length := by omega
    rw [hke, List.take_length] at hT
    obtain ⟨U, rfl⟩ := hU
    rw [lB] at ta
    have e : B ++ U = h ++ ([grow g] ++ U) := by rw [← hB]; simp
    rw [e] at ta ⊢
    exact gcV_same (hq _ _ ms T ta sq hT)
  intro hlt
  have hk' : k < g.rules.length := by omega
  refine ix_rules hk' ?_
  have hr : g.rules[k] ∈ g.rules := List.getElem_mem hk'
  have hfit := ok.fit _ hr
  have hsucc := fun {i j} => stepL_succ (p := p) hk' (i := i) (j := j)
  have hlr := lhs_lt ok hr
  generalize g.rules[k] = r at *
  rw [sl1 hfit.1, oW_some, lenI, oW_some]
  refine ⟨StJ g p B x15 k r, (r.drop 1).length, gcL_same ⟨0, x16, ms, T, rfl, hU, ta, sq, fun i j => by rw [hT]; exact ⟨.inl, fun q => q.resolve_right (by rintro ⟨a, x, b, _, z, _⟩; omega)⟩, rfl, by omega⟩, ?_⟩
  clear ta sq hT hU
  rintro k29 x30 x31 x32 x33 x34 x35 x36 x37 x38 h39 ⟨q, v, ms, T, hv, hU, ta, sq, hT, hk2, hql⟩
  simp only [List.cons.injEq, and_true] at hv
  obtain ⟨rfl, rfl, rfl, rfl, rfl, rfl, rfl, rfl, rfl⟩ := hv
  have h9 := hfit.2.1
  have hdl : (r.drop 1).length = r.length - 1 := by simp
  rw [n_lss, oW_some, bW_dec]
  constructor
  rotate_left
  · intro hge
    rw [n_add (by omega), oW_some]
    refine ⟨g.rules.length - (k + 1), by omega, gcL_same ⟨k + 1, x31, ms, T, rfl, hU, ta, sq, fun i j => ?_, rfl, by omega⟩⟩
    rw [hT, hsucc]
    refine or_congr Iff.rfl ⟨fun ⟨a, x, b, e, _, z⟩ => ⟨a, x, b, e, z⟩, fun ⟨a, x, b, e, z⟩ => ⟨a, x, b, e, ?_, z⟩⟩
    have := congrArg List.length e
    rw [List.length_append, List.length_cons] at this; omega
  intro hlt2
  have hq' : q < (r.drop 1).length := by omega
  have hsp := drop1_split hq'
  have hal : ((r.take (q + 1)).drop 1).length = q := by simp; omega
  refine ix_ints hq' ?_
  rw [n_add (by omega), oW_some, show ((q : Int) + 1) = ((q + 1 : Nat) : Int) by omega]
  have es : slS 1 h39 (ints r) (some (.int .i64 1)) (some (.int .i64 ((q + 1 : Nat) : Int))) none = some (ints ((r.take (q + 1)).drop 1)) := sl_ints2 (a := 1) (by omega) (by omega)
  rw [es, oW_some, n_add (by omega), oW_some, show ((q : Int) + 2) = ((q + 2 : Nat) : Int) by omega, sl_ints (by omega), oW_some]
  have hx : inR g.n (r.drop 1)[q] := hfit.2.2.2 _ (List.getElem_mem hq')
  generalize (r.drop 1)[q] = x at *
  generalize (r.take (q + 1)).drop 1 = a at *
  generalize r.drop (q + 2) = b at *
  have uniq : ∀ a' x' b', r.drop 1 = a' ++ x' :: b' → a'.length = q → a' = a ∧ x' = x ∧ b' = b := fun a' x' b' e hl => by
    rw [hsp] at e
    have := List.append_inj e (by omega)
    simp only [List.cons.injEq] at this
    exact ⟨this.1.symm, this.2.1.symm, this.2.2.symm⟩
  have ext : ∀ (i j : Nat), (stepL (g.rules.take k) p i j ∨ ∃ a x b, r.drop 1 = a ++ x :: b ∧ a.length < q + 1 ∧ p a b ∧ i = lhs r ∧ j = x.toNat) ↔ (onT T i j ∨ p a b ∧ i = lhs r ∧ j = x.toNat) := fun i j => by
    rw [hT]
    constructor
    · rintro (z | ⟨a', x', b', e, hl, z⟩)
      · exact .inl (.inl z)
      · by_cases hlq : a'.length < q
        · exact .inl (.inr ⟨a', x', b', e, hlq, z⟩)
        · obtain ⟨rfl, rfl, rfl⟩ := uniq a' x' b' e (by omega)
          exact .inr z
    · rintro ((z | ⟨a', x', b', e, hl, z⟩) | z)
      · exact .inl z
      · exact .inr ⟨a', x', b', e, by omega, z⟩
      · exact .inr ⟨a, x, b, hsp, by omega, z⟩
  obtain ⟨U, rfl⟩ := hU
  have eU : B ++ U = h ++ ([grow g] ++ U) := by rw [← hB]; simp
  rw [eU]
  refine hf _ r hr a x b hsp _ ?_
  rw [← eU, bW_dec]
  constructor
  · intro hp
    refine ix0 hfit.1 ?_
    have hl0 : r.getD 0 0 = (lhs r : Int) := by
      have := hfit.2.2.1
      have := ok.t0
      unfold Gr.made inR at *
      unfold lhs; omega
    rw [hl0]
    have hml := ta.len
    refine ta.get (x := (lhs r : Int)) (by unfold inR; omega) fun pp => ?_
    simp only [Int.toNat_natCast]
    refine ta.put (by omega) hx fun H' T' ta' hl' hon hlow hlen => ?_
    rw [oW_some]
    refine ⟨(r.drop 1).length - (q + 1), by omega, gcL_same ⟨q + 1, x31, ms, T', rfl, ext_low ⟨U, rfl⟩ hlow (Nat.le_refl _) hlen, ta', by rw [hl', sq], fun i j => ?_, rfl, by omega⟩⟩
    rw [ext, hon]
    by_cases z : i = lhs r ∧ j = x.toNat
    · rw [if_pos z]; simp [hp, z]
    · rw [if_neg z]; exact ⟨.inl, fun w => w.resolve_right fun w => z w.2⟩
  · intro hp
    rw [oW_some]
    refine ⟨(r.drop 1).length - (q + 1), by omega, gcL_same ⟨q + 1, x31, ms, T, rfl, ⟨U, rfl⟩, ta, sq, fun i j => ?_, rfl, by omega⟩⟩
    rw [ext]
    exact ⟨.inl, fun w => w.resolve_right fun w => hp w.1⟩
end Go.Ax
namespace Go.Ax
open Go Go.Proofs Go.RowKit
theorem ix_bool {l : List Bool} {x : Int} {n : Nat} (hl : l.length = n) (hx : inR n x) {h : Heap} {K : Value → Prop} (k : K (.bool (decide (onL l x.toNat)))) : oW (iaS 1 (bools l) (.int .i64 x)) fun v => oW (ldW false 1 h v) K := by
  unfold inR at hx
  have hlt : x.toNat < l.length := by omega
  rw [show x = ((x.toNat : Nat) : Int) by omega]
  refine ix_lit (f := Value.bool) hlt rfl ?_
  rw [cellsOf_bool, ld_plit1, oW_some]
  have : decide (onL l x.toNat) = l[x.toNat] := by rw [Bool.eq_iff_iff, decide_eq_true_eq, on_iff hlt]
  rwa [this] at k
theorem st_new {H : Heap} {z f : Value} (f1 : okVal f = true) (f2 : cellsOf f = [f]) (f3 : okCell f = true) : stW 1 (H ++ [.row [z] .exact]) (.pointer (some ⟨H.length, 0, none⟩)) f = some (H ++ [.row [f] .exact]) := by
  rw [st1 (c := [z]) (m := .exact) (by rw [row_app0]; rfl) (by simp) f1 f2 f3 (by simp), set_app0]; rfl
theorem resOk {g : Gr} (ok : g.ok) {l : List Bool} : g.res l = bools l := by unfold Gr.res; rw [if_pos ok]
theorem cright_spec {g : Gr} (ok : g.ok) {h : Heap} {Q : Value → Heap → Prop} (hq : Q (.bool true) h) : acall Try.prog F_cycles_right [g.enc] h Q := by
  apply W_cycles_right_ok
  unfold W_cycles_right
  rw [box_gr, hW_some, GAt.ld .box, oW_some]
  refine callW_plain.2 (check16_spec ok.fin ?_)
  have e : g.chk = 0 := by unfold Gr.chk; rw [if_pos ok]
  rw [e, n_eql, oW_some, decide_eq_true rfl]
  exact gcV_box (.bool _) hq
/-- What tells of rows whether they may be nothing. -/
def VoidAt (g : Gr) (H : Heap) (f : Value) : Prop := ∃ p m, f = .func (.func F_cycles_void_D1) #[] #[.pointer (some ⟨p, 0, none⟩)] ∧ getRow H p = some ([bools g.nullL], m)
theorem VoidAt.app {g : Gr} {H t : Heap} {f : Value} (a : VoidAt g H f) : VoidAt g (H ++ t) f := let ⟨p, m, e, h⟩ := a; ⟨p, m, e, getRow_app h⟩
theorem VoidAt.fn {g : Gr} {H : Heap} {f : Value} (a : VoidAt g H f) : okVal f = true ∧ cellsOf f = [f] ∧ okCell f = true := by
  obtain ⟨p, m, rfl, _⟩ := a; exact ⟨rfl, rfl, rfl⟩
theorem void_spec {g : Gr} (ok : g.ok) {h : Heap} {Q : Value → Heap → Prop} (hq : ∀ f, VoidAt g (h ++ [grow g, .row [bools g.nullL] .exact]) f → Q f (h ++ [grow g, .row [bools g.nullL] .exact])) : acall Try.prog F_cycles_void [g.enc] h Q := by
  apply W_cycles_void_ok
  unfold W_cycles_void
  rw [box_gr, hW_some, GAt.ld .box, oW_some]
  refine callW_plain.2 (nullable_spec ok.fin ?_)
  rw [resOk ok, letH_eq]
  rw [st_new rfl rfl rfl, sW_some, List.append_assoc]
  refine gcV_same (hq _ ⟨(h ++ [grow g]).length, .exact, rfl, ?_⟩)
  show getRow (h ++ ([grow g] ++ [AObj.row [bools g.nullL] .exact])) _ = _
  rw [← List.append_assoc, row_app0]; rfl
open Classical in
theorem VoidAt.call {g : Gr} {H : Heap} {f : Value} (a : VoidAt g H f) {l : List Int} (hl : ∀ x ∈ l, inR g.n x) (hn : l.length ≤ 1000000000) {K : Value → Heap → Prop} (k : K (.bool (decide (emptyR g l))) H) : callW Try.prog f [ints l] H K := by
  obtain ⟨p, m, rfl, hp⟩ := a
  rw [callW_known]
  apply W_cycles_void_D1_ok
  unfold W_cycles_void_D1
  refine callW_plain.2 (containsFuncL_spec (p := fun x => !decide (onL g.nullL x.toNat)) (by omega) (fun x hx K hK => ?_) ?_)
  · rw [callW_known]
    apply W_cycles_void_D1_D1_ok
    unfold W_cycles_void_D1_D1
    rw [ldW_one, hp]
    show oW (some (bools g.nullL)) _
    rw [oW_some]
    refine ix_bool (n := g.n) (by unfold Gr.nullL; simp) (hl x hx) ?_
    rw [u_not, oW_some]
    exact gcV_same hK
  · rw [u_not, oW_some]
    have : (!(l.any fun x => !decide (onL g.nullL x.toNat))) = decide (emptyR g l) := by
      rw [Bool.eq_iff_iff, decide_eq_true_eq, Bool.not_eq_true', List.any_eq_false]
      unfold emptyR
      exact ⟨fun q x hx => by have := q x hx; simpa using this, fun q x hx => by have := q x hx; simpa using this⟩
    rw [this]
    exact gcV_same k
theorem rule_sides {g : Gr} (ok : g.ok) {r : List Int} (hr : r ∈ g.rules) {a b : List Int} {x : Int} (e : r.drop 1 = a ++ x :: b) : (∀ y ∈ a, inR g.n y) ∧ (∀ y ∈ b, inR g.n y) ∧ a.length ≤ 9 ∧ b.length ≤ 9 := by
  have hf := ok.fit r hr
  have hl := congrArg List.length e
  simp at hl
  have := hf.2.1
  exact ⟨fun y hy => hf.2.2.2 y (by rw [e]; simp [hy]), fun y hy => hf.2.2.2 y (by rw [e]; simp [hy]), by omega, by omega⟩
open Classical in
theorem alone_spec {g : Gr} (ok : g.ok) {h : Heap} {Q : Value → Heap → Prop} (hq : ∀ n0 U v ms T, h.length ≤ n0 → TabAt g.n n0 (h ++ U) v ms T → T.length = g.n → (∀ i j, onT T i j ↔ g.alone i j) → Q v (h ++ U)) : acall Try.prog F_cycles_alone [g.enc] h Q := by
  apply W_cycles_alone_ok
  unfold W_cycles_alone
  rw [box_gr, hW_some, GAt.ld .box, oW_some]
  refine callW_plain.2 (void_spec ok fun f va => ?_)
  have ga : GAt (h ++ [grow g] ++ [grow g, .row [bools g.nullL] .exact]) h.length g := GAt.box.app
  have e0 : ∃ X, h ++ [grow g] ++ [grow g, .row [bools g.nullL] .exact] = h ++ X := ⟨_, List.append_assoc ..⟩
  generalize h ++ [grow g] ++ [grow g, .row [bools g.nullL] .exact] = H at *
  obtain ⟨f1, f2, f3⟩ := va.fn
  rw [letH_eq, st_new f1 f2 f3, sW_some, ga.app.ld, oW_some]
  have rH : getRow (H ++ [.row [f] .exact]) H.length = some ([f], .exact) := by rw [row_app0]; rfl
  have vH : VoidAt g (H ++ [.row [f] .exact]) f := va.app
  refine callW_plain.2 (steps_spec ok (p := fun a b => emptyR g a ∧ emptyR g b) (fun U r hr a x b e K hK => ?_) fun U v ms T ta sq hT => ?_)
  · obtain ⟨s1, s2, s3, s4⟩ := rule_sides ok hr e
    rw [callW_known]
    apply W_cycles_alone_D1_ok
    unfold W_cycles_alone_D1
    have ld : ldW false 1 (H ++ [.row [f] .exact] ++ U) (.pointer (some ⟨H.length, 0, none⟩)) = some f := by rw [ldW_one, getRow_app rH]; rfl
    rw [ld, oW_some]
    refine vH.app.call s1 (by omega) ?_
    rw [bW_dec]
    constructor
    · intro h1
      rw [ld, oW_some]
      refine vH.app.call s2 (by omega) (gcV_same ?_)
      have : decide (emptyR g b) = decide (emptyR g a ∧ emptyR g b) := by rw [decide_eq_decide]; exact ⟨fun q => ⟨h1, q⟩, fun q => q.2⟩
      rw [this]; exact hK
    · intro h1
      rw [decide_eq_false (fun q => h1 q.1)] at hK
      exact gcV_same hK
  · obtain ⟨X, rfl⟩ := e0
    have e : h ++ X ++ [AObj.row [f] .exact] ++ U = h ++ (X ++ ([AObj.row [f] .exact] ++ U)) := by simp
    generalize hn0 : (h ++ X ++ [AObj.row [f] .exact]).length + 1 = n0 at ta
    have hge : h.length ≤ n0 := by rw [← hn0]; simp; omega
    rw [e] at ta ⊢
    exact gcV_same (hq n0 _ v ms T hge ta sq hT)
open Classical in
theorem firstS_spec {g : Gr} (ok : g.ok) {m : Nat} (hm : m ≤ 1000) {h : Heap} {Q : Value → Heap → Prop} (hq : ∀ n0 U v ms T, h.length ≤ n0 → TabAt g.n n0 (h ++ U) v ms T → T.length = g.n → (∀ i j, onT T i j ↔ g.ahead m i j) → Q v (h ++ U)) : acall Try.prog F_cycles_first [g.enc, .int .i64 (m : Int)] h Q := by
  apply W_cycles_first_ok
  unfold W_cycles_first
  rw [box_gr, hW_some, box_int, hW_some]
  have ga0 : GAt (h ++ [grow g] ++ [.row [.int .i64 (m : Int)] .exact]) h.length g := GAt.box.app
  have rm0 : getRow (h ++ [grow g] ++ [.row [.int .i64 (m : Int)] .exact]) (h ++ [grow g]).length = some ([.int .i64 (m : Int)], .exact) := by rw [row_app0]; rfl
  have e0 : ∃ X, h ++ [grow g] ++ [.row [.int .i64 (m : Int)] .exact] = h ++ X := ⟨_, List.append_assoc ..⟩
  generalize (h ++ [grow g]).length = pm at *
  generalize h ++ [grow g] ++ [.row [.int .i64 (m : Int)] .exact] = H0 at *
  rw [ga0.ld, oW_some]
  refine callW_plain.2 (void_spec ok fun f va => ?_)
  have ga : GAt (H0 ++ [grow g, .row [bools g.nullL] .exact]) h.length g := ga0.app
  have rm := getRow_app (t := [grow g, .row [bools g.nullL] .exact]) rm0
  have e1 : ∃ X, H0 ++ [grow g, .row [bools g.nullL] .exact] = h ++ X := by obtain ⟨X, rfl⟩ := e0; exact ⟨_, List.append_assoc ..⟩
  generalize H0 ++ [grow g, .row [bools g.nullL] .exact] = H at *
  obtain ⟨f1, f2, f3⟩ := va.fn
  rw [letH_eq, st_new f1 f2 f3, sW_some, ga.app.ld, oW_some]
  have rH : getRow (H ++ [.row [f] .exact]) H.length = some ([f], .exact) := by rw [row_app0]; rfl
  have vH : VoidAt g (H ++ [.row [f] .exact]) f := va.app
  refine callW_plain.2 (steps_spec ok (p := fun a _ => m ≤ a.length ∧ emptyR g a) (fun U r hr a x b e K hK => ?_) fun U v ms T ta sq hT => ?_)
  · obtain ⟨s1, s2, s3, s4⟩ := rule_sides ok hr e
    rw [callW_known]
    apply W_cycles_first_D1_ok
    unfold W_cycles_first_D1
    have ld : ldW false 1 (H ++ [.row [f] .exact] ++ U) (.pointer (some ⟨H.length, 0, none⟩)) = some f := by rw [ldW_one, getRow_app rH]; rfl
    have ldm : ldW false 1 (H ++ [.row [f] .exact] ++ U) (.pointer (some ⟨pm, 0, none⟩)) = some (.int .i64 (m : Int)) := by rw [ldW_one, getRow_app (getRow_app rm)]; rfl
    rw [lenI, oW_some, ldm, oW_some, n_geq, oW_some, bW_dec]
    constructor
    · intro h1
      rw [ld, oW_some]
      refine vH.app.call s1 (by omega) (gcV_same ?_)
      have : decide (emptyR g a) = decide (m ≤ a.length ∧ emptyR g a) := by rw [decide_eq_decide]; exact ⟨fun q => ⟨by omega, q⟩, fun q => q.2⟩
      rw [this]; exact hK
    · intro h1
      rw [decide_eq_false (fun q => h1 (by have := q.1; omega))] at hK
      exact gcV_same hK
  · obtain ⟨X, rfl⟩ := e1
    have e : h ++ X ++ [AObj.row [f] .exact] ++ U = h ++ (X ++ ([AObj.row [f] .exact] ++ U)) := by simp
    generalize hn0 : (h ++ X ++ [AObj.row [f] .exact]).length + 1 = n0 at ta
    have hge : h.length ≤ n0 := by rw [← hn0]; simp; omega
    rw [e] at ta ⊢
    exact gcV_same (hq n0 _ v ms T hge ta sq hT)
open Classical in
theorem setL_take {n : Nat} {S : Nat → Prop} {i : Nat} (h : i < n) : (setL n S).take (i + 1) = (setL n S).take i ++ [decide (S i)] := by
  rw [List.take_add_one, List.getElem?_eq_getElem (by simpa using h)]
  simp [setL]
theorem bool_len1 {l : List Bool} : ∀ x ∈ l.map Value.bool, (cellsOf x).length = 1 := fun x hx => by
  obtain ⟨b, _, rfl⟩ := List.mem_map.1 hx; rfl
theorem bool_cl1 {l : List Bool} : ∀ e ∈ l.map Value.bool, ∀ x ∈ cellsOf e, Cl x := fun e he x hx => by
  obtain ⟨b, _, rfl⟩ := List.mem_map.1 he
  simp at hx; subst hx; exact .bool _
def OwI (v : Value) (n : Nat) (S : Nat → Prop) (h : Heap) (m : Nat) (vs : List Value) (H : Heap) : Prop :=
  ∃ (i : Nat) (x : Value) (g : Heap), vs = [v, x, .int .i64 (n : Int), .int .i64 (i : Int)] ∧ H = h ++ g ∧ Acc 1 h.length H x (((setL n S).take i).map .bool) ∧ m = n - i ∧ i ≤ n
open Classical in
/-- Which are tied to themselves. -/
theorem own_spec {v : Value} {n : Nat} {S : Nat → Prop} {h : Heap} (hn : n ≤ 1000000) (hlen : lenS v = some (.int .i64 (n : Int)))
    (hget : ∀ U (i : Nat) (K : Value → Prop), i < n → K (.bool (decide (S i))) → oW (iaS 1 v (.int .i64 (i : Int))) fun p => oW (ldW false 1 (h ++ U) p) fun w => oW (iaS 1 w (.int .i64 (i : Int))) fun q => oW (ldW false 1 (h ++ U) q) K)
    {Q : Value → Heap → Prop} (hq : Q (bools (setL n S)) h) : acall Try.prog F_cycles_table_bool_own [v] h Q := by
  apply W_cycles_table_bool_own_ok
  unfold W_cycles_table_bool_own
  rw [hlen, oW_some]
  refine ⟨OwI v n S h, n, gcL_same ⟨0, .slice none 0 0, [], rfl, by simp, by simpa using Acc.nil, rfl, by omega⟩, ?_⟩
  rintro k5 x6 x7 x8 x9 h10 ⟨i, x, g, hv, rfl, acc, hk, hi⟩
  simp only [List.cons.injEq, and_true] at hv
  obtain ⟨rfl, rfl, rfl, rfl⟩ := hv
  rw [n_lss, oW_some, bW_dec]
  constructor
  · intro hlt
    have hi' : i < n := by omega
    refine hget g i _ hi' ?_
    have hl : (((setL n S).take i).map Value.bool).length ≤ n := by simp; omega
    refine Acc.push rfl acc (by omega) bool_len1 (e := .bool (decide (S i))) rfl rfl rfl rfl (by omega) (by omega) fun v' g' a2 _ _ _ => ?_
    rw [n_add (by omega), oW_some]
    refine ⟨n - (i + 1), by omega, gcL_same ⟨i + 1, v', g', rfl, rfl, ?_, rfl, by omega⟩⟩
    rw [setL_take hi', List.map_append]; exact a2
  · intro hge
    rw [List.take_of_length_le (by simp; omega)] at acc
    exact Acc.done rfl ⟨[], by simp⟩ acc (by omega) bool_len1 bool_cl1 hq
/-- .. of a table in memory. -/
theorem own_tab {n n0 : Nat} {h : Heap} {v : Value} {ms : List Nat} {T : List (List Bool)} (ta : TabAt n n0 h v ms T) (sq : T.length = n) (hn : n ≤ 1000000) {Q : Value → Heap → Prop} (hq : Q (bools (setL n fun i => onT T i i)) h) : acall Try.prog F_cycles_table_bool_own [v] h Q := by
  classical
  refine own_spec (S := fun i => onT T i i) hn (by rw [ta.lenS, sq]) (fun U i K hi k => ?_) hq
  have hml := ta.len
  refine ta.app.get (x := (i : Int)) (by unfold inR; omega) fun p => ?_
  simp only [Int.toNat_natCast]
  refine ta.app.cell (by omega) (t := (i : Int)) (by unfold inR; omega) ?_
  simp only [Int.toNat_natCast]
  exact (congrArg K (congrArg Value.bool (decide_eq_decide.2 Iff.rfl))).mpr k
/-- .. of a frozen one. -/
theorem ix_rowsB {T : List (List Bool)} {i : Nat} (hi : i < T.length) {h : Heap} {K : Value → Prop} (k : K (bools T[i])) : oW (iaS 1 (lit (T.map bools)) (.int .i64 (i : Int))) fun v => oW (ldW false 1 h v) K :=
  ix_lit hi rfl (by rw [cellsOf_func, ld_plit1, oW_some]; exact k)
theorem own_lit {n : Nat} {R : Nat → Nat → Prop} {h : Heap} (hn : n ≤ 1000000) {Q : Value → Heap → Prop} (hq : Q (bools (setL n fun i => R i i)) h) : acall Try.prog F_cycles_table_bool_own [lit ((tabS n R).map bools)] h Q := by
  classical
  refine own_spec (S := fun i => R i i) hn (by rw [lenS_lit, List.length_map, tabS_len]) (fun U i K hi k => ?_) hq
  refine ix_rowsB (by rw [tabS_len]; exact hi) ?_
  rw [tabS_row]
  refine ix_bool (n := n) (by simp) (by unfold inR; omega) ?_
  rw [Int.toNat_natCast]
  have : decide (onL (setL n (R i)) i) = decide (R i i) := by rw [decide_eq_decide, setL_on]; exact ⟨fun q => q.2, fun q => ⟨hi, q⟩⟩
  rw [this]; exact k
theorem calone_spec {g : Gr} (ok : g.ok) {h : Heap} {Q : Value → Heap → Prop} (hq : Q (lit (g.aloneT.map bools)) h) : acall Try.prog F_cycles_Alone [g.enc] h Q := by
  have hnn := ok.nn
  apply W_cycles_Alone_ok
  unfold W_cycles_Alone
  rw [box_gr, hW_some, GAt.ld .box, oW_some]
  refine callW_plain.2 (cright_spec ok ?_)
  rw [u_not, oW_some, bW_bool]
  refine ⟨(fun q => by cases q), fun _ => ?_⟩
  rw [GAt.ld .box, oW_some]
  refine callW_plain.2 (alone_spec ok fun n0 U v ms T hn0 ta sq hT => callW_plain.2 (closeT_spec ta sq (by omega) fun H' T' ta' sq' hT' low len => ?_))
  obtain ⟨X, rfl⟩ := ext_low (B := h ++ [grow g]) ⟨U, rfl⟩ low hn0 len
  have e : T' = g.aloneT := eq_tabS sq' ta'.wid fun i j _ _ => by
    rw [hT']
    exact ⟨Plus.mono fun a b q => (hT a b).1 q, Plus.mono fun a b q => (hT a b).2 q⟩
  subst e
  rw [List.append_assoc] at ta' ⊢
  refine gcV_end (v2 := lit (g.aloneT.map bools)) (ta'.gv (h0 := h) ?_) hq
  simp at hn0; omega
theorem cyclic_spec {g : Gr} (ok : g.ok) {h : Heap} {Q : Value → Heap → Prop} (hq : Q (bools g.cycL) h) : acall Try.prog F_cycles_Cyclic [g.enc] h Q := by
  have hnn := ok.nn
  apply W_cycles_Cyclic_ok
  unfold W_cycles_Cyclic
  rw [box_gr, hW_some, GAt.ld .box, oW_some]
  refine callW_plain.2 (calone_spec ok (callW_plain.2 (own_lit (by omega) ?_)))
  exact gcV_box cl_bl hq
theorem left_spec {g : Gr} (ok : g.ok) {h : Heap} {Q : Value → Heap → Prop} (hq : Q (bools g.leftL) h) : acall Try.prog F_cycles_Left [g.enc] h Q := by
  have hnn := ok.nn
  apply W_cycles_Left_ok
  unfold W_cycles_Left
  rw [box_gr, hW_some, GAt.ld .box, oW_some]
  refine callW_plain.2 (cright_spec ok ?_)
  rw [u_not, oW_some, bW_bool]
  refine ⟨(fun q => by cases q), fun _ => ?_⟩
  rw [GAt.ld .box, oW_some]
  refine callW_plain.2 (firstS_spec (m := 0) ok (by omega) fun n0 U v ms T hn0 ta sq hT => callW_plain.2 (closeT_spec ta sq (by omega) fun H' T' ta' sq' hT' low len => callW_plain.2 (own_tab ta' sq' (by omega) ?_)))
  obtain ⟨X, rfl⟩ := ext_low (B := h ++ [grow g]) ⟨U, rfl⟩ low hn0 len
  have e : setL g.n (fun i => onT T' i i) = g.leftL := by
    unfold Gr.leftL
    congr 1
    funext i
    rw [hT']
    exact propext ⟨Plus.mono fun a b q => (hT a b).1 q, Plus.mono fun a b q => (hT a b).2 q⟩
  rw [e, List.append_assoc]
  exact gcV_box cl_bl hq
end Go.Ax
namespace Go.Ax
open Go Go.Proofs Go.RowKit
/-- Two tables as one: with a step of the second one over. -/
def hidE (n : Nat) (F D : Nat → Nat → Prop) (a b : Nat) : Prop := ∃ i j, i < n ∧ j < n ∧ ((a = i ∧ b = j ∧ F i j) ∨ (a = n + i ∧ b = n + j ∧ F i j) ∨ (a = i ∧ b = n + j ∧ D i j))
def hidS (F D : Nat → Nat → Prop) (a b : Nat) : Prop := ∃ i j, D i j ∧ (i = a ∨ Plus F a i) ∧ (j = b ∨ Plus F j b)
theorem hidE_plus {n : Nat} {F D : Nat → Nat → Prop} {a b : Nat} (h : Plus (hidE n F D) a b) :
    (a < n ∧ b < n ∧ Plus F a b) ∨ (n ≤ a ∧ n ≤ b ∧ Plus F (a - n) (b - n)) ∨ (a < n ∧ n ≤ b ∧ hidS F D a (b - n)) := by
  refine Plus.least (S := fun a b => (a < n ∧ b < n ∧ Plus F a b) ∨ (n ≤ a ∧ n ≤ b ∧ Plus F (a - n) (b - n)) ∨ (a < n ∧ n ≤ b ∧ hidS F D a (b - n))) ?_ ?_ h
  · rintro a b ⟨i, j, hi, hj, ⟨rfl, rfl, q⟩ | ⟨rfl, rfl, q⟩ | ⟨rfl, rfl, q⟩⟩
    · exact .inl ⟨hi, hj, .one q⟩
    · refine .inr (.inl ⟨by omega, by omega, ?_⟩)
      rw [Nat.add_sub_cancel_left, Nat.add_sub_cancel_left]; exact .one q
    · refine .inr (.inr ⟨hi, by omega, a, j, q, .inl rfl, .inl ?_⟩)
      omega
  · rintro a b c (⟨h1, h2, h3⟩ | ⟨h1, h2, h3⟩ | ⟨h1, h2, i, j, d, h4, h5⟩) (⟨k1, k2, k3⟩ | ⟨k1, k2, k3⟩ | ⟨k1, k2, i', j', d', k4, k5⟩)
    · exact .inl ⟨h1, k2, h3.trans k3⟩
    · omega
    · exact .inr (.inr ⟨h1, k2, i', j', d', .inr (k4.elim (fun e => by rw [e]; exact h3) fun q => h3.trans q), k5⟩)
    · omega
    · exact .inr (.inl ⟨h1, k2, h3.trans k3⟩)
    · omega
    · omega
    · exact .inr (.inr ⟨h1, k2, i, j, d, h4, .inr (h5.elim (fun e => by rw [e]; exact k3) fun q => q.trans k3)⟩)
    · omega
theorem hidE_of {n : Nat} {F D : Nat → Nat → Prop} (hF : ∀ a b, F a b → a < n ∧ b < n) (hD : ∀ a b, D a b → a < n ∧ b < n) {a b : Nat} (h : hidS F D a b) : Plus (hidE n F D) a (n + b) := by
  obtain ⟨i, j, d, h1, h2⟩ := h
  have low : ∀ {x y : Nat}, Plus F x y → Plus (hidE n F D) x y := fun q => Plus.mono (fun x y z => ⟨x, y, (hF _ _ z).1, (hF _ _ z).2, .inl ⟨rfl, rfl, z⟩⟩) q
  have high : ∀ {x y : Nat}, Plus F x y → Plus (hidE n F D) (n + x) (n + y) := fun {x y} q => by
    induction q with
    | one z => exact .one ⟨_, _, (hF _ _ z).1, (hF _ _ z).2, .inr (.inl ⟨rfl, rfl, z⟩)⟩
    | cons z _ ih => exact .cons ⟨_, _, (hF _ _ z).1, (hF _ _ z).2, .inr (.inl ⟨rfl, rfl, z⟩)⟩ ih
  have mid : Plus (hidE n F D) i (n + j) := .one ⟨i, j, (hD _ _ d).1, (hD _ _ d).2, .inr (.inr ⟨rfl, rfl, d⟩)⟩
  have m2 : Plus (hidE n F D) a (n + j) := h1.elim (fun e => by rw [← e]; exact mid) fun q => (low q).trans mid
  exact h2.elim (fun e => by rw [← e]; exact m2) fun q => m2.trans (high q)
/-- What is filled in, up to a place. -/
def hidP (n : Nat) (To Th : List (List Bool)) (i j : Nat) (a b : Nat) : Prop := ∃ i' j', j' < n ∧ (i' < i ∨ i' = i ∧ j' < j) ∧ ((a = i' ∧ b = j' ∧ onT To i' j') ∨ (a = n + i' ∧ b = n + j' ∧ onT To i' j') ∨ (a = i' ∧ b = n + j' ∧ onT Th i' j'))
theorem hidP_succ {n : Nat} {To Th : List (List Bool)} {i j a b : Nat} (hj : j < n) : hidP n To Th i (j + 1) a b ↔ hidP n To Th i j a b ∨ ((a = i ∧ b = j ∧ onT To i j) ∨ (a = n + i ∧ b = n + j ∧ onT To i j) ∨ (a = i ∧ b = n + j ∧ onT Th i j)) := by
  constructor
  · rintro ⟨i', j', h1, h2, h3⟩
    by_cases e : i' = i ∧ j' = j
    · obtain ⟨rfl, rfl⟩ := e; exact .inr h3
    · exact .inl ⟨i', j', h1, by omega, h3⟩
  · rintro (⟨i', j', h1, h2, h3⟩ | h3)
    · exact ⟨i', j', h1, by omega, h3⟩
    · exact ⟨i, j, hj, by omega, h3⟩
theorem hidP_step {n : Nat} {To Th : List (List Bool)} {i j a b : Nat} (hi : i < n) (hj : j < n) {P : Prop} (hP : P ↔ hidP n To Th i j a b) :
    (if a = i ∧ b = n + j then decide (onT Th i j) = true else if a = n + i ∧ b = n + j then decide (onT To i j) = true else if a = i ∧ b = j then decide (onT To i j) = true else P) ↔ hidP n To Th i (j + 1) a b := by
  rw [hidP_succ hj]
  have no : (a = i ∧ b = n + j) ∨ (a = n + i ∧ b = n + j) ∨ (a = i ∧ b = j) → ¬ hidP n To Th i j a b := by
    rintro h ⟨i', j', h1, h2, h3⟩
    rcases h3 with ⟨e1, e2, _⟩ | ⟨e1, e2, _⟩ | ⟨e1, e2, _⟩ <;> omega
  split
  · rename_i e
    have := no (.inl e)
    rw [decide_eq_true_eq]
    exact ⟨fun q => .inr (.inr (.inr ⟨e.1, e.2, q⟩)), fun q => (q.resolve_left this).elim (fun z => by omega) fun z => z.elim (fun z => by omega) fun z => z.2.2⟩
  · split
    · rename_i e
      have := no (.inr (.inl e))
      rw [decide_eq_true_eq]
      exact ⟨fun q => .inr (.inr (.inl ⟨e.1, e.2, q⟩)), fun q => (q.resolve_left this).elim (fun z => by omega) fun z => z.elim (fun z => z.2.2) fun z => by omega⟩
    · split
      · rename_i e
        have := no (.inr (.inr e))
        rw [decide_eq_true_eq]
        exact ⟨fun q => .inr (.inl ⟨e.1, e.2, q⟩), fun q => (q.resolve_left this).elim (fun z => z.2.2) fun z => z.elim (fun z => by omega) fun z => by omega⟩
      · rename_i e1 e2 e3
        rw [hP]
        exact ⟨.inl, fun q => q.elim id fun z => z.elim (fun z => absurd ⟨z.1, z.2.1⟩ e3) fun z => z.elim (fun z => absurd ⟨z.1, z.2.1⟩ e2) fun z => absurd ⟨z.1, z.2.1⟩ e1⟩
def HiI (n : Nat) (B : Heap) (vo vh vt : Value) (mt : List Nat) (To Th : List (List Bool)) (m : Nat) (vs : List Value) (H : Heap) : Prop :=
  ∃ (i : Nat) (T : List (List Bool)), vs = [.int .i64 (n : Int), vo, vh, vt, .int .i64 (n : Int), .int .i64 (i : Int)] ∧ (∃ U, H = B ++ U) ∧ TabAt (2 * n) B.length H vt mt T ∧ T.length = 2 * n ∧ (∀ a b, onT T a b ↔ hidP n To Th i 0 a b) ∧ m = n - i ∧ i ≤ n
def HiJ (n : Nat) (B : Heap) (vo vh vt : Value) (mt : List Nat) (To Th : List (List Bool)) (i : Nat) (m : Nat) (vs : List Value) (H : Heap) : Prop :=
  ∃ (j : Nat) (T : List (List Bool)), vs = [.int .i64 (n : Int), vo, vh, vt, .int .i64 (i : Int), .int .i64 (n : Int), .int .i64 (i : Int), .int .i64 (n : Int), .int .i64 (j : Int)] ∧ (∃ U, H = B ++ U) ∧ TabAt (2 * n) B.length H vt mt T ∧ T.length = 2 * n ∧ (∀ a b, onT T a b ↔ hidP n To Th i j a b) ∧ m = n - j ∧ j ≤ n
def HiO (n : Nat) (B : Heap) (vt : Value) (S : Nat → Prop) (m : Nat) (vs : List Value) (H : Heap) : Prop :=
  ∃ (i : Nat) (x : Value) (g : Heap), vs = [.int .i64 (n : Int), vt, x, .int .i64 (n : Int), .int .i64 (i : Int)] ∧ H = B ++ g ∧ Acc 1 B.length H x (((setL n S).take i ++ List.replicate (n - i) false).map .bool) ∧ m = n - i ∧ i ≤ n
theorem hidden_spec {g : Gr} (ok : g.ok) {h : Heap} {Q : Value → Heap → Prop} (hq : Q (bools g.hidL) h) : acall Try.prog F_cycles_Hidden [g.enc] h Q := by
  classical
  have hnn := ok.nn
  apply W_cycles_Hidden_ok
  unfold W_cycles_Hidden
  rw [box_gr, hW_some, GAt.ld .box, oW_some]
  refine callW_plain.2 (cright_spec ok ?_)
  rw [u_not, oW_some, bW_bool]
  refine ⟨(fun q => by cases q), fun _ => ?_⟩
  refine GAt.names .box ?_
  rw [lenN, oW_some, GAt.ld .box, oW_some, oW_some]
  have ga : GAt (h ++ [grow g]) h.length g := GAt.box
  refine callW_plain.2 (firstS_spec (m := 0) ok (by omega) fun no Uo vo mo To hno tao sqo hTo => ?_)
  refine ⟨fun w hw r e => ?_, ?_⟩
  · simp only [List.mem_cons, List.not_mem_nil, or_false] at hw
    rcases hw with rfl | rfl <;> simp [ptrId] at e <;> subst e <;> rw [List.getElem?_append_left (by simp)]
  refine callW_plain.2 (firstS_spec (m := 1) ok (by omega) fun nh Uh vh mh Th hnh tah sqh hTh => ?_)
  refine ⟨fun w hw r e => ?_, ?_⟩
  · simp only [List.mem_cons, List.not_mem_nil, or_false] at hw
    rcases hw with rfl | rfl <;> simp [ptrId] at e <;> subst e <;> rw [List.getElem?_append_left (by simp)]
  show oW (binN .mul (.int .i64 2) (.int .i64 (g.n : Int))) _
  have em : binN .mul (.int .i64 2) (.int .i64 (g.n : Int)) = some (.int .i64 ((2 * g.n : Nat) : Int)) := by
    rw [n_mul (by omega)]; congr 2
  rw [em, oW_some]
  refine callW_plain.2 (blank_spec (n := 2 * g.n) (by omega) fun Ut vt mt tat => ?_)
  have tao' : TabAt g.n no (h ++ [grow g] ++ Uo ++ Uh) vo mo To := tao.app
  have eB : ∃ X, h ++ [grow g] ++ Uo ++ Uh = h ++ X := ⟨[grow g] ++ (Uo ++ Uh), by simp⟩
  clear tao
  generalize h ++ [grow g] ++ Uo ++ Uh = B at *
  refine ⟨HiI g.n B vo vh vt mt To Th, g.n, gcL_same ⟨0, _, rfl, ⟨Ut, rfl⟩, tat, by simp, fun a b => ⟨fun q => absurd q not_blank, fun ⟨i', j', _, q, _⟩ => by omega⟩, by omega, by omega⟩, ?_⟩
  clear tat
  rintro k22 x23 x24 x25 x26 x27 x28 h29 ⟨i, T, hv, hU, ta, sq, hT, hk, hi⟩
  simp only [List.cons.injEq, and_true] at hv
  obtain ⟨rfl, rfl, rfl, rfl, rfl, rfl⟩ := hv
  rw [n_lss, oW_some, bW_dec]
  constructor
  · intro hlt
    have hi' : i < g.n := by omega
    refine ⟨HiJ g.n B x24 x25 x26 mt To Th i, g.n, gcL_same ⟨0, T, rfl, hU, ta, sq, hT, by omega, by omega⟩, ?_⟩
    clear ta sq hT hU
    rintro k34 x35 x36 x37 x38 x39 x40 x41 x42 x43 h44 ⟨j, T, hv, hU, ta, sq, hT, hk2, hj⟩
    simp only [List.cons.injEq, and_true] at hv
    obtain ⟨rfl, rfl, rfl, rfl, rfl, rfl, rfl, rfl, rfl⟩ := hv
    rw [n_lss, oW_some, bW_dec]
    constructor
    · intro hlt2
      have hj' : j < g.n := by omega
      obtain ⟨U, rfl⟩ := hU
      have mtl := ta.len
      have mol := tao'.len
      have mhl := tah.len
      refine ta.get (x := (i : Int)) (by unfold inR; omega) fun p => ?_
      simp only [Int.toNat_natCast]
      refine tao'.app.get (x := (i : Int)) (by unfold inR; omega) fun p => ?_
      simp only [Int.toNat_natCast]
      refine tao'.app.cell (by omega) (t := (j : Int)) (by unfold inR; omega) ?_
      simp only [Int.toNat_natCast]
      refine ta.put (by omega) (t := (j : Int)) (by unfold inR; omega) fun H1 T1 ta1 l1 on1 low1 len1 => ?_
      simp only [Int.toNat_natCast] at on1
      obtain ⟨U1, rfl⟩ := ext_low (B := B) ⟨U, rfl⟩ low1 (Nat.le_refl _) len1
      rw [n_add (by omega), oW_some, show (g.n : Int) + (i : Int) = ((g.n + i : Nat) : Int) by omega]
      refine ta1.get (x := ((g.n + i : Nat) : Int)) (by unfold inR; omega) fun p => ?_
      simp only [Int.toNat_natCast]
      rw [n_add (by omega), oW_some, show (g.n : Int) + (j : Int) = ((g.n + j : Nat) : Int) by omega]
      refine tao'.app.get (x := (i : Int)) (by unfold inR; omega) fun p => ?_
      simp only [Int.toNat_natCast]
      refine tao'.app.cell (by omega) (t := (j : Int)) (by unfold inR; omega) ?_
      simp only [Int.toNat_natCast]
      refine ta1.put (by omega) (t := ((g.n + j : Nat) : Int)) (by unfold inR; omega) fun H2 T2 ta2 l2 on2 low2 len2 => ?_
      simp only [Int.toNat_natCast] at on2
      obtain ⟨U2, rfl⟩ := ext_low (B := B) ⟨U1, rfl⟩ low2 (Nat.le_refl _) len2
      refine ta2.get (x := (i : Int)) (by unfold inR; omega) fun p => ?_
      simp only [Int.toNat_natCast]
      rw [oW_some]
      refine tah.app.get (x := (i : Int)) (by unfold inR; omega) fun p => ?_
      simp only [Int.toNat_natCast]
      refine tah.app.cell (by omega) (t := (j : Int)) (by unfold inR; omega) ?_
      simp only [Int.toNat_natCast]
      refine ta2.put (by omega) (t := ((g.n + j : Nat) : Int)) (by unfold inR; omega) fun H3 T3 ta3 l3 on3 low3 len3 => ?_
      simp only [Int.toNat_natCast] at on3
      rw [n_add (by omega), oW_some]
      refine ⟨g.n - (j + 1), by omega, gcL_same ⟨j + 1, T3, rfl, ext_low ⟨U2, rfl⟩ low3 (Nat.le_refl _) len3, ta3, by omega, fun a b => ?_, rfl, by omega⟩⟩
      rw [on3, on2, on1]
      exact hidP_step hi' hj' (hT a b)
    · intro hge
      rw [n_add (by omega), oW_some]
      refine ⟨g.n - (i + 1), by omega, gcL_same ⟨i + 1, T, rfl, hU, ta, sq, fun a b => ?_, rfl, by omega⟩⟩
      rw [hT]
      constructor
      · rintro ⟨i', j', h1, h2, h3⟩; exact ⟨i', j', h1, by omega, h3⟩
      · rintro ⟨i', j', h1, h2, h3⟩; exact ⟨i', j', h1, by omega, h3⟩
  intro hge
  have hie : i = g.n := by omega
  subst hie
  obtain ⟨U, rfl⟩ := hU
  refine callW_plain.2 (closeT_spec ta sq (by omega) fun H' T' ta' sq' hT' low len => ?_)
  obtain ⟨U', rfl⟩ := ext_low (B := B) ⟨U, rfl⟩ low (Nat.le_refl _) len
  refine ⟨_, _, by
    simp only [mksW]
    rw [if_pos (by omega)], ?_⟩
  simp only [Int.toNat_natCast]
  have hrel : ∀ a b, onT T a b ↔ hidE g.n (g.ahead 0) (g.ahead 1) a b := fun a b => by
    rw [hT]
    constructor
    · rintro ⟨i', j', h1, h2, h3⟩
      exact ⟨i', j', by omega, h1, by rwa [hTo, hTh] at h3⟩
    · rintro ⟨i', j', h1, h2, h3⟩
      exact ⟨i', j', h2, by omega, by rwa [hTo, hTh]⟩
  have hfin : ∀ i, i < g.n → (onT T' i (g.n + i) ↔ g.hid i) := fun i hi2 => by
    rw [hT', show Plus (onT T) i (g.n + i) ↔ Plus (hidE g.n (g.ahead 0) (g.ahead 1)) i (g.n + i) from ⟨Plus.mono fun a b q => (hrel a b).1 q, Plus.mono fun a b q => (hrel a b).2 q⟩]
    constructor
    · intro q
      rcases hidE_plus q with z | z | z
      · omega
      · omega
      · rw [Nat.add_sub_cancel_left] at z; exact z.2.2
    · exact fun q => hidE_of (fun a b => stepR_lt ok) (fun a b => stepR_lt ok) q
  clear hT hT' hrel
  have eB2 : ∃ X, B ++ U' = h ++ X := by obtain ⟨X, rfl⟩ := eB; exact ⟨_, List.append_assoc ..⟩
  generalize B ++ U' = B2 at *
  rw [repA_one, show lenS (.slice (some ⟨B2.length, 0, none⟩) g.n g.n) = some (.int .i64 (g.n : Int)) by simp, oW_some]
  refine ⟨HiO g.n B2 x26 g.hid, g.n, gcL_same ⟨0, _, [.row (List.replicate g.n (.bool false)) .exact], rfl, rfl, ?_, rfl, by omega⟩, ?_⟩
  · have := Acc.made (sz := 1) (n := B2.length) (H := B2) (l := (List.replicate g.n false).map Value.bool) bool_len1 (Nat.le_refl _)
    have fl : ((List.replicate g.n false).map Value.bool).flatMap cellsOf = (List.replicate g.n false).map Value.bool := flat_one fun e he => by
      obtain ⟨b, _, rfl⟩ := List.mem_map.1 he; rfl
    rw [fl] at this
    simpa using this
  rintro k83 x84 x85 x86 x87 x88 h89 ⟨i, x, gg, hv, rfl, acc, hk3, hi3⟩
  simp only [List.cons.injEq, and_true] at hv
  obtain ⟨rfl, rfl, rfl, rfl, rfl⟩ := hv
  rw [n_lss, oW_some, bW_dec]
  constructor
  · intro hlt
    have hi' : i < g.n := by omega
    have hml := ta'.len
    refine ta'.app.get (x := (i : Int)) (by unfold inR; omega) fun p => ?_
    simp only [Int.toNat_natCast]
    rw [n_add (by omega), oW_some, show (g.n : Int) + (i : Int) = ((g.n + i : Nat) : Int) by omega]
    refine ta'.app.cell (by omega) (t := ((g.n + i : Nat) : Int)) (by unfold inR; omega) ?_
    simp only [Int.toNat_natCast]
    have hle : ((setL g.n g.hid).take i).length = i := by simp; omega
    refine Acc.set rfl acc (by omega) bool_len1 (e := .bool (decide (onT T' i (g.n + i)))) rfl rfl rfl (by simp; omega) fun g' a2 _ => ?_
    rw [n_add (by omega), oW_some]
    refine ⟨g.n - (i + 1), by omega, gcL_same ⟨i + 1, x86, g', rfl, rfl, ?_, rfl, by omega⟩⟩
    have e : (((setL g.n g.hid).take i ++ List.replicate (g.n - i) false).map Value.bool).set i (.bool (decide (onT T' i (g.n + i)))) = ((setL g.n g.hid).take (i + 1) ++ List.replicate (g.n - (i + 1)) false).map .bool := by
      rw [← List.map_set, setL_take hi', List.set_append_right _ _ (by omega), hle, Nat.sub_self, show g.n - i = (g.n - (i + 1)) + 1 by omega, List.replicate_succ, List.set_cons_zero, List.append_assoc]
      have : decide (onT T' i (g.n + i)) = decide (g.hid i) := decide_eq_decide.2 (hfin i hi')
      rw [this]; rfl
    rw [e] at a2; exact a2
  · intro hge2
    have hie : i = g.n := by omega
    subst hie
    rw [Nat.sub_self, List.replicate_zero, List.append_nil, List.take_of_length_le (by simp)] at acc
    exact Acc.done rfl eB2 acc (by omega) bool_len1 bool_cl1 hq
end Go.Ax

