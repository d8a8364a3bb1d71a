/- Cycles: tables, Make. -/
import Derived.Test.YthhknneomcleoaaU1
namespace Go.Ax
open Go Go.Proofs Go.RowKit

def onT (T : List (List Bool)) (s t : Nat) : Prop := onL (T.getD s []) t
instance (T : List (List Bool)) (s t : Nat) : Decidable (onT T s t) := by unfold onT; infer_instance
theorem onT_iff {T : List (List Bool)} {s t : Nat} (h : s < T.length) : onT T s t ↔ onL T[s] t := by unfold onT; rw [List.getD_eq_getElem?_getD, List.getElem?_eq_getElem h]; rfl
theorem onT_lt {T : List (List Bool)} {s t : Nat} (h : onT T s t) : s < T.length := by
  apply Classical.byContradiction
  intro hn
  unfold onT at h
  rw [List.getD_eq_getElem?_getD, List.getElem?_eq_none (by omega)] at h
  have := on_lt h
  simp at this
abbrev rowV (c j : Nat) : Value := .slice (some ⟨j, 0, none⟩) c c

/-- A table of bools: a row of rows, all of one length. -/
structure TabAt (c n0 : Nat) (H : Heap) (v : Value) (ms : List Nat) (T : List (List Bool)) : Prop where
  acc : Acc 1 n0 H v (ms.map (rowV c))
  len : ms.length = T.length
  nd : ms.Nodup
  ge : ∀ j ∈ ms, n0 ≤ j ∧ ¬ lies v j
  row : ∀ i (p : i < ms.length) (q : i < T.length), getRow H ms[i] = some (T[i].map .bool, .exact)
  wid : ∀ r ∈ T, r.length = c
theorem rowV_len {c : Nat} {l : List Nat} : ∀ x ∈ l.map (rowV c), (cellsOf x).length = 1 := fun x hx => by
  obtain ⟨n, _, rfl⟩ := List.mem_map.1 hx; rfl
theorem rowV_flat {c : Nat} {ms : List Nat} : (ms.map (rowV c)).flatMap cellsOf = ms.map (rowV c) := flat_one fun e he => by obtain ⟨n, _, rfl⟩ := List.mem_map.1 he; rfl
theorem TabAt.nil {c n0 : Nat} {H : Heap} : TabAt c n0 H (.slice none 0 0) [] [] := ⟨Acc.nil, rfl, .nil, by simp, by simp, by simp⟩
section
variable {c n0 : Nat} {H : Heap} {v : Value} {ms : List Nat} {T : List (List Bool)} (a : TabAt c n0 H v ms T)
include a
theorem TabAt.app {t : Heap} : TabAt c n0 (H ++ t) v ms T := ⟨a.acc.app, a.len, a.nd, a.ge, fun i p q => getRow_app (a.row i p q), a.wid⟩
theorem TabAt.congr {H' : Heap} (e : ∀ j, n0 ≤ j → j < H.length → H'[j]? = H[j]?) : TabAt c n0 H' v ms T :=
  ⟨a.acc.congr fun j hj => e j (a.acc.ge hj) (a.acc.lt hj), a.len, a.nd, a.ge, fun i p q => by
    have h := a.row i p q
    rw [getRow_same (e _ (a.ge _ (List.getElem_mem p)).1 (getRow_lt h))]; exact h, a.wid⟩
/-- A row is loaded. -/
theorem TabAt.get {x : Int} (hx : inR T.length x) {K : Value → Value → Prop} (k : ∀ p, K p (rowV c (ms[x.toNat]'(by rw [a.len]; unfold inR at hx; omega)))) : oW (iaS 1 v (.int .i64 x)) fun p => oW (ldW false 1 H p) fun w => K p w := by
  unfold inR at hx
  have hl : x.toNat < ms.length := by rw [a.len]; omega
  rcases a.acc with ⟨rfl, e⟩ | ⟨q, cap, cc, m, h1, rfl, h3, h4, h5, h6, h7⟩
  · have := congrArg List.length e; simp at this; subst this; simp at hl
  · rw [iaS_slice' hx.1 (by rw [List.length_map, a.len]; exact hx.2), oW_some]
    refine ⟨rowV c ms[x.toNat], ?_, k _⟩
    rw [ldW_one, h3, Option.bind_some]
    rw [rowV_flat] at h7
    simp only [List.length_map, Nat.mul_one] at h7
    have := get_take h7 hl
    rw [Nat.zero_add, Nat.mul_one, this]
    simp [hl]
/-- A cell is loaded. -/
theorem TabAt.cell {i : Nat} (p : i < ms.length) {t : Int} (ht : inR c t) {K : Value → Prop} (k : K (.bool (decide (onT T i t.toNat)))) : oW (iaS 1 (rowV c ms[i]) (.int .i64 t)) fun q => oW (ldW false 1 H q) K := by
  unfold inR at ht
  have q : i < T.length := by rw [← a.len]; exact p
  have hw := a.wid _ (List.getElem_mem q)
  have hl : t.toNat < T[i].length := by omega
  rw [iaS_slice' ht.1 ht.2, oW_some]
  refine ⟨.bool T[i][t.toNat], by rw [ldW_one, a.row i p q, Option.bind_some, Nat.zero_add, Nat.mul_one, List.getElem?_map, List.getElem?_eq_getElem hl]; rfl, ?_⟩
  have : decide (onT T i t.toNat) = T[i][t.toNat] := by rw [Bool.eq_iff_iff, decide_eq_true_eq, onT_iff q, on_iff hl]
  rwa [this] at k
/-- A cell is stored. -/
theorem TabAt.put {i : Nat} (p : i < ms.length) {t : Int} (ht : inR c t) {b : Bool} {K : Heap → Prop}
    (k : ∀ H' T', TabAt c n0 H' v ms T' → T'.length = T.length → (∀ s u, onT T' s u ↔ if s = i ∧ u = t.toNat then b = true else onT T s u) → (∀ j, j < n0 → H'[j]? = H[j]?) → H'.length = H.length → K H') :
    oW (iaS 1 (rowV c ms[i]) (.int .i64 t)) fun q => sW (stW 1 H q (.bool b)) K := by
  unfold inR at ht
  have q : i < T.length := by rw [← a.len]; exact p
  have hw := a.wid _ (List.getElem_mem q)
  have hl : t.toNat < T[i].length := by omega
  have hr := a.row i p q
  have hge := a.ge _ (List.getElem_mem p)
  rw [iaS_slice' ht.1 ht.2, oW_some, st1 hr (by simp) rfl rfl rfl (by simp; omega), sW_some]
  have hon : ∀ u, onL (T[i].set t.toNat b) u ↔ if u = t.toNat then b = true else onL T[i] u := fun u => by
    unfold onL
    rw [List.getD_eq_getElem?_getD, List.getD_eq_getElem?_getD, List.getElem?_set]
    by_cases e : t.toNat = u
    · subst e; simp [hl]
    · rw [if_neg e, if_neg (Ne.symm e)]
  refine k _ (T.set i (T[i].set t.toNat b)) ⟨a.acc.congr fun j hj => ?_, by simp [a.len], a.nd, a.ge, fun j pj qj => ?_, fun r hr2 => ?_⟩ (by simp) (fun s u => ?_) (fun j hj => ?_) (by simp)
  · rw [List.getElem?_set_ne fun e => hge.2 (by rw [e]; exact hj)]
  · by_cases e : j = i
    · subst e
      rw [List.getElem_set_self, getRow_set hr]
      simp [List.map_set]
    · have qj' : j < T.length := by simpa using qj
      rw [List.getElem_set_ne (Ne.symm e), getRow_same (List.getElem?_set_ne fun z => e ((List.getElem_inj a.nd).1 z).symm)]
      exact a.row j pj qj'
  · rcases List.mem_or_eq_of_mem_set hr2 with z | rfl
    · exact a.wid r z
    · rw [List.length_set]; exact hw
  · by_cases e : s = i
    · subst e
      rw [onT_iff (by simpa using q), List.getElem_set_self, hon, onT_iff q]
      by_cases eu : u = t.toNat <;> simp [eu]
    · unfold onT
      rw [List.getD_eq_getElem?_getD, List.getElem?_set_ne (Ne.symm e), ← List.getD_eq_getElem?_getD]
      simp [e]
  · rw [List.getElem?_set_ne (by omega)]
end
/-- One row more. -/
theorem TabAt.push {c n0 : Nat} {B g : Heap} {v : Value} {ms : List Nat} {T : List (List Bool)} (hB : B.length = n0) (a : TabAt c n0 (B ++ g) v ms T) {j : Nat} {r : List Bool} (hr : getRow (B ++ g) j = some (r.map .bool, .exact)) (hw : r.length = c) (hj : n0 ≤ j) (hnew : j ∉ ms) (hnl : ¬ lies v j) (hbig : T.length ≤ 1000000)
    {K : Value → Heap → Prop} (k : ∀ v' g', TabAt c n0 (B ++ g') v' (ms ++ [j]) (T ++ [r]) → K v' (B ++ g')) :
    hW (bslW (B ++ g) 1 [(.slice none 0 0)] [(0, 1, rowV c j)]) fun v1 h1 => hW (apW 1 24 h1 v v1) K := by
  have hl := a.len
  refine Acc.push hB a.acc (by omega) rowV_len (e := rowV c j) rfl rfl rfl rfl (by simp; omega) (by simp; omega) fun v' g' a2 q1 q2 q3 => k v' g' ?_
  have keep : ∀ q cc, ¬ lies v q → getRow (B ++ g) q = some cc → getRow (B ++ g') q = some cc := fun q cc hq he => by
    rw [getRow_same (q1 q (getRow_lt he) hq)]; exact he
  refine ⟨by rw [List.map_append]; exact a2, by simp [hl], ?_, fun q hq => ?_, fun i p q => ?_, fun x hx => ?_⟩
  · rw [List.nodup_append]
    exact ⟨a.nd, by simp, fun x hx y hy e => hnew (by rw [List.mem_singleton.1 hy] at e; rw [← e]; exact hx)⟩
  · rcases List.mem_append.1 hq with z | z
    · refine ⟨(a.ge q z).1, fun w => ?_⟩
      rcases q2 q w with w | w
      · exact (a.ge q z).2 w
      · obtain ⟨i, hi, rfl⟩ := List.mem_iff_getElem.1 z
        have := getRow_lt (a.row i hi (by rw [← hl]; exact hi))
        omega
    · have := List.mem_singleton.1 z
      subst this
      refine ⟨hj, fun w => ?_⟩
      rcases q2 q w with w | w
      · exact hnl w
      · have := getRow_lt hr
        omega
  · by_cases hi : i < ms.length
    · rw [List.getElem_append_left hi, List.getElem_append_left (by omega)]
      exact keep _ _ (a.ge _ (List.getElem_mem hi)).2 (a.row i hi (by omega))
    · have hie : i = ms.length := by simp at p; omega
      subst hie
      rw [List.getElem_append_right (by omega), List.getElem_append_right (by omega)]
      simp only [hl, Nat.sub_self, List.getElem_singleton]
      exact keep _ _ hnl hr
  · rcases List.mem_append.1 hx with z | z
    · exact a.wid x z
    · rw [List.mem_singleton.1 z]; exact hw
/-- A new row, all false. -/
theorem mks_row {H : Heap} {n : Nat} (hn : n ≤ 1000000) {K : Value → Heap → Prop} (k : K (rowV n H.length) (H ++ [brow (List.replicate n false)])) :
    hW (mksW [.bool false] 1 H (.int .i64 (n : Int)) (.int .i64 (n : Int))) K := by
  have hrep : repA [Value.bool false] n = (List.replicate n false).map fun x => Value.bool x := by rw [repA_one, List.map_replicate]
  refine ⟨_, _, by
    simp only [mksW]
    rw [if_pos (by omega)], ?_⟩
  simp only [Int.toNat_natCast]
  rw [hrep]
  exact k
/-- A table that is frozen with all else. -/
theorem TabAt.gv {c n0 : Nat} {h0 H : Heap} {v : Value} {ms : List Nat} {T : List (List Bool)} (hn : h0.length ≤ n0) (a : TabAt c n0 H v ms T) : Gv (frOf h0.length []) (rOf h0.length []) H (lit (T.map bools)) v := by
  have hl := a.len
  have hge := a.ge
  have hrow := a.row
  have hwid := a.wid
  have hacc := a.acc
  rcases hacc with ⟨rfl, e⟩ | ⟨q, cap, cc, m, h1, rfl, h3, h4, h5, h6, h7⟩
  · have : T = [] := by
      have := congrArg List.length e
      simp at this
      subst this
      exact List.eq_nil_of_length_eq_zero hl.symm
    subst this
    exact .lit0 _ _
  · rw [rowV_flat] at h7
    simp only [List.length_map, Nat.mul_one] at h7 h6 h5 ⊢
    have hfr : ∀ j, n0 ≤ j → frOf h0.length [] j := fun j hj => ⟨by omega, by simp⟩
    have := Gv.frzS (fr := frOf h0.length []) (r := rOf h0.length []) (h := H) (T.map bools).toArray q 0 1 cap cc m (hfr q h1) (getRow_eq h3) (by omega) (fun k p => by simp) (by simp; omega) fun k j p p2 p3 => ?_
    · simpa [hl] using this
    · have hk : k < T.length := by simpa using p
      have hkm : k < ms.length := by omega
      have hj0 : j = 0 := by simp at p2; exact p2
      subst hj0
      have hc : cc[0 + (k * 1 + 0)] = rowV c ms[k] := by
        have h8 := get_take h7 hkm
        rw [List.getElem?_map, List.getElem?_eq_getElem hkm] at h8
        have h9 := List.getElem?_eq_getElem p3
        have e0 : 0 + (k * 1 + 0) = k := by omega
        have h10 : cc[0 + (k * 1 + 0)]? = some (rowV c ms[k]) := by rw [e0]; exact h8
        exact Option.some.inj (h9.symm.trans h10)
      rw [hc]
      have e2 : (cellsOf (T.map bools).toArray[k])[0]'p2 = bools T[k] := by simp
      rw [e2]
      have hw := hwid _ (List.getElem_mem hk)
      exact Gv.frz1 (fr := frOf h0.length []) (r := rOf h0.length []) (h := H) (es := T[k].map .bool) (i := ms[k]) (cap := c) (len := c) (m := .exact) (hfr _ (hge _ (List.getElem_mem hkm)).1) (getRow_eq (hrow k hkm hk)) (by simp [hw]) (fun e he => by obtain ⟨b, _, rfl⟩ := List.mem_map.1 he; exact ⟨rfl, .bool _⟩)
/-- At the end of a call: frozen. -/
theorem TabAt.done {c n0 : Nat} {h0 B g : Heap} {v : Value} {ms : List Nat} {T : List (List Bool)} {Q : Value → Heap → Prop} (hB : B.length = n0) (hB0 : ∃ t, B = h0 ++ t) (a : TabAt c n0 (B ++ g) v ms T) (hq : Q (lit (T.map bools)) h0) : gcV h0 Q v (B ++ g) := by
  obtain ⟨t, rfl⟩ := hB0
  have hn : h0.length ≤ n0 := by rw [← hB]; simp
  have := a.gv hn
  rw [List.append_assoc] at this ⊢
  exact gcV_end this hq
theorem boolsT_len {T : List (List Bool)} : ∀ x ∈ T.map bools, (cellsOf x).length = 1 := fun x hx => by
  obtain ⟨n, _, rfl⟩ := List.mem_map.1 hx; rfl
theorem cl_tab {T : List (List Bool)} : Cl (lit (T.map bools)) := Cl.lit' fun e he x hx => by
  obtain ⟨n, _, rfl⟩ := List.mem_map.1 he
  simp at hx; subst hx; exact cl_bl
/-- A frozen table's row. -/
theorem ix_tab {T : List (List Bool)} {i : Nat} {h : Heap} {K : Value → Prop} (hi : i < T.length) (k : K (bools T[i])) : oW (iaS 1 (lit (T.map bools)) (.int .i64 (i : Int))) fun v => oW (ldW false 1 h v) K :=
  ix_lit hi rfl (by rw [cellsOf_func, ld_plit1, oW_some]; exact k)

/-- The reference's rising. -/
theorem refRising_spec {c : List Bool} {h : Heap} {Q : Value → Heap → Prop} (hc : c.length ≤ 1000000000) (hq : Q (ints (marked c c.length)) h) : acall Try.prog F_homographref17_rising [bools c] h Q := by
  apply W_homographref17_rising_ok
  refine ⟨fun k vs H => ∃ (i : Nat) (v : Value) (g : Heap), vs = [bools c, v, .int .i64 (i : Int)] ∧ H = h ++ g ∧ k = c.length - i ∧ i ≤ c.length ∧ Acc 1 h.length H v ((marked c i).map fun x => .int .i64 x), c.length, gcL_same ⟨0, _, [], rfl, by simp, by omega, by omega, Acc.nil⟩, ?_⟩
  rintro k x5 x6 x7 H ⟨i, v, g, hv, rfl, hk, hi, ac⟩
  simp only [List.cons.injEq, and_true] at hv
  obtain ⟨rfl, rfl, rfl⟩ := hv
  rw [lenB, oW_some, n_lss, oW_some, bW_dec]
  have hml := marked_len c i
  constructor
  · intro hlt
    have hlt' : i < c.length := by omega
    refine ix_bools hlt' ?_
    have hms := marked_succ c i
    have hg : c.getD i false = c[i] := by simp [hlt']
    rw [hg] at hms
    rw [bW_bool]
    constructor
    · intro hp
      refine Acc.push rfl ac (by omega) int_len rfl rfl rfl rfl (by simp; omega) (by simp; omega) fun v' g' a2 _ _ _ => ?_
      rw [n_add (by omega), oW_some]
      exact ⟨c.length - (i + 1), by omega, gcL_same ⟨i + 1, v', g', by simp, rfl, rfl, by omega, by rw [hms, if_pos hp, List.map_append]; exact a2⟩⟩
    · intro hp
      rw [n_add (by omega), oW_some]
      exact ⟨c.length - (i + 1), by omega, gcL_same ⟨i + 1, x6, g, by simp, rfl, rfl, by omega, by rw [hms, if_neg (by simp [hp])]; exact ac⟩⟩
  · intro hge
    have : i = c.length := by omega
    subst this
    exact ac.done rfl ⟨[], by simp⟩ (by omega) int_len int_cl hq
theorem marked_setL {n : Nat} {S : Nat → Prop} : marked (setL n S) n = riseL n S := eq_riseL (marked_sorted _ _) fun x => by
  rw [mem_marked]
  constructor
  · rintro ⟨h1, h2⟩; exact ⟨h1, (setL_on.1 h2).2⟩
  · rintro ⟨h1, h2⟩
    refine ⟨h1, setL_on.2 ⟨?_, h2⟩⟩
    unfold inR at h1; omega

end Go.Ax

namespace Go.Ax
open Go Go.Proofs Go.RowKit

theorem cl_rows {l : List (List Int)} : Cl (lit (l.map ints)) := Cl.lit' fun e he x hx => by
  obtain ⟨b, _, rfl⟩ := List.mem_map.1 he
  simp at hx; subst hx; exact cl_il
/-- Rows of ints, each a slice of its own. -/
structure RowsAt (n0 : Nat) (H : Heap) (v : Value) (vals : List Value) (rows : List (List Int)) : Prop where
  acc : Acc 1 n0 H v vals
  len : vals.length = rows.length
  row : ∀ i (p : i < vals.length) (q : i < rows.length), Acc 1 n0 H vals[i] (rows[i].map fun x => .int .i64 x)
  sep : ∀ i (p : i < vals.length) j, lies vals[i] j → ¬ lies v j
theorem acc_cell {sz n : Nat} {H : Heap} {v : Value} {l : List Value} (a : Acc sz n H v l) : okVal v = true ∧ cellsOf v = [v] ∧ okCell v = true := by
  rcases a with ⟨rfl, _⟩ | ⟨q, cap, c, m, _, rfl, _⟩ <;> exact ⟨rfl, rfl, rfl⟩
theorem RowsAt.cells {n0 : Nat} {H : Heap} {v : Value} {vals : List Value} {rows : List (List Int)} (a : RowsAt n0 H v vals rows) : ∀ x ∈ vals, (cellsOf x).length = 1 := fun x hx => by
  obtain ⟨i, hi, rfl⟩ := List.mem_iff_getElem.1 hx
  rw [(acc_cell (a.row i hi (by rw [← a.len]; exact hi))).2.1]; rfl
theorem RowsAt.congr {n0 : Nat} {H H' : Heap} {v : Value} {vals : List Value} {rows : List (List Int)} (a : RowsAt n0 H v vals rows) (e : ∀ j, (lies v j ∨ ∃ x ∈ vals, lies x j) → H'[j]? = H[j]?) : RowsAt n0 H' v vals rows :=
  ⟨a.acc.congr fun j hj => e j (.inl hj), a.len, fun i p q => (a.row i p q).congr fun j hj => e j (.inr ⟨_, List.getElem_mem p, hj⟩), a.sep⟩
/-- One row more. -/
theorem RowsAt.push {n0 : Nat} {B g : Heap} {v : Value} {vals : List Value} {rows : List (List Int)} (hB : B.length = n0) (a : RowsAt n0 (B ++ g) v vals rows) {x : Value} {r : List Int} (ax : Acc 1 n0 (B ++ g) x (r.map fun x => .int .i64 x)) (hx : ∀ j, lies x j → ¬ lies v j) (hb : rows.length ≤ 1000000) {K : Value → Heap → Prop}
    (k : ∀ v' g', RowsAt n0 (B ++ g') v' (vals ++ [x]) (rows ++ [r]) → K v' (B ++ g')) : hW (bslW (B ++ g) 1 [(.slice none 0 0)] [(0, 1, x)]) fun v1 h1 => hW (apW 1 24 h1 v v1) K := by
  have hl := a.len
  obtain ⟨c1, c2, c3⟩ := acc_cell ax
  refine Acc.push hB a.acc (by omega) a.cells (e := x) (by rw [c2]; rfl) c1 (by rw [c2]; simp [c3]) rfl (by omega) (by omega) fun v' g' a2 q1 q2 q3 => k v' g' ?_
  have keep : ∀ {y : Value} {l : List Value}, Acc 1 n0 (B ++ g) y l → (∀ j, lies y j → ¬ lies v j) → Acc 1 n0 (B ++ g') y l := fun ay hy => ay.congr fun j hj => q1 j (ay.lt hj) (hy j hj)
  refine ⟨a2, by simp [hl], fun i p q => ?_, fun i p j hj hv => ?_⟩
  · by_cases hi : i < vals.length
    · rw [List.getElem_append_left hi, List.getElem_append_left (by omega)]
      exact keep (a.row i hi (by omega)) fun j hj => a.sep i hi j hj
    · have hie : i = vals.length := by simp at p; omega
      subst hie
      rw [List.getElem_append_right (by omega), List.getElem_append_right (by omega)]
      simp only [hl, Nat.sub_self, List.getElem_singleton]
      exact keep ax hx
  · by_cases hi : i < vals.length
    · rw [List.getElem_append_left hi] at hj
      rcases q2 j hv with w | w
      · exact a.sep i hi j hj w
      · have := (a.row i hi (by omega)).lt hj
        omega
    · have hie : i = vals.length := by simp at p; omega
      subst hie
      rw [List.getElem_append_right (by omega)] at hj
      simp only [Nat.sub_self, List.getElem_singleton] at hj
      rcases q2 j hv with w | w
      · exact hx j hj w
      · have := ax.lt hj
        omega
/-- Frozen with all else. -/
theorem RowsAt.gv {n0 : Nat} {h0 H : Heap} {v : Value} {vals : List Value} {rows : List (List Int)} (hn : h0.length ≤ n0) (a : RowsAt n0 H v vals rows) : Gv (frOf h0.length []) (rOf h0.length []) H (lit (rows.map ints)) v := by
  have hl := a.len
  have hfr : ∀ j, n0 ≤ j → frOf h0.length [] j := fun j hj => ⟨by omega, by simp⟩
  have hfl : vals.flatMap cellsOf = vals := flat_one fun e he => by
    obtain ⟨i, hi, rfl⟩ := List.mem_iff_getElem.1 he
    exact (acc_cell (a.row i hi (by omega))).2.1
  rcases a.acc with ⟨rfl, e⟩ | ⟨q, cap, cc, m, h1, rfl, h3, h4, h5, h6, h7⟩
  · have : rows = [] := List.eq_nil_of_length_eq_zero (by rw [← hl, e]; rfl)
    subst this
    exact .lit0 _ _
  · rw [hfl] at h7
    simp only [Nat.mul_one] at h7 h5
    have := Gv.frzS (fr := frOf h0.length []) (r := rOf h0.length []) (h := H) (rows.map ints).toArray q 0 1 cap cc m (hfr q h1) (getRow_eq h3) (by omega) (fun k p => by simp) (by simp; omega) fun k j p p2 p3 => ?_
    · simpa [hl] using this
    · have hk : k < rows.length := by simpa using p
      have hkm : k < vals.length := by omega
      have hj0 : j = 0 := by simp at p2; exact p2
      subst hj0
      have hc : cc[0 + (k * 1 + 0)] = vals[k] := by
        have h8 := get_take h7 hkm
        rw [List.getElem?_eq_getElem hkm] at h8
        have h9 := List.getElem?_eq_getElem p3
        have e0 : 0 + (k * 1 + 0) = k := by omega
        have h10 : cc[0 + (k * 1 + 0)]? = some vals[k] := by rw [e0]; exact h8
        exact Option.some.inj (h9.symm.trans h10)
      rw [hc]
      have e2 : (cellsOf (rows.map ints).toArray[k])[0]'p2 = ints rows[k] := by simp
      rw [e2]
      have ar := a.row k hkm hk
      exact ar.gv (fun i hi => hfr i (ar.ge hi)) (by omega) int_len int_cl

/-! What Make makes. -/
def mkRowS (bs : List Nat) (n : Nat) (st : Nat × List Int) : Nat × List Int := if st.1 < bs.length then (st.1 + 1, st.2 ++ [((bs[st.1]! % (2 + n) : Nat) : Int)]) else (st.1, st.2 ++ [0])
def mkAt (bs : List Nat) (a : Nat) : Nat := if a < bs.length then a + 1 else a
def mkLong (bs : List Nat) (a : Nat) : Nat := if a < bs.length then bs[a]! % 4 else 1
def mkCnt (bs : List Nat) (a : Nat) : Nat := if a < bs.length then 1 + bs[a]! % 3 else 1
def mkRule (bs : List Nat) (n s : Nat) (st : Nat × List (List Int)) : Nat × List (List Int) :=
  ((itr (mkRowS bs n) (mkLong bs st.1) (mkAt bs st.1, [((2 + s : Nat) : Int)])).1, st.2 ++ [(itr (mkRowS bs n) (mkLong bs st.1) (mkAt bs st.1, [((2 + s : Nat) : Int)])).2])
def mkSym (bs : List Nat) (n : Nat) (st : Nat × List (List Int)) (s : Nat) : Nat × List (List Int) := itr (mkRule bs n s) (mkCnt bs st.1) (mkAt bs st.1, st.2)
def mkN (bs : List Nat) : Nat := mkCnt bs 0
def mkAll (bs : List Nat) : Nat × List (List Int) := (List.range (mkN bs)).foldl (mkSym bs (mkN bs)) (mkAt bs 0, [])
def names5 : List ByteArray := [⟨#[97]⟩, ⟨#[98]⟩, ⟨#[83]⟩, ⟨#[84]⟩, ⟨#[85]⟩]
def mkG (bs : List Nat) : Gr := ⟨names5.take (2 + mkN bs), 2, [0, 1], (mkAll bs).2, 2⟩

theorem mkCnt_le {bs : List Nat} {a : Nat} : 1 ≤ mkCnt bs a ∧ mkCnt bs a ≤ 3 := by unfold mkCnt; split <;> omega
theorem mkLong_le {bs : List Nat} {a : Nat} : mkLong bs a ≤ 3 := by unfold mkLong; split <;> omega
theorem mkRow_ok {bs : List Nat} {n s : Nat} : ∀ {k : Nat} {st : Nat × List Int}, (∃ t, st.2 = ((2 + s : Nat) : Int) :: t ∧ ∀ x ∈ t, inR (2 + n) x) →
    (itr (mkRowS bs n) k st).2.length = st.2.length + k ∧ ∃ t, (itr (mkRowS bs n) k st).2 = ((2 + s : Nat) : Int) :: t ∧ ∀ x ∈ t, inR (2 + n) x
  | 0, st, h => ⟨rfl, h⟩
  | k + 1, st, ⟨t, e, h⟩ => by
    rw [itr]
    have : ∃ t', (mkRowS bs n st).2 = ((2 + s : Nat) : Int) :: t' ∧ ∀ x ∈ t', inR (2 + n) x := by
      unfold mkRowS
      have hm : bs[st.1]! % (2 + n) < 2 + n := Nat.mod_lt _ (by omega)
      split
      · refine ⟨t ++ [_], by simp only [e]; rfl, fun x hx => ?_⟩
        rcases List.mem_append.1 hx with z | z
        · exact h x z
        · simp only [List.mem_singleton] at z; subst z; unfold inR; omega
      · refine ⟨t ++ [_], by simp only [e]; rfl, fun x hx => ?_⟩
        rcases List.mem_append.1 hx with z | z
        · exact h x z
        · simp only [List.mem_singleton] at z; subst z; unfold inR; omega
    obtain ⟨r1, r2⟩ := mkRow_ok (k := k) this
    refine ⟨?_, r2⟩
    rw [r1]
    unfold mkRowS; split <;> simp <;> omega
/-- A rule that is made. -/
def RuleOk (n s : Nat) (r : List Int) : Prop := r.length ≤ 4 ∧ ∃ t, r = ((2 + s : Nat) : Int) :: t ∧ ∀ x ∈ t, inR (2 + n) x
theorem mkRules_ok {bs : List Nat} {n s : Nat} : ∀ {k : Nat} {st : Nat × List (List Int)}, ∃ new, (itr (mkRule bs n s) k st).2 = st.2 ++ new ∧ new.length = k ∧ ∀ r ∈ new, RuleOk n s r
  | 0, st => ⟨[], by simp [itr], rfl, by simp⟩
  | k + 1, st => by
    rw [itr]
    obtain ⟨new, e, hl, h⟩ := mkRules_ok (bs := bs) (n := n) (s := s) (k := k) (st := mkRule bs n s st)
    obtain ⟨r1, r2⟩ := mkRow_ok (bs := bs) (n := n) (s := s) (k := mkLong bs st.1) (st := (mkAt bs st.1, [((2 + s : Nat) : Int)])) ⟨[], rfl, by simp⟩
    refine ⟨(itr (mkRowS bs n) (mkLong bs st.1) (mkAt bs st.1, [((2 + s : Nat) : Int)])).2 :: new, by rw [e]; simp [mkRule], by simp [hl], fun r hr => ?_⟩
    rcases List.mem_cons.1 hr with rfl | hr
    · refine ⟨?_, r2⟩
      rw [r1]
      have := mkLong_le (bs := bs) (a := st.1)
      simp; omega
    · exact h r hr
theorem mkAll_ok {bs : List Nat} {n : Nat} : ∀ {k : Nat} {st : Nat × List (List Int)}, ∃ new, ((List.range k).foldl (mkSym bs n) st).2 = st.2 ++ new ∧ new.length ≤ 3 * k ∧ (∀ r ∈ new, ∃ s, s < k ∧ RuleOk n s r) ∧ ∀ s, s < k → ∃ r ∈ new, r.getD 0 0 = ((2 + s : Nat) : Int)
  | 0, st => ⟨[], by simp, by simp, by simp, by simp⟩
  | k + 1, st => by
    rw [List.range_succ, List.foldl_append]
    obtain ⟨new, e, hl, h, ha⟩ := mkAll_ok (bs := bs) (n := n) (k := k) (st := st)
    generalize hst : (List.range k).foldl (mkSym bs n) st = st1 at e
    obtain ⟨new2, e2, hl2, h2⟩ := mkRules_ok (bs := bs) (n := n) (s := k) (k := mkCnt bs st1.1) (st := (mkAt bs st1.1, st1.2))
    have hc := mkCnt_le (bs := bs) (a := st1.1)
    refine ⟨new ++ new2, ?_, by rw [List.length_append]; omega, fun r hr => ?_, fun s hs => ?_⟩
    · show (mkSym bs n st1 k).2 = _
      unfold mkSym
      rw [e2, e, List.append_assoc]
    · rcases List.mem_append.1 hr with z | z
      · obtain ⟨s, h1, h2⟩ := h r z
        exact ⟨s, by omega, h2⟩
      · exact ⟨k, by omega, h2 r z⟩
    · by_cases hsk : s < k
      · obtain ⟨r, hr, e⟩ := ha s hsk
        exact ⟨r, List.mem_append.2 (.inl hr), e⟩
      · have : s = k := by omega
        subst this
        cases new2 with
        | nil => simp at hl2; omega
        | cons r rest =>
          obtain ⟨_, t, e, _⟩ := h2 r (by simp)
          exact ⟨r, List.mem_append.2 (.inr (by simp)), by rw [e]; rfl⟩
theorem mkG_n {bs : List Nat} : (mkG bs).n = 2 + mkN bs := by
  have := mkCnt_le (bs := bs) (a := 0)
  show (names5.take (2 + mkN bs)).length = _
  unfold mkN
  rw [List.length_take]
  show min _ 5 = _
  omega
theorem mkG_ok {bs : List Nat} : (mkG bs).ok := by
  have hn := mkG_n (bs := bs)
  have hc := mkCnt_le (bs := bs) (a := 0)
  have hN : mkN bs = mkCnt bs 0 := rfl
  obtain ⟨new, e, hl, h, ha⟩ := mkAll_ok (bs := bs) (n := mkN bs) (k := mkN bs) (st := (mkAt bs 0, []))
  have er : (mkG bs).rules = new := by
    show (mkAll bs).2 = _
    unfold mkAll
    rw [e]; rfl
  have hR : ∀ s r, s < mkN bs → RuleOk (mkN bs) s r → (mkG bs).fits r := fun s r hs ⟨h1, t, h2, h3⟩ => by
    refine ⟨by rw [h2]; simp, by omega, ?_, ?_⟩
    · rw [h2]
      show (2 : Int) ≤ _ ∧ inR _ _
      rw [hn]
      unfold inR
      simp; omega
    · rw [h2, hn]
      exact h3
  refine ⟨(by show (0 : Int) ≤ 2; decide), ?_, rfl, by omega, ?_, by rw [er]; omega, ⟨(by show (2 : Int) ≤ 2; decide), ?_⟩, fun r hr => ?_, fun s h1 h2 => ?_⟩
  · show (2 : Int) ≤ _
    rw [hn]; omega
  · obtain ⟨r, hr, _⟩ := ha 0 (by omega)
    rw [er]
    exact List.length_pos_of_mem hr
  · show inR _ 2
    rw [hn]; unfold inR; omega
  · rw [er] at hr
    obtain ⟨s, h1, h2⟩ := h r hr
    exact hR s r h1 h2
  · have h1' : (2 : Int) ≤ s := h1
    rw [hn] at h2
    obtain ⟨r, hr, e⟩ := ha (s - 2) (by omega)
    rw [er]
    exact ⟨r, hr, by rw [e]; omega⟩

/-! The walk. -/
theorem ixZ_str {s : ByteArray} {i : Nat} (h : i < s.size) {K : Value → Prop} (k : K (byte (bytesN s)[i]!)) : oW (ixS (.string s) (.int .i64 (i : Int))) K := by
  have hsz : i < s.data.toList.length := h
  refine ⟨_, ?_, k⟩
  simp only [ixS]
  rw [if_pos (by omega)]
  have e1 : s[(i : Int).toNat]? = some s.data.toList[i] := by
    simp only [Int.toNat_natCast]
    rw [getElem?_pos s i h]; rfl
  rw [e1]
  rw [getElem!_pos (bytesN s) i (by simp [bytesN]; exact h)]
  simp [bytesN]
theorem byteZ_lt {s : ByteArray} {i : Nat} (h : i < s.size) : (bytesN s)[i]! < 256 := by
  have hsz : i < s.data.toList.length := h
  have e : (bytesN s)[i]! = s.data.toList[i].toNat := by
    rw [getElem!_pos (bytesN s) i (by simp [bytesN]; exact h)]
    simp [bytesN]
  rw [e]; exact UInt8.toNat_lt _
theorem bytesZ_len {s : ByteArray} : (bytesN s).length = s.size := by simp [bytesN]

theorem cvb {x : Nat} (hx : x < 256) : cvI .i64 (byte x) = some (.int .i64 (x : Int)) := by
  simp only [cvI]; rw [wrap_i64 (by omega)]
theorem remN {x y : Nat} (hy : y ≠ 0) : binN .rem (.int .i64 (x : Int)) (.int .i64 (y : Int)) = some (.int .i64 ((x % y : Nat) : Int)) := by
  have e : (x : Int).tmod (y : Int) = ((x % y : Nat) : Int) := by rw [Int.tmod_eq_emod_of_nonneg (by omega)]; simp
  rw [n_rem (by omega), e]
abbrev zg : AObj := .row [(.slice none 0 0), (.int .i64 0), (.slice none 0 0), (.slice none 0 0), (.int .i64 0)] .exact
abbrev mkB (h : Heap) (n : Nat) (rv : Value) : Heap := h ++ [zg, .row [.int .i64 0, .int .i64 1] .exact, .row (names5.map .string) .exact, .row [.slice (some ⟨h.length + 2, 0, none⟩) (2 + n) 5, .int .i64 2, .slice (some ⟨h.length + 1, 0, none⟩) 2 2, rv, .int .i64 2] .exact]
theorem mkB_len {h : Heap} {n : Nat} {rv : Value} : (mkB h n rv).length = h.length + 4 := by simp
theorem mkB_row {h : Heap} {n : Nat} {rv : Value} {T : Heap} : getRow (mkB h n rv ++ T) (h.length + 3) = some ([.slice (some ⟨h.length + 2, 0, none⟩) (2 + n) 5, .int .i64 2, .slice (some ⟨h.length + 1, 0, none⟩) 2 2, rv, .int .i64 2], .exact) := by rw [List.append_assoc, row_app]; rfl
theorem mkB_tail {h : Heap} {n : Nat} {rv : Value} {T : Heap} {q : Nat} (hq : h.length + 4 ≤ q) : (mkB h n rv ++ T)[q]? = T[q - (h.length + 4)]? := by
  rw [List.getElem?_append_right (by rw [mkB_len]; exact hq), mkB_len]

theorem mkRowS_inv {s : ByteArray} {n : Nat} {st : Nat × List Int} (h : st.1 ≤ s.size) : (mkRowS (bytesN s) n st).1 ≤ s.size ∧ (mkRowS (bytesN s) n st).2.length = st.2.length + 1 := by
  have blen : (bytesN s).length = s.size := bytesZ_len
  unfold mkRowS
  split
  · rename_i q; rw [blen] at q; exact ⟨q, by simp⟩
  · exact ⟨h, by simp⟩
theorem mkAt_le {s : ByteArray} {a : Nat} (h : a ≤ s.size) : mkAt (bytesN s) a ≤ s.size := by
  have blen : (bytesN s).length = s.size := bytesZ_len
  unfold mkAt
  split
  · rename_i q; rw [blen] at q; exact q
  · exact h
/-- The row of a rule: as the words have it. -/
def RowBlk (I49 : Nat → List Value → Heap → Prop) (k52 : Nat) (x53 x54 v71 x56 x57 x58 x59 x60 v64 v70 : Value) (h65 h : Heap) (Q : Value → Heap → Prop) : Prop :=
(∃ (I72 : Nat → List Value → Heap → Prop) (k73 : Nat), gcL h (I72 k73) [x53, x54, v71, x56, x57, x58, x59, x60, v64, v70, (.int .i64 0)] h65 ∧
∀ k75 : Nat, ∀ x76 : Value, ∀ x77 : Value, ∀ x78 : Value, ∀ x79 : Value, ∀ x80 : Value, ∀ x81 : Value, ∀ x82 : Value, ∀ x83 : Value, ∀ x84 : Value, ∀ x85 : Value, ∀ x86 : Value, ∀ h87, I72 k75 [x76, x77, x78, x79, x80, x81, x82, x83, x84, x85, x86] h87 →
(oW (binN .lss x86 x85) fun v88 =>
(bW v88
(oW (lenStr x76) fun v89 =>
(oW (binN .lss x78 v89) fun v90 =>
(bW v90
(oW (ixS x76 x78) fun v91 =>
(oW (cvI .i64 v91) fun v92 =>
(oW (binN .add (.int .i64 2) x80) fun v93 =>
(oW (binN .rem v92 v93) fun v94 =>
(oW (binN .add x78 (.int .i64 1)) fun v95 =>
(hW (bslW h87 1 [(.int .i64 0)] [(0, 1, v94)]) fun v96 h97 =>
(hW (apW 1 8 h97 x84 v96) fun v98 h99 =>
(oW (binN .add x86 (.int .i64 1)) fun v100 =>
(∃ m74, m74 < k75 ∧ gcL h (I72 m74) [x76, x77, v95, x79, x80, x81, x82, x83, v98, x85, v100] h99)))))))))
(hW (bslW h87 1 [(.int .i64 0)] [(0, 1, (.int .i64 0))]) fun v101 h102 =>
(hW (apW 1 8 h102 x84 v101) fun v103 h104 =>
(oW (binN .add x86 (.int .i64 1)) fun v105 =>
(∃ m74, m74 < k75 ∧ gcL h (I72 m74) [x76, x77, x78, x79, x80, x81, x82, x83, v103, x85, v105] h104)))))))
(oW (faW 3 1 x79) fun v106 =>
(oW (ldW false 1 h87 v106) fun v107 =>
(hW (bslW h87 1 [(.slice none 0 0)] [(0, 1, x84)]) fun v108 h109 =>
(hW (apW 1 24 h109 v107 v108) fun v110 h111 =>
(oW (faW 3 1 x79) fun v112 =>
(sW (stW 1 h111 v112 v110) fun h113 =>
(oW (binN .add x83 (.int .i64 1)) fun v114 =>
(∃ m51, m51 < k52 ∧ gcL h (I49 m51) [x76, x77, x78, x79, x80, x81, x82, v114] h113)))))))))))

def MkR (h : Heap) (s : ByteArray) (n : Nat) (st0 : Nat × List Int) (rules : List (List Int)) (y c i long : Nat) (k : Nat) (vs : List Value) (H : Heap) : Prop :=
  ∃ (j : Nat) (rv x : Value) (T : Heap) (vals : List Value), vs = [.string s, .pointer (some ⟨h.length, 0, none⟩), .int .i64 ((itr (mkRowS (bytesN s) n) j st0).1 : Int), .pointer (some ⟨h.length + 3, 0, none⟩), .int .i64 (n : Int), .int .i64 (y : Int), .int .i64 (c : Int), .int .i64 (i : Int), x, .int .i64 (long : Int), .int .i64 (j : Int)] ∧
    H = mkB h n rv ++ T ∧ RowsAt (h.length + 4) H rv vals rules ∧ Acc 1 (h.length + 4) H x ((itr (mkRowS (bytesN s) n) j st0).2.map fun x => .int .i64 x) ∧ (∀ q, lies x q → ¬ lies rv q ∧ ∀ v ∈ vals, ¬ lies v q) ∧ k = long - j ∧ j ≤ long
theorem rowBlk_spec {I49 : Nat → List Value → Heap → Prop} {k52 : Nat} {h : Heap} {s : ByteArray} (hs : s.size ≤ 1000) {n : Nat} (hn : n ≤ 3) {a0 : Nat} (ha0 : a0 ≤ s.size) {r0 : List Int} (hr0 : r0.length = 1) {rules : List (List Int)} (hru : rules.length ≤ 100) {y c i long : Nat} (hlong : long ≤ 3) (hi : i ≤ 100) {rv x : Value} {T : Heap} {vals : List Value}
    (ra : RowsAt (h.length + 4) (mkB h n rv ++ T) rv vals rules) (ax : Acc 1 (h.length + 4) (mkB h n rv ++ T) x (r0.map fun x => .int .i64 x)) (sep : ∀ q, lies x q → ¬ lies rv q ∧ ∀ v ∈ vals, ¬ lies v q) {Q : Value → Heap → Prop}
    (fin : ∀ rv' T' vals', RowsAt (h.length + 4) (mkB h n rv' ++ T') rv' vals' (rules ++ [(itr (mkRowS (bytesN s) n) long (a0, r0)).2]) →
      ∃ m51, m51 < k52 ∧ gcL h (I49 m51) [.string s, .pointer (some ⟨h.length, 0, none⟩), .int .i64 ((itr (mkRowS (bytesN s) n) long (a0, r0)).1 : Int), .pointer (some ⟨h.length + 3, 0, none⟩), .int .i64 (n : Int), .int .i64 (y : Int), .int .i64 (c : Int), .int .i64 ((i + 1 : Nat) : Int)] (mkB h n rv' ++ T')) :
    RowBlk I49 k52 (.string s) (.pointer (some ⟨h.length, 0, none⟩)) (.int .i64 (a0 : Int)) (.pointer (some ⟨h.length + 3, 0, none⟩)) (.int .i64 (n : Int)) (.int .i64 (y : Int)) (.int .i64 (c : Int)) (.int .i64 (i : Int)) x (.int .i64 (long : Int)) (mkB h n rv ++ T) h Q := by
  have blen : (bytesN s).length = s.size := bytesZ_len
  unfold RowBlk
  refine ⟨MkR h s n (a0, r0) rules y c i long, long, gcL_same ⟨0, rv, x, T, vals, rfl, rfl, ra, ax, sep, by omega, by omega⟩, ?_⟩
  clear ra ax sep
  rintro k x76 x77 x78 x79 x80 x81 x82 x83 x84 x85 x86 H ⟨j, rv, x, T, vals, hv, rfl, ra, ax, sep, hk, hj⟩
  simp only [List.cons.injEq, and_true] at hv
  obtain ⟨rfl, rfl, rfl, rfl, rfl, rfl, rfl, rfl, rfl, rfl, rfl⟩ := hv
  have hB := mkB_len (h := h) (n := n) (rv := rv)
  have inv : ∀ j, (itr (mkRowS (bytesN s) n) j (a0, r0)).1 ≤ s.size ∧ (itr (mkRowS (bytesN s) n) j (a0, r0)).2.length = 1 + j := fun j => by
    induction j with
    | zero => exact ⟨ha0, hr0⟩
    | succ j ih =>
      rw [itr_succ]
      have := mkRowS_inv (n := n) ih.1
      exact ⟨this.1, by omega⟩
  have hsucc := itr_succ (f := mkRowS (bytesN s) n) (k := j) (x := (a0, r0))
  have hj1 := inv j
  generalize hst : itr (mkRowS (bytesN s) n) j (a0, r0) = st at hsucc hj1 ax ⊢
  obtain ⟨a, r⟩ := st
  simp only at hj1 ax
  rw [n_lss, oW_some, bW_dec]
  constructor
  · intro hlt
    have hlt' : j < long := by omega
    have more : ∀ (e : Int) (a' : Nat), mkRowS (bytesN s) n (a, r) = (a', r ++ [e]) → hW (bslW (mkB h n rv ++ T) 1 [(.int .i64 0)] [(0, 1, .int .i64 e)]) fun v96 h97 => hW (apW 1 8 h97 x84 v96) fun v98 h99 => oW (binN .add (.int .i64 (j : Int)) (.int .i64 1)) fun v100 =>
        ∃ m74, m74 < k ∧ gcL h (MkR h s n (a0, r0) rules y c i long m74) [.string s, .pointer (some ⟨h.length, 0, none⟩), .int .i64 (a' : Int), .pointer (some ⟨h.length + 3, 0, none⟩), .int .i64 (n : Int), .int .i64 (y : Int), .int .i64 (c : Int), .int .i64 (i : Int), v98, .int .i64 (long : Int), v100] h99 := fun e a' he => by
      refine Acc.push hB ax (by omega) int_len (e := .int .i64 e) rfl rfl rfl rfl (by simp; omega) (by simp; omega) fun v' g' a2 q1 q2 q3 => ?_
      rw [n_add (by omega), oW_some]
      refine ⟨long - (j + 1), by omega, gcL_same ⟨j + 1, rv, v', g', vals, by rw [hsucc, he]; simp, rfl, ?_, by rw [hsucc, he]; simpa using a2, fun q hq => ?_, rfl, by omega⟩⟩
      · refine ra.congr fun q hq => ?_
        rcases hq with hq | ⟨w, hw, hq⟩
        · exact q1 q (ra.acc.lt hq) fun z => (sep q z).1 hq
        · obtain ⟨p, hp, rfl⟩ := List.mem_iff_getElem.1 hw
          exact q1 q ((ra.row p hp (by rw [← ra.len]; exact hp)).lt hq) fun z => (sep q z).2 _ hw hq
      · rcases q2 q hq with z | z
        · exact sep q z
        · refine ⟨fun w => by have := ra.acc.lt w; omega, fun v hv w => ?_⟩
          obtain ⟨p, hp, rfl⟩ := List.mem_iff_getElem.1 hv
          have := (ra.row p hp (by rw [← ra.len]; exact hp)).lt w
          omega
    rw [lenStr_str, oW_some, n_lss, oW_some, bW_dec]
    constructor
    · intro hla
      have hla' : a < s.size := by omega
      have hb := byteZ_lt hla'
      refine ixZ_str hla' ?_
      generalize hbe : (bytesN s)[a]! = b at *
      rw [cvb hb, oW_some, n_add (by omega), oW_some, show ((2 : Int) + (n : Int)) = ((2 + n : Nat) : Int) by omega, remN (by omega), oW_some, n_add (by omega), oW_some]
      refine more _ (a + 1) ?_
      unfold mkRowS
      rw [if_pos (by rw [blen]; exact hla'), hbe]
    · intro hla
      refine more 0 a ?_
      unfold mkRowS
      rw [if_neg (by rw [blen]; omega)]
  · intro hge
    have hjl : j = long := by omega
    subst hjl
    rw [hst] at fin
    rw [fa_ptr, oW_some, ldW_one, mkB_row]
    show oW (some rv) _
    rw [oW_some]
    refine ra.push hB ax (fun q hq => (sep q hq).1) (by omega) fun v' g' ra2 => ?_
    obtain ⟨c1, c2, c3⟩ := acc_cell ra2.acc
    rw [oW_some, st1 mkB_row (by simp) c1 c2 c3 (by simp), sW_some, n_add (by omega), oW_some, show ((i : Int) + 1) = ((i + 1 : Nat) : Int) by omega]
    have eset : (mkB h n rv ++ g').set (h.length + 3) (.row ([.slice (some ⟨h.length + 2, 0, none⟩) (2 + n) 5, .int .i64 2, .slice (some ⟨h.length + 1, 0, none⟩) 2 2, rv, .int .i64 2].set (0 + 3) v') .exact) = mkB h n v' ++ g' := by
      rw [List.append_assoc, set_app]; simp
    rw [eset]
    refine fin v' g' (vals ++ [x84]) (ra2.congr fun q hq => ?_)
    have hq4 : h.length + 4 ≤ q := by
      rcases hq with z | ⟨w, hw, z⟩
      · exact ra2.acc.ge z
      · obtain ⟨p, hp, rfl⟩ := List.mem_iff_getElem.1 hw
        exact (ra2.row p hp (by rw [← ra2.len]; exact hp)).ge z
    rw [mkB_tail hq4, mkB_tail hq4]

/-- The rules of a symbol: as the words have it. -/
def RuleBlk (I30 : Nat → List Value → Heap → Prop) (k33 : Nat) (x34 x35 v48 x37 x38 x39 v47 : Value) (h40 h : Heap) (Q : Value → Heap → Prop) : Prop :=
(∃ (I49 : Nat → List Value → Heap → Prop) (k50 : Nat), gcL h (I49 k50) [x34, x35, v48, x37, x38, x39, v47, (.int .i64 0)] h40 ∧
∀ k52 : Nat, ∀ x53 : Value, ∀ x54 : Value, ∀ x55 : Value, ∀ x56 : Value, ∀ x57 : Value, ∀ x58 : Value, ∀ x59 : Value, ∀ x60 : Value, ∀ h61, I49 k52 [x53, x54, x55, x56, x57, x58, x59, x60] h61 →
(oW (binN .lss x60 x59) fun v62 =>
(bW v62
(oW (binN .add (.int .i64 2) x58) fun v63 =>
(hW (bslW h61 1 [(.int .i64 0)] [(0, 1, v63)]) fun v64 h65 =>
(oW (lenStr x53) fun v66 =>
(oW (binN .lss x55 v66) fun v67 =>
(bW v67
(oW (ixS x53 x55) fun v68 =>
(oW (cvI .i64 v68) fun v69 =>
(oW (binN .rem v69 (.int .i64 4)) fun v70 =>
(oW (binN .add x55 (.int .i64 1)) fun v71 =>
(∃ (I72 : Nat → List Value → Heap → Prop) (k73 : Nat), gcL h (I72 k73) [x53, x54, v71, x56, x57, x58, x59, x60, v64, v70, (.int .i64 0)] h65 ∧
∀ k75 : Nat, ∀ x76 : Value, ∀ x77 : Value, ∀ x78 : Value, ∀ x79 : Value, ∀ x80 : Value, ∀ x81 : Value, ∀ x82 : Value, ∀ x83 : Value, ∀ x84 : Value, ∀ x85 : Value, ∀ x86 : Value, ∀ h87, I72 k75 [x76, x77, x78, x79, x80, x81, x82, x83, x84, x85, x86] h87 →
(oW (binN .lss x86 x85) fun v88 =>
(bW v88
(oW (lenStr x76) fun v89 =>
(oW (binN .lss x78 v89) fun v90 =>
(bW v90
(oW (ixS x76 x78) fun v91 =>
(oW (cvI .i64 v91) fun v92 =>
(oW (binN .add (.int .i64 2) x80) fun v93 =>
(oW (binN .rem v92 v93) fun v94 =>
(oW (binN .add x78 (.int .i64 1)) fun v95 =>
(hW (bslW h87 1 [(.int .i64 0)] [(0, 1, v94)]) fun v96 h97 =>
(hW (apW 1 8 h97 x84 v96) fun v98 h99 =>
(oW (binN .add x86 (.int .i64 1)) fun v100 =>
(∃ m74, m74 < k75 ∧ gcL h (I72 m74) [x76, x77, v95, x79, x80, x81, x82, x83, v98, x85, v100] h99)))))))))
(hW (bslW h87 1 [(.int .i64 0)] [(0, 1, (.int .i64 0))]) fun v101 h102 =>
(hW (apW 1 8 h102 x84 v101) fun v103 h104 =>
(oW (binN .add x86 (.int .i64 1)) fun v105 =>
(∃ m74, m74 < k75 ∧ gcL h (I72 m74) [x76, x77, x78, x79, x80, x81, x82, x83, v103, x85, v105] h104)))))))
(oW (faW 3 1 x79) fun v106 =>
(oW (ldW false 1 h87 v106) fun v107 =>
(hW (bslW h87 1 [(.slice none 0 0)] [(0, 1, x84)]) fun v108 h109 =>
(hW (apW 1 24 h109 v107 v108) fun v110 h111 =>
(oW (faW 3 1 x79) fun v112 =>
(sW (stW 1 h111 v112 v110) fun h113 =>
(oW (binN .add x83 (.int .i64 1)) fun v114 =>
(∃ m51, m51 < k52 ∧ gcL h (I49 m51) [x76, x77, x78, x79, x80, x81, x82, v114] h113)))))))))))))))
(∃ (I115 : Nat → List Value → Heap → Prop) (k116 : Nat), gcL h (I115 k116) [x53, x54, x55, x56, x57, x58, x59, x60, v64, (.int .i64 1), (.int .i64 0)] h65 ∧
∀ k118 : Nat, ∀ x119 : Value, ∀ x120 : Value, ∀ x121 : Value, ∀ x122 : Value, ∀ x123 : Value, ∀ x124 : Value, ∀ x125 : Value, ∀ x126 : Value, ∀ x127 : Value, ∀ x128 : Value, ∀ x129 : Value, ∀ h130, I115 k118 [x119, x120, x121, x122, x123, x124, x125, x126, x127, x128, x129] h130 →
(oW (binN .lss x129 x128) fun v131 =>
(bW v131
(oW (lenStr x119) fun v132 =>
(oW (binN .lss x121 v132) fun v133 =>
(bW v133
(oW (ixS x119 x121) fun v134 =>
(oW (cvI .i64 v134) fun v135 =>
(oW (binN .add (.int .i64 2) x123) fun v136 =>
(oW (binN .rem v135 v136) fun v137 =>
(oW (binN .add x121 (.int .i64 1)) fun v138 =>
(hW (bslW h130 1 [(.int .i64 0)] [(0, 1, v137)]) fun v139 h140 =>
(hW (apW 1 8 h140 x127 v139) fun v141 h142 =>
(oW (binN .add x129 (.int .i64 1)) fun v143 =>
(∃ m117, m117 < k118 ∧ gcL h (I115 m117) [x119, x120, v138, x122, x123, x124, x125, x126, v141, x128, v143] h142)))))))))
(hW (bslW h130 1 [(.int .i64 0)] [(0, 1, (.int .i64 0))]) fun v144 h145 =>
(hW (apW 1 8 h145 x127 v144) fun v146 h147 =>
(oW (binN .add x129 (.int .i64 1)) fun v148 =>
(∃ m117, m117 < k118 ∧ gcL h (I115 m117) [x119, x120, x121, x122, x123, x124, x125, x126, v146, x128, v148] h147)))))))
(oW (faW 3 1 x122) fun v149 =>
(oW (ldW false 1 h130 v149) fun v150 =>
(hW (bslW h130 1 [(.slice none 0 0)] [(0, 1, x127)]) fun v151 h152 =>
(hW (apW 1 24 h152 v150 v151) fun v153 h154 =>
(oW (faW 3 1 x122) fun v155 =>
(sW (stW 1 h154 v155 v153) fun h156 =>
(oW (binN .add x126 (.int .i64 1)) fun v157 =>
(∃ m51, m51 < k52 ∧ gcL h (I49 m51) [x119, x120, x121, x122, x123, x124, x125, v157] h156))))))))))))))))
(oW (binN .add x58 (.int .i64 1)) fun v158 =>
(∃ m32, m32 < k33 ∧ gcL h (I30 m32) [x53, x54, x55, x56, x57, v158] h61)))))

def MkU (h : Heap) (s : ByteArray) (n y : Nat) (st0 : Nat × List (List Int)) (c : Nat) (k : Nat) (vs : List Value) (H : Heap) : Prop :=
  ∃ (i : Nat) (rv : Value) (T : Heap) (vals : List Value), vs = [.string s, .pointer (some ⟨h.length, 0, none⟩), .int .i64 ((itr (mkRule (bytesN s) n y) i st0).1 : Int), .pointer (some ⟨h.length + 3, 0, none⟩), .int .i64 (n : Int), .int .i64 (y : Int), .int .i64 (c : Int), .int .i64 (i : Int)] ∧
    H = mkB h n rv ++ T ∧ RowsAt (h.length + 4) H rv vals (itr (mkRule (bytesN s) n y) i st0).2 ∧ k = c - i ∧ i ≤ c
theorem ruleBlk_spec {I30 : Nat → List Value → Heap → Prop} {k33 : Nat} {h : Heap} {s : ByteArray} (hs : s.size ≤ 1000) {n : Nat} (hn : n ≤ 3) {a0 : Nat} (ha0 : a0 ≤ s.size) {rules : List (List Int)} (hru : rules.length ≤ 50) {y c : Nat} (hy : y ≤ 3) (hc : c ≤ 3) {rv : Value} {T : Heap} {vals : List Value}
    (ra : RowsAt (h.length + 4) (mkB h n rv ++ T) rv vals rules) {Q : Value → Heap → Prop}
    (fin : ∀ rv' T' vals', RowsAt (h.length + 4) (mkB h n rv' ++ T') rv' vals' (itr (mkRule (bytesN s) n y) c (a0, rules)).2 → (itr (mkRule (bytesN s) n y) c (a0, rules)).1 ≤ s.size →
      ∃ m32, m32 < k33 ∧ gcL h (I30 m32) [.string s, .pointer (some ⟨h.length, 0, none⟩), .int .i64 ((itr (mkRule (bytesN s) n y) c (a0, rules)).1 : Int), .pointer (some ⟨h.length + 3, 0, none⟩), .int .i64 (n : Int), .int .i64 ((y + 1 : Nat) : Int)] (mkB h n rv' ++ T')) :
    RuleBlk I30 k33 (.string s) (.pointer (some ⟨h.length, 0, none⟩)) (.int .i64 (a0 : Int)) (.pointer (some ⟨h.length + 3, 0, none⟩)) (.int .i64 (n : Int)) (.int .i64 (y : Int)) (.int .i64 (c : Int)) (mkB h n rv ++ T) h Q := by
  have blen : (bytesN s).length = s.size := bytesZ_len
  have inv1 : ∀ (k : Nat) (st : Nat × List Int), st.1 ≤ s.size → (itr (mkRowS (bytesN s) n) k st).1 ≤ s.size := fun k => by
    induction k with
    | zero => exact fun st h => h
    | succ k ih =>
      intro st h
      rw [itr]
      exact ih _ (mkRowS_inv h).1
  have inv : ∀ i, (itr (mkRule (bytesN s) n y) i (a0, rules)).1 ≤ s.size ∧ (itr (mkRule (bytesN s) n y) i (a0, rules)).2.length = rules.length + i := fun i => by
    induction i with
    | zero => exact ⟨ha0, rfl⟩
    | succ i ih =>
      rw [itr_succ]
      refine ⟨inv1 _ _ (mkAt_le ih.1), ?_⟩
      show (_ ++ [_]).length = _
      simp only [List.length_append, List.length_singleton]; omega
  unfold RuleBlk
  refine ⟨MkU h s n y (a0, rules) c, c, gcL_same ⟨0, rv, T, vals, rfl, rfl, ra, by omega, by omega⟩, ?_⟩
  clear ra
  rintro k x53 x54 x55 x56 x57 x58 x59 x60 H ⟨i, rv, T, vals, hv, rfl, ra, hk, hi⟩
  simp only [List.cons.injEq, and_true] at hv
  obtain ⟨rfl, rfl, rfl, rfl, rfl, rfl, rfl, rfl⟩ := hv
  have hB := mkB_len (h := h) (n := n) (rv := rv)
  have hsucc := itr_succ (f := mkRule (bytesN s) n y) (k := i) (x := (a0, rules))
  have hi1 := inv i
  rw [n_lss, oW_some, bW_dec]
  constructor
  · intro hlt
    generalize itr (mkRule (bytesN s) n y) i (a0, rules) = st at *
    obtain ⟨a, rs⟩ := st
    simp only at hi1 ra
    rw [n_add (by omega), oW_some, show ((2 : Int) + (y : Int)) = ((2 + y : Nat) : Int) by omega]
    refine bsl1 (e := .int .i64 ((2 + y : Nat) : Int)) rfl rfl rfl ?_
    rw [cellsOf_int, List.append_assoc (mkB h n rv)]
    have ra' : RowsAt (h.length + 4) (mkB h n rv ++ (T ++ [AObj.row [.int .i64 ((2 + y : Nat) : Int)] .exact])) rv vals rs := by
      rw [← List.append_assoc]
      refine ra.congr fun q hq => ?_
      have : q < (mkB h n rv ++ T).length := by
        rcases hq with z | ⟨w, hw, z⟩
        · exact ra.acc.lt z
        · obtain ⟨p, hp, rfl⟩ := List.mem_iff_getElem.1 hw
          exact (ra.row p hp (by rw [← ra.len]; exact hp)).lt z
      rw [List.getElem?_append_left this]
    have ax : Acc 1 (h.length + 4) (mkB h n rv ++ (T ++ [AObj.row [.int .i64 ((2 + y : Nat) : Int)] .exact])) (.slice (some ⟨(mkB h n rv ++ T).length, 0, none⟩) 1 1) (([((2 + y : Nat) : Int)] : List Int).map fun x => .int .i64 x) := by
      have := Acc.made (sz := 1) (n := h.length + 4) (H := mkB h n rv ++ T) (l := [Value.int .i64 ((2 + y : Nat) : Int)]) (by simp) (by rw [List.length_append, hB]; omega)
      rw [List.append_assoc] at this
      exact this
    have sep : ∀ q, lies (.slice (some ⟨(mkB h n rv ++ T).length, 0, none⟩) 1 1) q → ¬ lies rv q ∧ ∀ v ∈ vals, ¬ lies v q := fun q hq => by
      have hqe : q = (mkB h n rv ++ T).length := by obtain ⟨_, _, _, e⟩ := hq; cases e; rfl
      subst hqe
      refine ⟨fun w => by have := ra.acc.lt w; omega, fun v hv w => ?_⟩
      obtain ⟨p, hp, rfl⟩ := List.mem_iff_getElem.1 hv
      have := (ra.row p hp (by rw [← ra.len]; exact hp)).lt w
      omega
    have done : ∀ (a1 long : Nat), a1 = mkAt (bytesN s) a → long = mkLong (bytesN s) a → a1 ≤ s.size →
        RowBlk (MkU h s n y (a0, rules) c) k (.string s) (.pointer (some ⟨h.length, 0, none⟩)) (.int .i64 (a1 : Int)) (.pointer (some ⟨h.length + 3, 0, none⟩)) (.int .i64 (n : Int)) (.int .i64 (y : Int)) (.int .i64 (c : Int)) (.int .i64 (i : Int)) (.slice (some ⟨(mkB h n rv ++ T).length, 0, none⟩) 1 1) (.int .i64 (long : Int)) (mkB h n rv ++ (T ++ [AObj.row [.int .i64 ((2 + y : Nat) : Int)] .exact])) h Q := fun a1 long h1 h2 h3 => by
      refine rowBlk_spec hs hn h3 (r0 := [((2 + y : Nat) : Int)]) rfl (by omega) (by rw [h2]; exact mkLong_le) (by omega) ra' ax sep fun rv' T' vals' ra2 => ?_
      subst h1 h2
      refine ⟨c - (i + 1), by omega, gcL_same ⟨i + 1, rv', T', vals', by rw [hsucc]; rfl, rfl, by rw [hsucc]; exact ra2, rfl, by omega⟩⟩
    rw [lenStr_str, oW_some, n_lss, oW_some, bW_dec]
    constructor
    · intro hla
      have hla' : a < s.size := by omega
      have hb := byteZ_lt hla'
      refine ixZ_str hla' ?_
      rw [cvb hb, oW_some, show (4 : Int) = ((4 : Nat) : Int) from rfl, remN (by omega), oW_some, n_add (by omega), oW_some]
      have e := done (a + 1) _ (by unfold mkAt; rw [if_pos (by rw [blen]; exact hla')]) (by unfold mkLong; rw [if_pos (by rw [blen]; exact hla')]) hla'
      rw [show (((a + 1 : Nat)) : Int) = (a : Int) + 1 from by omega] at e
      exact e
    · intro hla
      exact done a 1 (by unfold mkAt; rw [if_neg (by rw [blen]; omega)]) (by unfold mkLong; rw [if_neg (by rw [blen]; omega)]) hi1.1
  · intro hge
    have hic : i = c := by omega
    subst hic
    rw [n_add (by omega), oW_some, show ((y : Int) + 1) = ((y + 1 : Nat) : Int) by omega]
    exact fin rv T vals ra hi1.1

end Go.Ax

namespace Go.Ax
open Go Go.Proofs Go.RowKit

abbrev mkB0 (h : Heap) : Heap := h ++ [zg, .row [.int .i64 0, .int .i64 1] .exact, .row (names5.map .string) .exact, .row [.slice (some ⟨h.length + 2, 0, none⟩) 5 5, .int .i64 2, .slice (some ⟨h.length + 1, 0, none⟩) 2 2, .slice none 0 0, .int .i64 0] .exact]
def MkS (h : Heap) (s : ByteArray) (n : Nat) (k : Nat) (vs : List Value) (H : Heap) : Prop :=
  ∃ (y : Nat) (rv : Value) (T : Heap) (vals : List Value), vs = [.string s, .pointer (some ⟨h.length, 0, none⟩), .int .i64 (((List.range y).foldl (mkSym (bytesN s) n) (mkAt (bytesN s) 0, [])).1 : Int), .pointer (some ⟨h.length + 3, 0, none⟩), .int .i64 (n : Int), .int .i64 (y : Int)] ∧
    H = mkB h n rv ++ T ∧ RowsAt (h.length + 4) H rv vals ((List.range y).foldl (mkSym (bytesN s) n) (mkAt (bytesN s) 0, [])).2 ∧ ((List.range y).foldl (mkSym (bytesN s) n) (mkAt (bytesN s) 0, [])).1 ≤ s.size ∧ k = n - y ∧ y ≤ n

theorem names_take {n : Nat} (hn : n ≤ 3) : ((names5.map Value.string).drop 0).take ((2 + n) * 1) = ((names5.take (2 + n)).map Value.string).flatMap cellsOf := by
  rw [List.drop_zero, Nat.mul_one, ← List.map_take]
  exact (flat_one fun e he => by obtain ⟨b, _, rfl⟩ := List.mem_map.1 he; rfl).symm

theorem mkSym_len {bs : List Nat} {n : Nat} {st : Nat × List (List Int)} {y : Nat} : (mkSym bs n st y).2.length = st.2.length + mkCnt bs st.1 := by
  unfold mkSym
  obtain ⟨new, e, hl, _⟩ := mkRules_ok (bs := bs) (n := n) (s := y) (k := mkCnt bs st.1) (st := (mkAt bs st.1, st.2))
  rw [e, List.length_append, hl]

/-- What Make gives, not yet frozen. -/
abbrev mkV (h : Heap) (y : Nat) (rv : Value) : Value := .agg #[.slice (some ⟨h.length + 2, 0, none⟩) (2 + y) 5, .int .i64 2, .slice (some ⟨h.length + 1, 0, none⟩) 2 2, rv, .int .i64 2]
abbrev mkH (h : Heap) (y : Nat) (rv : Value) (T : Heap) : Heap := h ++ (.row [.slice (some ⟨h.length + 2, 0, none⟩) (2 + y) 5, .int .i64 2, .slice (some ⟨h.length + 1, 0, none⟩) 2 2, rv, .int .i64 2] .exact :: .row [.int .i64 0, .int .i64 1] .exact :: .row (names5.map .string) .exact :: .row [.slice (some ⟨h.length + 2, 0, none⟩) (2 + y) 5, .int .i64 2, .slice (some ⟨h.length + 1, 0, none⟩) 2 2, rv, .int .i64 2] .exact :: T)
theorem make16_raw {s : ByteArray} (hs : s.size ≤ 1000) {h : Heap} {Q : Value → Heap → Prop} (hq : ∀ rv vals T, RowsAt (h.length + 4) (mkH h (mkN (bytesN s)) rv T) rv vals (mkG (bytesN s)).rules → gcV h Q (mkV h (mkN (bytesN s)) rv) (mkH h (mkN (bytesN s)) rv T)) : acall Try.prog F_homographref16_Make [.string s] h Q := by
  have blen : (bytesN s).length = s.size := bytesZ_len
  apply W_homographref16_Make_ok
  unfold W_homographref16_Make
  rw [letH_eq]
  have L1 : (h ++ [zg]).length = h.length + 1 := by simp
  have b1 : bslW (h ++ [zg]) 2 [(.int .i64 0), (.int .i64 0)] [(0, 1, (.int .i64 0)), (1, 1, (.int .i64 1))] = some (.slice (some ⟨h.length + 1, 0, none⟩) 2 2, h ++ [zg, .row [.int .i64 0, .int .i64 1] .exact]) := by
    simp [bslW, okVal, cellsOf]
  rw [b1, hW_some]
  have b2 : bslW (h ++ [zg, .row [.int .i64 0, .int .i64 1] .exact]) 5 [(.string ⟨#[]⟩), (.string ⟨#[]⟩), (.string ⟨#[]⟩), (.string ⟨#[]⟩), (.string ⟨#[]⟩)] [(0, 1, (.string ⟨#[97]⟩)), (1, 1, (.string ⟨#[98]⟩)), (2, 1, (.string ⟨#[83]⟩)), (3, 1, (.string ⟨#[84]⟩)), (4, 1, (.string ⟨#[85]⟩))] =
      some (.slice (some ⟨h.length + 2, 0, none⟩) 5 5, h ++ [zg, .row [.int .i64 0, .int .i64 1] .exact, .row (names5.map .string) .exact]) := by
    simp [bslW, okVal, cellsOf, names5]
  rw [b2, hW_some]
  rw [show bldW [(.slice none 0 0), (.int .i64 0), (.slice none 0 0), (.slice none 0 0), (.int .i64 0)] [(1, 1, (.int .i64 2)), (2, 1, (.slice (some ⟨h.length + 1, 0, none⟩) 2 2)), (0, 1, (.slice (some ⟨h.length + 2, 0, none⟩) 5 5))] =
    some (.agg #[.slice (some ⟨h.length + 2, 0, none⟩) 5 5, .int .i64 2, .slice (some ⟨h.length + 1, 0, none⟩) 2 2, .slice none 0 0, .int .i64 0]) from rfl, oW_some, letH_eq]
  have L3 : (h ++ [zg, AObj.row [.int .i64 0, .int .i64 1] .exact, AObj.row (names5.map .string) .exact]).length = h.length + 3 := by simp
  rw [L3]
  have st5 : stW 5 (h ++ [zg, AObj.row [.int .i64 0, .int .i64 1] .exact, AObj.row (names5.map .string) .exact] ++ [zg]) (.pointer (some ⟨h.length + 3, 0, none⟩)) (.agg #[.slice (some ⟨h.length + 2, 0, none⟩) 5 5, .int .i64 2, .slice (some ⟨h.length + 1, 0, none⟩) 2 2, .slice none 0 0, .int .i64 0]) = some (mkB0 h) := by
    rw [stW_agg, ← L3, row_app0]
    show (some (_, Md.exact)).bind _ = _
    rw [Option.bind_some, if_pos (by simp [okCell]), set_app0]
    simp [mkB0]
  rw [st5, sW_some]
  refine ⟨fun vs H => vs = [.string s, .pointer (some ⟨h.length, 0, none⟩), .int .i64 (mkAt (bytesN s) 0 : Int), .pointer (some ⟨h.length + 3, 0, none⟩), .int .i64 (mkN (bytesN s) : Int)] ∧ H = mkB0 h, ?_, ?_⟩
  · rw [lenStr_str, oW_some, n_gtr, oW_some, bW_dec]
    constructor
    · intro h0
      have h0' : 0 < s.size := by omega
      have hb := byteZ_lt h0'
      refine ixZ_str (i := 0) h0' ?_
      rw [cvb hb, oW_some, show (3 : Int) = ((3 : Nat) : Int) from rfl, remN (by omega), oW_some, n_add (by omega), oW_some]
      refine gcL_same ⟨?_, rfl⟩
      unfold mkN mkAt mkCnt
      rw [blen, if_pos h0', if_pos h0']
      simp
    · intro h0
      refine gcL_same ⟨?_, rfl⟩
      unfold mkN mkAt mkCnt
      rw [blen, if_neg (by omega), if_neg (by omega)]
      simp
  rintro x16 x17 x18 x19 x20 h21 ⟨hv, rfl⟩
  simp only [List.cons.injEq, and_true] at hv
  obtain ⟨rfl, rfl, rfl, rfl, rfl⟩ := hv
  have hnN := mkCnt_le (bs := bytesN s) (a := 0)
  have hN : mkN (bytesN s) = mkCnt (bytesN s) 0 := rfl
  generalize hn : mkN (bytesN s) = n at hN
  have hn3 : n ≤ 3 := by omega
  have r0 : getRow (mkB0 h) (h.length + 3) = some ([.slice (some ⟨h.length + 2, 0, none⟩) 5 5, .int .i64 2, .slice (some ⟨h.length + 1, 0, none⟩) 2 2, .slice none 0 0, .int .i64 0], .exact) := by rw [row_app]; rfl
  have r2 : getRow (mkB0 h) (h.length + 2) = some (names5.map .string, .exact) := by rw [row_app]; rfl
  rw [fa_ptr, oW_some, ldW_one, r0]
  show oW (some (.slice (some ⟨h.length + 2, 0, none⟩) 5 5)) _
  rw [oW_some, n_add (by omega), oW_some, show ((2 : Int) + (n : Int)) = ((2 + n : Nat) : Int) by omega]
  have sl : slS 1 (mkB0 h) (.slice (some ⟨h.length + 2, 0, none⟩) 5 5) none (some (.int .i64 ((2 + n : Nat) : Int))) none = some (.slice (some ⟨h.length + 2, 0, none⟩) (2 + n) 5) := by
    simp only [slS, asNat]
    rw [if_pos (by omega)]
    simp only [Int.toNat_natCast]
    rw [if_pos ⟨by omega, by omega, by omega, by omega, by simp⟩, r2]
    simp [Md.openSize]
  rw [sl, oW_some, oW_some, st1 r0 (by simp) rfl rfl rfl (by simp), sW_some]
  have e1 : (mkB0 h).set (h.length + 3) (.row ([.slice (some ⟨h.length + 2, 0, none⟩) 5 5, .int .i64 2, .slice (some ⟨h.length + 1, 0, none⟩) 2 2, .slice none 0 0, .int .i64 0].set (0 + 0) (.slice (some ⟨h.length + 2, 0, none⟩) (2 + n) 5)) .exact) =
      h ++ [zg, .row [.int .i64 0, .int .i64 1] .exact, .row (names5.map .string) .exact, .row [.slice (some ⟨h.length + 2, 0, none⟩) (2 + n) 5, .int .i64 2, .slice (some ⟨h.length + 1, 0, none⟩) 2 2, .slice none 0 0, .int .i64 0] .exact] := by rw [set_app]; rfl
  rw [e1, fa_ptr, oW_some, st1 (c := [.slice (some ⟨h.length + 2, 0, none⟩) (2 + n) 5, .int .i64 2, .slice (some ⟨h.length + 1, 0, none⟩) 2 2, .slice none 0 0, .int .i64 0]) (m := .exact) (by rw [row_app]; rfl) (by simp) rfl rfl rfl (by simp), sW_some]
  have e2 : (h ++ [zg, .row [.int .i64 0, .int .i64 1] .exact, .row (names5.map .string) .exact, .row [.slice (some ⟨h.length + 2, 0, none⟩) (2 + n) 5, .int .i64 2, .slice (some ⟨h.length + 1, 0, none⟩) 2 2, .slice none 0 0, .int .i64 0] .exact]).set (h.length + 3)
      (.row ([.slice (some ⟨h.length + 2, 0, none⟩) (2 + n) 5, .int .i64 2, .slice (some ⟨h.length + 1, 0, none⟩) 2 2, .slice none 0 0, .int .i64 0].set (0 + 4) (.int .i64 2)) .exact) = mkB h n (.slice none 0 0) ++ [] := by rw [set_app, List.append_nil]; rfl
  rw [e2]
  refine ⟨MkS h s n, n, gcL_same ⟨0, .slice none 0 0, [], [], rfl, rfl, ⟨Acc.nil, rfl, by simp, by simp⟩, mkAt_le (Nat.zero_le _), by omega, by omega⟩, ?_⟩
  rintro k x34 x35 x36 x37 x38 x39 h40 ⟨y, rv, T, vals, hv, rfl, ra, hat, hk, hy⟩
  simp only [List.cons.injEq, and_true] at hv
  obtain ⟨rfl, rfl, rfl, rfl, rfl, rfl⟩ := hv
  have hlen : ((List.range y).foldl (mkSym (bytesN s) n) (mkAt (bytesN s) 0, [])).2.length ≤ 3 * y := by
    obtain ⟨new, e, hl, _⟩ := mkAll_ok (bs := bytesN s) (n := n) (k := y) (st := (mkAt (bytesN s) 0, []))
    rw [e]; simpa using hl
  rw [n_lss, oW_some, bW_dec]
  constructor
  · intro hlt
    have hsucc : (List.range (y + 1)).foldl (mkSym (bytesN s) n) (mkAt (bytesN s) 0, []) = mkSym (bytesN s) n ((List.range y).foldl (mkSym (bytesN s) n) (mkAt (bytesN s) 0, [])) y := by rw [List.range_succ, List.foldl_append]; rfl
    generalize (List.range y).foldl (mkSym (bytesN s) n) (mkAt (bytesN s) 0, []) = st at *
    obtain ⟨a, rs⟩ := st
    simp only at ra hat hlen
    have done : ∀ (a1 c : Nat), a1 = mkAt (bytesN s) a → c = mkCnt (bytesN s) a → RuleBlk (MkS h s n) k (.string s) (.pointer (some ⟨h.length, 0, none⟩)) (.int .i64 (a1 : Int)) (.pointer (some ⟨h.length + 3, 0, none⟩)) (.int .i64 (n : Int)) (.int .i64 (y : Int)) (.int .i64 (c : Int)) (mkB h n rv ++ T) h Q := fun a1 c h1 h2 => by
      have hc := mkCnt_le (bs := bytesN s) (a := a)
      refine ruleBlk_spec hs hn3 (by rw [h1]; exact mkAt_le hat) (by omega) (by omega) (by omega) ra fun rv' T' vals' ra2 ha2 => ?_
      subst h1 h2
      exact ⟨n - (y + 1), by omega, gcL_same ⟨y + 1, rv', T', vals', by rw [hsucc]; rfl, rfl, by rw [hsucc]; exact ra2, by rw [hsucc]; exact ha2, rfl, by omega⟩⟩
    rw [lenStr_str, oW_some, n_lss, oW_some, bW_dec]
    constructor
    · intro hla
      have hla' : a < s.size := by simp only at hla; omega
      have hb := byteZ_lt hla'
      refine ixZ_str hla' ?_
      rw [cvb hb, oW_some, show (3 : Int) = ((3 : Nat) : Int) from rfl, remN (by omega), oW_some, n_add (by omega), oW_some, n_add (by simp only; omega), oW_some]
      have e := done (a + 1) (1 + (bytesN s)[a]! % 3) (by unfold mkAt; rw [if_pos (by rw [blen]; exact hla')]) (by unfold mkCnt; rw [if_pos (by rw [blen]; exact hla')])
      rw [show (((a + 1 : Nat)) : Int) = (a : Int) + 1 from by omega, show (((1 + (bytesN s)[a]! % 3 : Nat)) : Int) = 1 + (((bytesN s)[a]! % 3 : Nat) : Int) from by omega] at e
      exact e
    · intro hla
      have e := done a 1 (by unfold mkAt; rw [if_neg (by rw [blen]; simp only at hla; omega)]) (by unfold mkCnt; rw [if_neg (by rw [blen]; simp only at hla; omega)])
      exact e
  · intro hge
    have hyn : y = n := by omega
    subst hyn
    have hres : ((List.range y).foldl (mkSym (bytesN s) y) (mkAt (bytesN s) 0, [])).2 = (mkG (bytesN s)).rules := by
      show _ = (mkAll (bytesN s)).2
      unfold mkAll
      rw [hn]
    rw [hres] at ra
    have ld : ldW true 5 (mkB h y rv ++ T) (.pointer (some ⟨h.length + 3, 0, none⟩)) = some (.agg #[.slice (some ⟨h.length + 2, 0, none⟩) (2 + y) 5, .int .i64 2, .slice (some ⟨h.length + 1, 0, none⟩) 2 2, rv, .int .i64 2]) := by rw [ldW_agg, mkB_row]; rfl
    obtain ⟨c1, c2, c3⟩ := acc_cell ra.acc
    have hz : getRow (mkB h y rv ++ T) h.length = some ([(.slice none 0 0), (.int .i64 0), (.slice none 0 0), (.slice none 0 0), (.int .i64 0)], .exact) := by rw [List.append_assoc, row_app0]; rfl
    rw [ld, oW_some, stW_agg, hz, Option.bind_some, if_pos (by simp [okCell]; exact c3), sW_some]
    generalize hHf : (mkB h y rv ++ T).set h.length _ = Hf
    have hHf' : Hf = h ++ (.row [.slice (some ⟨h.length + 2, 0, none⟩) (2 + y) 5, .int .i64 2, .slice (some ⟨h.length + 1, 0, none⟩) 2 2, rv, .int .i64 2] .exact :: .row [.int .i64 0, .int .i64 1] .exact :: .row (names5.map .string) .exact :: .row [.slice (some ⟨h.length + 2, 0, none⟩) (2 + y) 5, .int .i64 2, .slice (some ⟨h.length + 1, 0, none⟩) 2 2, rv, .int .i64 2] .exact :: T) := by
      rw [← hHf, List.append_assoc, set_app0]; rfl
    have ra3 : RowsAt (h.length + 4) Hf rv vals (mkG (bytesN s)).rules := ra.congr fun q hq => by
      have hq4 : h.length + 4 ≤ q := by
        rcases hq with z | ⟨w, hw, z⟩
        · exact ra.acc.ge z
        · obtain ⟨p, hp, rfl⟩ := List.mem_iff_getElem.1 hw
          exact (ra.row p hp (by rw [← ra.len]; exact hp)).ge z
      rw [← hHf, List.getElem?_set_ne (by omega)]
    have hr0 : getRow Hf h.length = some ([.slice (some ⟨h.length + 2, 0, none⟩) (2 + y) 5, .int .i64 2, .slice (some ⟨h.length + 1, 0, none⟩) 2 2, rv, .int .i64 2], .exact) := by rw [hHf', row_app0]; rfl
    rw [ldP_agg, hr0]
    show oW (some (.agg #[.slice (some ⟨h.length + 2, 0, none⟩) (2 + y) 5, .int .i64 2, .slice (some ⟨h.length + 1, 0, none⟩) 2 2, rv, .int .i64 2])) _
    rw [oW_some]
    have e := hq rv vals T
    rw [hn] at e
    rw [hHf'] at ra3 ⊢
    exact e ra3

theorem mkH_gv {bs : List Nat} {h T : Heap} {rv : Value} {vals : List Value} (ra3 : RowsAt (h.length + 4) (mkH h (mkN bs) rv T) rv vals (mkG bs).rules) {Q : Value → Heap → Prop} (hq : Q (mkG bs).enc h) : gcV h Q (mkV h (mkN bs) rv) (mkH h (mkN bs) rv T) := by
  have hr1 : (mkH h (mkN bs) rv T)[h.length + 1]? = some (.row [.int .i64 0, .int .i64 1] .exact) := by rw [List.getElem?_append_right (by omega)]; simp
  have hr2 : (mkH h (mkN bs) rv T)[h.length + 2]? = some (.row (names5.map .string) .exact) := by rw [List.getElem?_append_right (by omega)]; simp
  have hn3 : mkN bs ≤ 3 := mkCnt_le (bs := bs) (a := 0) |>.2
  have hg := ra3.gv (h0 := h) (by omega)
  have fr : ∀ j, h.length ≤ j → frOf h.length [] j := fun j hj => ⟨hj, by simp⟩
  have gn : Gv (frOf h.length []) (rOf h.length []) (mkH h (mkN bs) rv T) (lit ((mkG bs).names.map .string)) (.slice (some ⟨h.length + 2, 0, none⟩) (2 + mkN bs) 5) := by
    show Gv _ _ _ (lit ((names5.take (2 + mkN bs)).map .string)) _
    refine Gv.frz (sz := 1) (fr _ (by omega)) hr2 (by omega) (fun e he => by obtain ⟨b, _, rfl⟩ := List.mem_map.1 he; rfl) (names_take hn3) (by simp [names5]; omega) (fun e he x hx => by
      obtain ⟨b, _, rfl⟩ := List.mem_map.1 he
      simp at hx; subst hx; exact .str _)
  have gt : Gv (frOf h.length []) (rOf h.length []) (mkH h (mkN bs) rv T) (ints (mkG bs).tokens) (.slice (some ⟨h.length + 1, 0, none⟩) 2 2) :=
    Gv.frz1 (fr _ (by omega)) hr1 rfl fun e he => by
      obtain ⟨b, _, rfl⟩ := List.mem_map.1 he
      exact ⟨rfl, .int _ _⟩
  refine gcV_end (v2 := (mkG bs).enc) (.agg _ _ rfl fun i p q => ?_) hq
  match i, p with
  | 0, _ => exact gn
  | 1, _ => exact .cl (.int _ _)
  | 2, _ => exact gt
  | 3, _ => exact hg
  | 4, _ => exact .cl (.int _ _)

theorem make16_spec {s : ByteArray} (hs : s.size ≤ 1000) {h : Heap} {Q : Value → Heap → Prop} (hq : Q (mkG (bytesN s)).enc h) : acall Try.prog F_homographref16_Make [.string s] h Q :=
  make16_raw hs fun _ _ _ ra => mkH_gv ra hq

/-- made: the same grammar. -/
theorem made17_spec {s : ByteArray} (hs : s.size ≤ 1000) {h : Heap} {Q : Value → Heap → Prop} (hq : Q (mkG (bytesN s)).enc h) : acall Try.prog F_homographlaw17_made [.string s] h Q := by
  apply W_homographlaw17_made_ok
  unfold W_homographlaw17_made
  rw [letH_eq]
  refine callW_plain.2 (make16_spec hs ?_)
  generalize mkG (bytesN s) = g at *
  have L1 : (h ++ [zg]).length = h.length + 1 := by simp
  rw [letH_eq, L1]
  have st5 : ∀ (H : Heap), stW 5 (H ++ [zg]) (.pointer (some ⟨H.length, 0, none⟩)) g.enc = some (H ++ [grow g]) := fun H => by
    rw [stW_agg, row_app0]
    show (some (_, Md.exact)).bind _ = _
    rw [Option.bind_some, if_pos (by simp [okCell]), set_app0]; rfl
  have e := st5 (h ++ [zg])
  rw [L1] at e
  rw [e, sW_some]
  have ga : GAt (h ++ [zg] ++ [grow g]) (h.length + 1) g := by rw [← L1]; exact GAt.box
  refine ga.names (ga.terms (ga.tokens (ga.rules (ga.start ?_))))
  rw [show bldW [(.slice none 0 0), (.int .i64 0), (.slice none 0 0), (.slice none 0 0), (.int .i64 0)] [(0, 1, lit (g.names.map .string)), (1, 1, .int .i64 g.terms), (2, 1, ints g.tokens), (3, 1, lit (g.rules.map ints)), (4, 1, .int .i64 g.start)] = some g.enc from rfl, oW_some]
  have e2 : stW 5 (h ++ [zg] ++ [grow g]) (.pointer (some ⟨h.length, 0, none⟩)) g.enc = some (h ++ [grow g, grow g]) := by
    rw [stW_agg, List.append_assoc, row_app0]
    show (some (_, Md.exact)).bind _ = _
    rw [Option.bind_some, if_pos (by simp [okCell]), set_app0]; rfl
  rw [e2, sW_some, ldP_agg, row_app0]
  show oW (some g.enc) _
  rw [oW_some]
  refine gcV_box ?_ hq
  refine .agg _ fun x hx => ?_
  simp at hx
  rcases hx with rfl | rfl | rfl | rfl | rfl
  · exact Cl.lit' fun e he x hx => by
      obtain ⟨b, _, rfl⟩ := List.mem_map.1 he
      simp at hx; subst hx; exact .str _
  · exact .int _ _
  · exact cl_il
  · exact cl_rows
  · exact .int _ _

end Go.Ax

