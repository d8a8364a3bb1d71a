/- SetsMore: a made grammar whose rules are still to grow. -/
import Derived.Test.YthhknneomcleoaaI0
namespace Go.Ax
open Go Go.Proofs Go.RowKit

/-- A grammar that was made at q: its tokens, its names, its rules. -/
structure MadeAt (q : Nat) (H : Heap) (rv : Value) (vals : List Value) (rules : List (List Int)) : Prop where
  tok : H[q + 1]? = some (.row [.int .i64 0, .int .i64 1] .exact)
  nam : H[q + 2]? = some (.row (names5.map .string) .exact)
  rows : RowsAt (q + 4) H rv vals rules
abbrev mkC (q y : Nat) (rv : Value) : List Value := [.slice (some ⟨q + 2, 0, none⟩) (2 + y) 5, .int .i64 2, .slice (some ⟨q + 1, 0, none⟩) 2 2, rv, .int .i64 2]
theorem RowsAt.app {n0 : Nat} {H t : Heap} {v : Value} {vals : List Value} {rows : List (List Int)} (a : RowsAt n0 H v vals rows) : RowsAt n0 (H ++ t) v vals rows :=
  ⟨a.acc.app, a.len, fun i p q => (a.row i p q).app, a.sep⟩
theorem RowsAt.lt {n0 : Nat} {H : Heap} {v : Value} {vals : List Value} {rows : List (List Int)} (a : RowsAt n0 H v vals rows) {j : Nat} (h : lies v j ∨ ∃ x ∈ vals, lies x j) : j < H.length := by
  rcases h with h | ⟨x, hx, h⟩
  · exact a.acc.lt h
  · obtain ⟨i, hi, rfl⟩ := List.mem_iff_getElem.1 hx
    exact (a.row i hi (by rw [← a.len]; exact hi)).lt h
theorem RowsAt.ge {n0 : Nat} {H : Heap} {v : Value} {vals : List Value} {rows : List (List Int)} (a : RowsAt n0 H v vals rows) {j : Nat} (h : lies v j ∨ ∃ x ∈ vals, lies x j) : n0 ≤ j := by
  rcases h with h | ⟨x, hx, h⟩
  · exact a.acc.ge h
  · obtain ⟨i, hi, rfl⟩ := List.mem_iff_getElem.1 hx
    exact (a.row i hi (by rw [← a.len]; exact hi)).ge h

theorem made17_raw {s : ByteArray} (hs : s.size ≤ 1000) {h : Heap} {Q : Value → Heap → Prop} (hq : ∀ q T rv vals, h.length ≤ q → MadeAt q (h ++ T) rv vals (mkG (bytesN s)).rules → Q (.agg (mkC q (mkN (bytesN s)) rv).toArray) (h ++ T)) : acall Try.prog F_homographlaw17_made [.string s] h Q := by
  apply W_homographlaw17_made_ok
  unfold W_homographlaw17_made
  rw [letH_eq]
  refine callW_plain.2 (make16_raw hs fun rv vals T ra => gcV_same ?_)
  generalize mkN (bytesN s) = n at *
  generalize (mkG (bytesN s)).rules = rules at *
  generalize hq0 : h.length + 1 = q
  have L1 : (h ++ [zg]).length = q := by simp [hq0]
  obtain ⟨c1, c2, c3⟩ := acc_cell ra.acc
  have hsl : ∃ a l c, rv = .slice a l c := by
    rcases ra.acc with ⟨e, _⟩ | ⟨_, _, _, _, _, e, _⟩ <;> exact ⟨_, _, _, e⟩
  rw [L1] at ra
  show letH (mkH (h ++ [zg]) n rv T ++ _) _
  have ev : mkV (h ++ [zg]) n rv = .agg (mkC q n rv).toArray := by
    show Value.agg _ = _
    rw [L1]
  show sW (stW 5 _ (.pointer (some ⟨(mkH (h ++ [zg]) n rv T).length, 0, none⟩)) (mkV (h ++ [zg]) n rv)) _
  rw [ev]
  generalize hX : mkH (h ++ [zg]) n rv T = X at ra ⊢
  have hXl : h.length < X.length := by rw [← hX]; simp
  have st5 : stW 5 (X ++ [zg]) (.pointer (some ⟨X.length, 0, none⟩)) (.agg (mkC q n rv).toArray) = some (X ++ [AObj.row (mkC q n rv) .exact]) := by
    rw [stW_agg, row_app0]
    show (some (_, Md.exact)).bind _ = _
    rw [Option.bind_some, if_pos (by simp [okCell]; exact c3), set_app0]; rfl
  rw [show (X ++ [AObj.row [(.slice none 0 0), (.int .i64 0), (.slice none 0 0), (.slice none 0 0), (.int .i64 0)] .exact]) = X ++ [zg] from rfl, st5, sW_some]
  have hr : getRow (X ++ [AObj.row (mkC q n rv) .exact]) X.length = some (mkC q n rv, .exact) := by rw [row_app0]; rfl
  rw [fa_ptr, oW_some, ldW_one, hr]
  show oW (some (.slice (some ⟨q + 2, 0, none⟩) (2 + n) 5)) _
  rw [oW_some, fa_ptr, oW_some, ldW_one, hr]
  show oW (some (.int .i64 2)) _
  rw [oW_some, fa_ptr, oW_some, ldW_one, hr]
  show oW (some (.slice (some ⟨q + 1, 0, none⟩) 2 2)) _
  rw [oW_some, fa_ptr, oW_some, ldW_one, hr]
  show oW (some rv) _
  rw [oW_some, fa_ptr, oW_some, ldW_one, hr]
  show oW (some (.int .i64 2)) _
  rw [oW_some]
  have eb : bldW [(.slice none 0 0), (.int .i64 0), (.slice none 0 0), (.slice none 0 0), (.int .i64 0)] [(0, 1, .slice (some ⟨q + 2, 0, none⟩) (2 + n) 5), (1, 1, .int .i64 2), (2, 1, .slice (some ⟨q + 1, 0, none⟩) 2 2), (3, 1, rv), (4, 1, .int .i64 2)] = some (.agg (mkC q n rv).toArray) := by
    obtain ⟨_, _, _, rfl⟩ := hsl
    rfl
  rw [eb, oW_some]
  have hz : getRow (X ++ [AObj.row (mkC q n rv) .exact]) h.length = some ([(.slice none 0 0), (.int .i64 0), (.slice none 0 0), (.slice none 0 0), (.int .i64 0)], .exact) := by
    rw [← hX]
    show getRow (h ++ [zg] ++ _ ++ _) h.length = _
    rw [List.append_assoc, List.append_assoc, row_app0]; rfl
  have hset : (X ++ [AObj.row (mkC q n rv) .exact]).set h.length (AObj.row (mkC q n rv) .exact) = h ++ ((X ++ [AObj.row (mkC q n rv) .exact]).set h.length (AObj.row (mkC q n rv) .exact)).drop h.length := by
    have e := List.take_append_drop h.length ((X ++ [AObj.row (mkC q n rv) .exact]).set h.length (AObj.row (mkC q n rv) .exact))
    rw [List.take_set_of_le (Nat.le_refl _)] at e
    have : (X ++ [AObj.row (mkC q n rv) .exact]).take h.length = h := by
      rw [← hX]; simp
    rw [this] at e; exact e.symm
  have st6 : stW 5 (X ++ [AObj.row (mkC q n rv) .exact]) (.pointer (some ⟨h.length, 0, none⟩)) (.agg (mkC q n rv).toArray) = some ((X ++ [AObj.row (mkC q n rv) .exact]).set h.length (AObj.row (mkC q n rv) .exact)) := by
    rw [stW_agg, hz, Option.bind_some, if_pos (by simp [okCell]; exact c3)]; rfl
  rw [st6, sW_some]
  have hr0 : getRow ((X ++ [AObj.row (mkC q n rv) .exact]).set h.length (AObj.row (mkC q n rv) .exact)) h.length = some (mkC q n rv, .exact) := by unfold getRow; rw [List.getElem?_set_self (by simp; omega)]
  rw [ldP_agg, hr0]
  show oW (some (.agg (mkC q n rv).toArray)) _
  rw [oW_some]
  have at_ : ∀ j, h.length ≠ j → j < X.length → ((X ++ [AObj.row (mkC q n rv) .exact]).set h.length (AObj.row (mkC q n rv) .exact))[j]? = X[j]? := fun j h1 h2 => by
    rw [List.getElem?_set_ne h1, List.getElem?_append_left h2]
  have l1 : q + 1 < X.length := by rw [← hX]; simp; omega
  have l2 : q + 2 < X.length := by rw [← hX]; simp; omega
  have t1 : X[q + 1]? = some (.row [.int .i64 0, .int .i64 1] .exact) := by
    rw [← hX, List.getElem?_append_right (by rw [L1]; omega), L1, Nat.add_sub_cancel_left]; rfl
  have t2 : X[q + 2]? = some (.row (names5.map .string) .exact) := by
    rw [← hX, List.getElem?_append_right (by rw [L1]; omega), L1, Nat.add_sub_cancel_left]; rfl
  have m : MadeAt q ((X ++ [AObj.row (mkC q n rv) .exact]).set h.length (AObj.row (mkC q n rv) .exact)) rv vals rules :=
    ⟨by rw [at_ _ (by omega) l1, t1], by rw [at_ _ (by omega) l2, t2], ra.congr fun j hj => at_ j (by have := ra.ge hj; omega) (ra.lt hj)⟩
  rw [hset] at m ⊢
  exact gcV_same (hq q _ rv vals (by omega) m)

/-- Rows are the same, but for their modes. -/
def SameC (H H' : Heap) : Prop := ∀ (j : Nat) (c : List Value) (m : Md), H[j]? = some (.row c m) → ∃ m', H'[j]? = some (.row c m')
theorem SameC.refl {H : Heap} : SameC H H := fun _ _ m h => ⟨m, h⟩
theorem SameC.trans {A B C : Heap} (a : SameC A B) (b : SameC B C) : SameC A C := fun j c m h => by
  obtain ⟨m', h'⟩ := a j c m h
  exact b j c m' h'
theorem SameC.app {H t : Heap} : SameC H (H ++ t) := fun j c m h => ⟨m, by rw [List.getElem?_append_left (List.getElem?_eq_some_iff.1 h).1]; exact h⟩

theorem Acc.gvC {n p : Nat} {H H' : Heap} {v : Value} {l : List Value} {fr : Nat → Prop} {r : Nat → Option Nat} (a : Acc 1 n H v l) (s : SameC H H') (hf : ∀ j c m, n ≤ j → j ≠ p → H'[j]? = some (.row c m) → fr j) (hp : ∀ j, lies v j → j ≠ p) (hz : ∀ x ∈ l, (cellsOf x).length = 1) (hcl : ∀ e ∈ l, ∀ x ∈ cellsOf e, Cl x) : Gv fr r H' (lit l) v := by
  rcases a with ⟨rfl, rfl⟩ | ⟨i, cap, c, m, h1, rfl, h3, h4, h5, h6, h7⟩
  · exact .lit0 _ _
  · obtain ⟨m', e⟩ := s i c m (getRow_eq h3)
    exact Gv.frz (sz := 1) (hf i c m' h1 (hp i ⟨0, _, _, rfl⟩) e) e (by omega) hz (by rw [List.drop_zero, h7]) rfl hcl
theorem RowsAt.gvC {n0 p : Nat} {H H' : Heap} {v : Value} {vals : List Value} {rows : List (List Int)} {fr : Nat → Prop} {r : Nat → Option Nat} (a : RowsAt n0 H v vals rows) (s : SameC H H') (hf : ∀ j c m, n0 ≤ j → j ≠ p → H'[j]? = some (.row c m) → fr j) (hp : ∀ j, (lies v j ∨ ∃ x ∈ vals, lies x j) → j ≠ p) : Gv fr r H' (lit (rows.map ints)) v := by
  have hl := a.len
  have hfl : vals.flatMap cellsOf = vals := flat_one fun e he => by
    obtain ⟨i, hi, rfl⟩ := List.mem_iff_getElem.1 he
    exact (acc_cell (a.row i hi (by omega))).2.1
  rcases a.acc with ⟨rfl, e⟩ | ⟨q, cap, cc, m, h1, rfl, h3, h4, h5, h6, h7⟩
  · have : rows = [] := List.eq_nil_of_length_eq_zero (by rw [← hl, e]; rfl)
    subst this
    exact .lit0 _ _
  · obtain ⟨m', e⟩ := s q cc m (getRow_eq h3)
    rw [hfl] at h7
    simp only [Nat.mul_one] at h7 h5
    have := Gv.frzS (fr := fr) (r := r) (h := H') (rows.map ints).toArray q 0 1 cap cc m' (hf q cc m' h1 (hp q (.inl ⟨0, _, _, rfl⟩)) e) e (by omega) (fun k p => by simp) (by simp; omega) fun k j p p2 p3 => ?_
    · simpa [hl] using this
    · have hk : k < rows.length := by simpa using p
      have hkm : k < vals.length := by omega
      have hj0 : j = 0 := by simp at p2; exact p2
      subst hj0
      have hc : cc[0 + (k * 1 + 0)] = vals[k] := by
        have h8 := get_take h7 hkm
        rw [List.getElem?_eq_getElem hkm] at h8
        have h9 := List.getElem?_eq_getElem p3
        have e0 : 0 + (k * 1 + 0) = k := by omega
        have h10 : cc[0 + (k * 1 + 0)]? = some vals[k] := by rw [e0]; exact h8
        exact Option.some.inj (h9.symm.trans h10)
      rw [hc]
      have e2 : (cellsOf (rows.map ints).toArray[k])[0]'p2 = ints rows[k] := by simp
      rw [e2]
      exact (a.row k hkm hk).gvC s hf (fun j hj => hp j (.inr ⟨_, List.getElem_mem hkm, hj⟩)) int_len int_cl

/-- Rows from n0 on, but for one, are frozen. -/
def roB (n0 p : Nat) (H : Heap) : Heap := H.mapIdx fun j o => if n0 ≤ j ∧ j ≠ p then roO o else o
def frB (n0 p : Nat) (H : Heap) (j : Nat) : Prop := (n0 ≤ j ∧ j ≠ p) ∧ ∃ c m, H[j]? = some (.row c m)
theorem roB_at {n0 p : Nat} {H : Heap} {j : Nat} : (roB n0 p H)[j]? = (H[j]?).map fun o => if n0 ≤ j ∧ j ≠ p then roO o else o := by
  unfold roB; rw [List.getElem?_mapIdx]
theorem gh_roB {n0 p : Nat} {H : Heap} : Gh H (frB n0 p H) (idR H) H (roB n0 p H) := by
  have hl : (roB n0 p H).length = H.length := by simp [roB]
  refine ⟨fun j hj => idR_lt hj, by rw [hl]; exact Nat.le_refl _, fun j i e => by rw [hl]; exact (idR_of e).1, fun j c2 m2 hj => ?_, fun j es hj => ?_, fun j k i hj hk _ _ => by rw [← (idR_of hj).2, ← (idR_of hk).2]⟩
  · rw [roB_at] at hj
    cases ho : H[j]? with
    | none => rw [ho] at hj; cases hj
    | some o =>
      have hlt := (List.getElem?_eq_some_iff.1 ho).1
      rw [ho, Option.map_some] at hj
      by_cases q : n0 ≤ j ∧ j ≠ p
      · rw [if_pos q] at hj
        cases o with
        | row c m => cases hj; exact ⟨j, c2, m, idR_lt hlt, ho, rfl, .inr ⟨rfl, m, rfl⟩, .inr rfl, fun _ => rfl⟩
        | map es => cases hj
        | dead => cases hj
      · rw [if_neg q] at hj
        cases hj
        exact ⟨j, c2, m2, idR_lt hlt, ho, rfl, .inr ⟨rfl, m2, rfl⟩, .inl rfl, fun z => absurd z.1 q⟩
  · rw [roB_at] at hj
    cases ho : H[j]? with
    | none => rw [ho] at hj; cases hj
    | some o =>
      have hlt := (List.getElem?_eq_some_iff.1 ho).1
      rw [ho, Option.map_some] at hj
      have : o = .map es := by
        by_cases q : n0 ≤ j ∧ j ≠ p
        · rw [if_pos q] at hj
          cases o <;> cases hj; rfl
        · rw [if_neg q] at hj; cases hj; rfl
      subst this
      exact ⟨j, es, idR_lt hlt, (fun z => by obtain ⟨_, c, m, z⟩ := z; rw [ho] at z; cases z), ho, rfl, .inr ⟨rfl, rfl⟩⟩
theorem roB_same {n0 p : Nat} {H : Heap} : SameC H (roB n0 p H) := fun j c m h => by
  rw [roB_at, h, Option.map_some]
  split
  · exact ⟨.ro, rfl⟩
  · exact ⟨m, rfl⟩
theorem roB_low {n0 p : Nat} {H : Heap} {j : Nat} (hj : j < n0 ∨ j = p) : (roB n0 p H)[j]? = H[j]? := by
  rw [roB_at]
  cases H[j]? with
  | none => rfl
  | some o => rw [Option.map_some, if_neg (by omega)]
theorem roB_len {n0 p : Nat} {H : Heap} : (roB n0 p H).length = H.length := by simp [roB]

/-- A grammar, not frozen yet, whatever is frozen around it. -/
def GrW (n0 p : Nat) (H : Heap) (w : Value) (g : Gr) : Prop := ∀ H', SameC H H' → Gv (frB n0 p H') (idR H') H' g.enc w
theorem GrW.same {n0 p : Nat} {H H' : Heap} {w : Value} {g : Gr} (a : GrW n0 p H w g) (s : SameC H H') : GrW n0 p H' w g := fun H2 s2 => a H2 (s.trans s2)
theorem GrW.call {n0 p : Nat} {H : Heap} {w : Value} {g : Gr} (a : GrW n0 p H w g) {f : FuncId} {K : Value → Heap → Prop} (k : acall Try.prog f [g.enc] (roB n0 p H) K) : callW Try.prog (fn f) [w] H K :=
  callW_plain.2 (acall_frz gh_roB (args2 := [g.enc]) ⟨a H .refl, trivial⟩ k)
theorem gr_of {q n0 p n : Nat} {H : Heap} {rv : Value} {vals : List Value} {g : Gr} (tok : H[q + 1]? = some (.row [.int .i64 0, .int .i64 1] .exact)) (nam : H[q + 2]? = some (.row (names5.map .string) .exact)) (rows : RowsAt n0 H rv vals g.rules) (hg : g.names = names5.take (2 + n)) (ht : g.terms = 2) (hk : g.tokens = [0, 1]) (hs : g.start = 2) (hn : n ≤ 3) (hq : n0 ≤ q + 1) (hp : q + 2 < p) (hl : ∀ j, (lies rv j ∨ ∃ x ∈ vals, lies x j) → j ≠ p) : GrW n0 p H (.agg (mkC q n rv).toArray) g := fun H' s => by
  have hf : ∀ j c m, n0 ≤ j → j ≠ p → H'[j]? = some (.row c m) → frB n0 p H' j := fun j c m h1 h2 h3 => ⟨⟨h1, h2⟩, c, m, h3⟩
  obtain ⟨m1, e1⟩ := s _ _ _ tok
  obtain ⟨m2, e2⟩ := s _ _ _ nam
  refine .agg _ _ rfl fun i p q => ?_
  match i, p with
  | 0, _ =>
    show Gv _ _ _ (lit (g.names.map .string)) _
    rw [hg]
    refine Gv.frz (sz := 1) (hf _ _ _ (by omega) (by omega) e2) e2 (by omega) (fun e he => by obtain ⟨b, _, rfl⟩ := List.mem_map.1 he; rfl) (names_take hn) (by simp [names5]; omega) (fun e he x hx => by
      obtain ⟨b, _, rfl⟩ := List.mem_map.1 he
      simp at hx; subst hx; exact .str _)
  | 1, _ =>
    show Gv _ _ _ (.int .i64 g.terms) (.int .i64 2)
    rw [ht]; exact .cl (.int _ _)
  | 2, _ =>
    show Gv _ _ _ (ints g.tokens) _
    rw [hk]; exact gv_ints (hf _ _ _ (by omega) (by omega) e1) e1 rfl
  | 3, _ => exact rows.gvC s hf hl
  | 4, _ =>
    show Gv _ _ _ (.int .i64 g.start) (.int .i64 2)
    rw [hs]; exact .cl (.int _ _)

end Go.Ax
