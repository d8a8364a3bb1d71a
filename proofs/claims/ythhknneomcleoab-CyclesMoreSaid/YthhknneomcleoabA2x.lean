/- CyclesMore: the walk. -/
import Derived.Test.YthhknneomcleoabA1x
namespace Go.Ax
theorem Dl.mono {α : Type} {C D : Cl1 α → Prop} (h : ∀ c, C c → D c) {x : α} (d : Dl C x) : Dl D x := by
  induction d with
  | mk hc _ ih => exact .mk (h _ hc) ih
end Go.Ax
namespace Go.Ax
open Go Go.Proofs Go.RowKit
/-- A grammar that was made at q: its tokens, its names, its rules. -/
structure MadeAt (q : Nat) (H : Heap) (rv : Value) (vals : List Value) (rules : List (List Int)) : Prop where
  tok : H[q + 1]? = some (.row [.int .i64 0, .int .i64 1] .exact)
  nam : H[q + 2]? = some (.row (names5.map .string) .exact)
  rows : RowsAt (q + 4) H rv vals rules
abbrev mkC (q y : Nat) (rv : Value) : List Value := [.slice (some ⟨q + 2, 0, none⟩) (2 + y) 5, .int .i64 2, .slice (some ⟨q + 1, 0, none⟩) 2 2, rv, .int .i64 2]
theorem RowsAt.app {n0 : Nat} {H t : Heap} {v : Value} {vals : List Value} {rows : List (List Int)} (a : RowsAt n0 H v vals rows) : RowsAt n0 (H ++ t) v vals rows :=
  ⟨a.acc.app, a.len, fun i p q => (a.row i p q).app, a.sep⟩
theorem RowsAt.lt {n0 : Nat} {H : Heap} {v : Value} {vals : List Value} {rows : List (List Int)} (a : RowsAt n0 H v vals rows) {j : Nat} (h : lies v j ∨ ∃ x ∈ vals, lies x j) : j < H.length := by
  rcases h with h | ⟨x, hx, h⟩
  · exact a.acc.lt h
  · obtain ⟨i, hi, rfl⟩ := List.mem_iff_getElem.1 hx
    exact (a.row i hi (by rw [← a.len]; exact hi)).lt h
theorem RowsAt.ge {n0 : Nat} {H : Heap} {v : Value} {vals : List Value} {rows : List (List Int)} (a : RowsAt n0 H v vals rows) {j : Nat} (h : lies v j ∨ ∃ x ∈ vals, lies x j) : n0 ≤ j := by
  rcases h with h | ⟨x, hx, h⟩
  · exact a.acc.ge h
  · obtain ⟨i, hi, rfl⟩ := List.mem_iff_getElem.1 hx
    exact (a.row i hi (by rw [← a.len]; exact hi)).ge h
theorem made18_raw {s : ByteArray} (hs : s.size ≤ 1000) {h : Heap} {Q : Value → Heap → Prop} (hq : ∀ q T rv vals, h.length ≤ q → MadeAt q (h ++ T) rv vals (mkG (bytesN s)).rules → Q (.agg (mkC q (mkN (bytesN s)) rv).toArray) (h ++ T)) : acall Try.prog F_homographlaw18_made [.string s] h Q := by
  apply W_homographlaw18_made_ok
  unfold W_homographlaw18_made
  rw [letH_eq]
  refine callW_plain.2 (make16_raw hs fun rv vals T ra => gcV_same ?_)
  generalize mkN (bytesN s) = n at *
  generalize (mkG (bytesN s)).rules = rules at *
  generalize hq0 : h.length + 1 = q
  have L1 : (h ++ [zg]).length = q := by simp [hq0]
  obtain ⟨c1, c2, c3⟩ := acc_cell ra.acc
  have hsl : ∃ a l c, rv = .slice a l c := by
    rcases ra.acc with ⟨e, _⟩ | ⟨_, _, _, _, _, e, _⟩ <;> exact ⟨_, _, _, e⟩
  rw [L1] at ra
  show letH (mkH (h ++ [zg]) n rv T ++ _) _
  have ev : mkV (h ++ [zg]) n rv = .agg (mkC q n rv).toArray := by
    show Value.agg _ = _
    rw [L1]
  show sW (stW 5 _ (.pointer (some ⟨(mkH (h ++ [zg]) n rv T).length, 0, none⟩)) (mkV (h ++ [zg]) n rv)) _
  rw [ev]
  generalize hX : mkH (h ++ [zg]) n rv T = X at ra ⊢
  have hXl : h.length < X.length := by rw [← hX]; simp
  have st5 : stW 5 (X ++ [zg]) (.pointer (some ⟨X.length, 0, none⟩)) (.agg (mkC q n rv).toArray) = some (X ++ [AObj.row (mkC q n rv) .exact]) := by
    rw [stW_agg, row_app0]
    show (some (_, Md.exact)).bind _ = _
    rw [Option.bind_some, if_pos (by simp [okCell]; exact c3), set_app0]; rfl
  rw [show (X ++ [AObj.row [(.slice none 0 0), (.int .i64 0), (.slice none 0 0), (.slice none 0 0), (.int .i64 0)] .exact]) = X ++ [zg] from rfl, st5, sW_some]
  have hr : getRow (X ++ [AObj.row (mkC q n rv) .exact]) X.length = some (mkC q n rv, .exact) := by rw [row_app0]; rfl
  rw [fa_ptr, oW_some, ldW_one, hr]
  show oW (some (.slice (some ⟨q + 2, 0, none⟩) (2 + n) 5)) _
  rw [oW_some, fa_ptr, oW_some, ldW_one, hr]
  show oW (some (.int .i64 2)) _
  rw [oW_some, fa_ptr, oW_some, ldW_one, hr]
  show oW (some (.slice (some ⟨q + 1, 0, none⟩) 2 2)) _
  rw [oW_some, fa_ptr, oW_some, ldW_one, hr]
  show oW (some rv) _
  rw [oW_some, fa_ptr, oW_some, ldW_one, hr]
  show oW (some (.int .i64 2)) _
  rw [oW_some]
  have eb : bldW [(.slice none 0 0), (.int .i64 0), (.slice none 0 0), (.slice none 0 0), (.int .i64 0)] [(0, 1, .slice (some ⟨q + 2, 0, none⟩) (2 + n) 5), (1, 1, .int .i64 2), (2, 1, .slice (some ⟨q + 1, 0, none⟩) 2 2), (3, 1, rv), (4, 1, .int .i64 2)] = some (.agg (mkC q n rv).toArray) := by
    obtain ⟨_, _, _, rfl⟩ := hsl
    rfl
  rw [eb, oW_some]
  have hz : getRow (X ++ [AObj.row (mkC q n rv) .exact]) h.length = some ([(.slice none 0 0), (.int .i64 0), (.slice none 0 0), (.slice none 0 0), (.int .i64 0)], .exact) := by
    rw [← hX]
    show getRow (h ++ [zg] ++ _ ++ _) h.length = _
    rw [List.append_assoc, List.append_assoc, row_app0]; rfl
  have hset : (X ++ [AObj.row (mkC q n rv) .exact]).set h.length (AObj.row (mkC q n rv) .exact) = h ++ ((X ++ [AObj.row (mkC q n rv) .exact]).set h.length (AObj.row (mkC q n rv) .exact)).drop h.length := by
    have e := List.take_append_drop h.length ((X ++ [AObj.row (mkC q n rv) .exact]).set h.length (AObj.row (mkC q n rv) .exact))
    rw [List.take_set_of_le (Nat.le_refl _)] at e
    have : (X ++ [AObj.row (mkC q n rv) .exact]).take h.length = h := by
      rw [← hX]; simp
    rw [this] at e; exact e.symm
  have st6 : stW 5 (X ++ [AObj.row (mkC q n rv) .exact]) (.pointer (some ⟨h.length, 0, none⟩)) (.agg (mkC q n rv).toArray) = some ((X ++ [AObj.row (mkC q n rv) .exact]).set h.length (AObj.row (mkC q n rv) .exact)) := by
    rw [stW_agg, hz, Option.bind_some, if_pos (by simp [okCell]; exact c3)]; rfl
  rw [st6, sW_some]
  have hr0 : getRow ((X ++ [AObj.row (mkC q n rv) .exact]).set h.length (AObj.row (mkC q n rv) .exact)) h.length = some (mkC q n rv, .exact) := by unfold getRow; rw [List.getElem?_set_self (by simp; omega)]
  rw [ldP_agg, hr0]
  show oW (some (.agg (mkC q n rv).toArray)) _
  rw [oW_some]
  have at_ : ∀ j, h.length ≠ j → j < X.length → ((X ++ [AObj.row (mkC q n rv) .exact]).set h.length (AObj.row (mkC q n rv) .exact))[j]? = X[j]? := fun j h1 h2 => by
    rw [List.getElem?_set_ne h1, List.getElem?_append_left h2]
  have l1 : q + 1 < X.length := by rw [← hX]; simp; omega
  have l2 : q + 2 < X.length := by rw [← hX]; simp; omega
  have t1 : X[q + 1]? = some (.row [.int .i64 0, .int .i64 1] .exact) := by
    rw [← hX, List.getElem?_append_right (by rw [L1]; omega), L1, Nat.add_sub_cancel_left]; rfl
  have t2 : X[q + 2]? = some (.row (names5.map .string) .exact) := by
    rw [← hX, List.getElem?_append_right (by rw [L1]; omega), L1, Nat.add_sub_cancel_left]; rfl
  have m : MadeAt q ((X ++ [AObj.row (mkC q n rv) .exact]).set h.length (AObj.row (mkC q n rv) .exact)) rv vals rules :=
    ⟨by rw [at_ _ (by omega) l1, t1], by rw [at_ _ (by omega) l2, t2], ra.congr fun j hj => at_ j (by have := ra.ge hj; omega) (ra.lt hj)⟩
  rw [hset] at m ⊢
  exact gcV_same (hq q _ rv vals (by omega) m)
/-- Rows are the same, but for their modes. -/
def SameC (H H' : Heap) : Prop := ∀ (j : Nat) (c : List Value) (m : Md), H[j]? = some (.row c m) → ∃ m', H'[j]? = some (.row c m')
theorem SameC.refl {H : Heap} : SameC H H := fun _ _ m h => ⟨m, h⟩
theorem SameC.trans {A B C : Heap} (a : SameC A B) (b : SameC B C) : SameC A C := fun j c m h => by
  obtain ⟨m', h'⟩ := a j c m h
  exact b j c m' h'
theorem SameC.app {H t : Heap} : SameC H (H ++ t) := fun j c m h => ⟨m, by rw [List.getElem?_append_left (List.getElem?_eq_some_iff.1 h).1]; exact h⟩
theorem Acc.gvC {n p : Nat} {H H' : Heap} {v : Value} {l : List Value} {fr : Nat → Prop} {r : Nat → Option Nat} (a : Acc 1 n H v l) (s : SameC H H') (hf : ∀ j c m, n ≤ j → j ≠ p → H'[j]? = some (.row c m) → fr j) (hp : ∀ j, lies v j → j ≠ p) (hz : ∀ x ∈ l, (cellsOf x).length = 1) (hcl : ∀ e ∈ l, ∀ x ∈ cellsOf e, Cl x) : Gv fr r H' (lit l) v := by
  rcases a with ⟨rfl, rfl⟩ | ⟨i, cap, c, m, h1, rfl, h3, h4, h5, h6, h7⟩
  · exact .lit0 _ _
  · obtain ⟨m', e⟩ := s i c m (getRow_eq h3)
    exact Gv.frz (sz := 1) (hf i c m' h1 (hp i ⟨0, _, _, rfl⟩) e) e (by omega) hz (by rw [List.drop_zero, h7]) rfl hcl
theorem RowsAt.gvC {n0 p : Nat} {H H' : Heap} {v : Value} {vals : List Value} {rows : List (List Int)} {fr : Nat → Prop} {r : Nat → Option Nat} (a : RowsAt n0 H v vals rows) (s : SameC H H') (hf : ∀ j c m, n0 ≤ j → j ≠ p → H'[j]? = some (.row c m) → fr j) (hp : ∀ j, (lies v j ∨ ∃ x ∈ vals, lies x j) → j ≠ p) : Gv fr r H' (lit (rows.map ints)) v := by
  have hl := a.len
  have hfl : vals.flatMap cellsOf = vals := flat_one fun e he => by
    obtain ⟨i, hi, rfl⟩ := List.mem_iff_getElem.1 he
    exact (acc_cell (a.row i hi (by omega))).2.1
  rcases a.acc with ⟨rfl, e⟩ | ⟨q, cap, cc, m, h1, rfl, h3, h4, h5, h6, h7⟩
  · have : rows = [] := List.eq_nil_of_length_eq_zero (by rw [← hl, e]; rfl)
    subst this
    exact .lit0 _ _
  · obtain ⟨m', e⟩ := s q cc m (getRow_eq h3)
    rw [hfl] at h7
    simp only [Nat.mul_one] at h7 h5
    have := Gv.frzS (fr := fr) (r := r) (h := H') (rows.map ints).toArray q 0 1 cap cc m' (hf q cc m' h1 (hp q (.inl ⟨0, _, _, rfl⟩)) e) e (by omega) (fun k p => by simp) (by simp; omega) fun k j p p2 p3 => ?_
    · simpa [hl] using this
    · have hk : k < rows.length := by simpa using p
      have hkm : k < vals.length := by omega
      have hj0 : j = 0 := by simp at p2; exact p2
      subst hj0
      have hc : cc[0 + (k * 1 + 0)] = vals[k] := by
        have h8 := get_take h7 hkm
        rw [List.getElem?_eq_getElem hkm] at h8
        have h9 := List.getElem?_eq_getElem p3
        have e0 : 0 + (k * 1 + 0) = k := by omega
        have h10 : cc[0 + (k * 1 + 0)]? = some vals[k] := by rw [e0]; exact h8
        exact Option.some.inj (h9.symm.trans h10)
      rw [hc]
      have e2 : (cellsOf (rows.map ints).toArray[k])[0]'p2 = ints rows[k] := by simp
      rw [e2]
      exact (a.row k hkm hk).gvC s hf (fun j hj => hp j (.inr ⟨_, List.getElem_mem hkm, hj⟩)) int_len int_cl
/-- Rows from n0 on, but for one, are frozen. -/
def roB (n0 p : Nat) (H : Heap) : Heap := H.mapIdx fun j o => if n0 ≤ j ∧ j ≠ p then roO o else o
def frB (n0 p : Nat) (H : Heap) (j : Nat) : Prop := (n0 ≤ j ∧ j ≠ p) ∧ ∃ c m, H[j]? = some (.row c m)
theorem roB_at {n0 p : Nat} {H : Heap} {j : Nat} : (roB n0 p H)[j]? = (H[j]?).map fun o => if n0 ≤ j ∧ j ≠ p then roO o else o := by
  unfold roB; rw [List.getElem?_mapIdx]
theorem gh_roB {n0 p : Nat} {H : Heap} : Gh H (frB n0 p H) (idR H) H (roB n0 p H) := by
  have hl : (roB n0 p H).length = H.length := by simp [roB]
  refine ⟨fun j hj => idR_lt hj, by rw [hl]; exact Nat.le_refl _, fun j i e => by rw [hl]; exact (idR_of e).1, fun j c2 m2 hj => ?_, fun j es hj => ?_, fun j k i hj hk _ _ => by rw [← (idR_of hj).2, ← (idR_of hk).2]⟩
  · rw [roB_at] at hj
    cases ho : H[j]? with
    | none => rw [ho] at hj; cases hj
    | some o =>
      have hlt := (List.getElem?_eq_some_iff.1 ho).1
      rw [ho, Option.map_some] at hj
      by_cases q : n0 ≤ j ∧ j ≠ p
      · rw [if_pos q] at hj
        cases o with
        | row c m => cases hj; exact ⟨j, c2, m, idR_lt hlt, ho, rfl, .inr ⟨rfl, m, rfl⟩, .inr rfl, fun _ => rfl⟩
        | map es => cases hj
        | dead => cases hj
      · rw [if_neg q] at hj
        cases hj
        exact ⟨j, c2, m2, idR_lt hlt, ho, rfl, .inr ⟨rfl, m2, rfl⟩, .inl rfl, fun z => absurd z.1 q⟩
  · rw [roB_at] at hj
    cases ho : H[j]? with
    | none => rw [ho] at hj; cases hj
    | some o =>
      have hlt := (List.getElem?_eq_some_iff.1 ho).1
      rw [ho, Option.map_some] at hj
      have : o = .map es := by
        by_cases q : n0 ≤ j ∧ j ≠ p
        · rw [if_pos q] at hj
          cases o <;> cases hj; rfl
        · rw [if_neg q] at hj; cases hj; rfl
      subst this
      exact ⟨j, es, idR_lt hlt, (fun z => by obtain ⟨_, c, m, z⟩ := z; rw [ho] at z; cases z), ho, rfl, .inr ⟨rfl, rfl⟩⟩
theorem roB_same {n0 p : Nat} {H : Heap} : SameC H (roB n0 p H) := fun j c m h => by
  rw [roB_at, h, Option.map_some]
  split
  · exact ⟨.ro, rfl⟩
  · exact ⟨m, rfl⟩
theorem roB_low {n0 p : Nat} {H : Heap} {j : Nat} (hj : j < n0 ∨ j = p) : (roB n0 p H)[j]? = H[j]? := by
  rw [roB_at]
  cases H[j]? with
  | none => rfl
  | some o => rw [Option.map_some, if_neg (by omega)]
theorem roB_len {n0 p : Nat} {H : Heap} : (roB n0 p H).length = H.length := by simp [roB]
/-- A grammar, not frozen yet, whatever is frozen around it. -/
def GrW (n0 p : Nat) (H : Heap) (w : Value) (g : Gr) : Prop := ∀ H', SameC H H' → Gv (frB n0 p H') (idR H') H' g.enc w
theorem GrW.same {n0 p : Nat} {H H' : Heap} {w : Value} {g : Gr} (a : GrW n0 p H w g) (s : SameC H H') : GrW n0 p H' w g := fun H2 s2 => a H2 (s.trans s2)
theorem GrW.call {n0 p : Nat} {H : Heap} {w : Value} {g : Gr} (a : GrW n0 p H w g) {f : FuncId} {K : Value → Heap → Prop} (k : acall Try.prog f [g.enc] (roB n0 p H) K) : callW Try.prog (fn f) [w] H K :=
  callW_plain.2 (acall_frz gh_roB (args2 := [g.enc]) ⟨a H .refl, trivial⟩ k)
theorem gr_of {q n0 p n : Nat} {H : Heap} {rv : Value} {vals : List Value} {g : Gr} (tok : H[q + 1]? = some (.row [.int .i64 0, .int .i64 1] .exact)) (nam : H[q + 2]? = some (.row (names5.map .string) .exact)) (rows : RowsAt n0 H rv vals g.rules) (hg : g.names = names5.take (2 + n)) (ht : g.terms = 2) (hk : g.tokens = [0, 1]) (hs : g.start = 2) (hn : n ≤ 3) (hq : n0 ≤ q + 1) (hp : q + 2 < p) (hl : ∀ j, (lies rv j ∨ ∃ x ∈ vals, lies x j) → j ≠ p) : GrW n0 p H (.agg (mkC q n rv).toArray) g := fun H' s => by
  have hf : ∀ j c m, n0 ≤ j → j ≠ p → H'[j]? = some (.row c m) → frB n0 p H' j := fun j c m h1 h2 h3 => ⟨⟨h1, h2⟩, c, m, h3⟩
  obtain ⟨m1, e1⟩ := s _ _ _ tok
  obtain ⟨m2, e2⟩ := s _ _ _ nam
  refine .agg _ _ rfl fun i p q => ?_
  match i, p with
  | 0, _ =>
    show Gv _ _ _ (lit (g.names.map .string)) _
    rw [hg]
    refine Gv.frz (sz := 1) (hf _ _ _ (by omega) (by omega) e2) e2 (by omega) (fun e he => by obtain ⟨b, _, rfl⟩ := List.mem_map.1 he; rfl) (names_take hn) (by simp [names5]; omega) (fun e he x hx => by
      obtain ⟨b, _, rfl⟩ := List.mem_map.1 he
      simp at hx; subst hx; exact .str _)
  | 1, _ =>
    show Gv _ _ _ (.int .i64 g.terms) (.int .i64 2)
    rw [ht]; exact .cl (.int _ _)
  | 2, _ =>
    show Gv _ _ _ (ints g.tokens) _
    rw [hk]; exact gv_ints (hf _ _ _ (by omega) (by omega) e1) e1 rfl
  | 3, _ => exact rows.gvC s hf hl
  | 4, _ =>
    show Gv _ _ _ (.int .i64 g.start) (.int .i64 2)
    rw [hs]; exact .cl (.int _ _)
end Go.Ax
namespace Go.Ax
open Go Go.Proofs Go.RowKit
theorem RowsAt.low {n0 n1 : Nat} {H : Heap} {v : Value} {vals : List Value} {rows : List (List Int)} (a : RowsAt n0 H v vals rows) (hn : n1 ≤ n0) : RowsAt n1 H v vals rows :=
  ⟨a.acc.low hn, a.len, fun i p q => (a.row i p q).low hn, a.sep⟩
theorem RowsAt.push2 {n0 : Nat} {B g : Heap} {v : Value} {vals : List Value} {rows : List (List Int)} (hB : B.length = n0) (a : RowsAt n0 (B ++ g) v vals rows) {x : Value} {r : List Int} (ax : Acc 1 n0 (B ++ g) x (r.map fun x => .int .i64 x)) (hx : ∀ j, lies x j → ¬ lies v j) (hb : rows.length ≤ 1000000) {K : Value → Heap → Prop}
    (k : ∀ v' g', RowsAt n0 (B ++ g') v' (vals ++ [x]) (rows ++ [r]) → (∀ j, j < (B ++ g).length → ¬ lies v j → (B ++ g')[j]? = (B ++ g)[j]?) → (∀ j, lies v' j → lies v j ∨ (B ++ g).length ≤ j) → K v' (B ++ g')) : hW (bslW (B ++ g) 1 [(.slice none 0 0)] [(0, 1, x)]) fun v1 h1 => hW (apW 1 24 h1 v v1) K := by
  have hl := a.len
  obtain ⟨c1, c2, c3⟩ := acc_cell ax
  refine Acc.push hB a.acc (by omega) a.cells (e := x) (by rw [c2]; rfl) c1 (by rw [c2]; simp [c3]) rfl (by omega) (by omega) fun v' g' a2 q1 q2 q3 => k v' g' ?_ q1 q2
  have keep : ∀ {y : Value} {l : List Value}, Acc 1 n0 (B ++ g) y l → (∀ j, lies y j → ¬ lies v j) → Acc 1 n0 (B ++ g') y l := fun ay hy => ay.congr fun j hj => q1 j (ay.lt hj) (hy j hj)
  refine ⟨a2, by simp [hl], fun i p q => ?_, fun i p j hj hv => ?_⟩
  · by_cases hi : i < vals.length
    · rw [List.getElem_append_left hi, List.getElem_append_left (by omega)]
      exact keep (a.row i hi (by omega)) fun j hj => a.sep i hi j hj
    · have hie : i = vals.length := by simp at p; omega
      subst hie
      rw [List.getElem_append_right (by omega), List.getElem_append_right (by omega)]
      simp only [hl, Nat.sub_self, List.getElem_singleton]
      exact keep ax hx
  · by_cases hi : i < vals.length
    · rw [List.getElem_append_left hi] at hj
      rcases q2 j hv with w | w
      · exact a.sep i hi j hj w
      · have := (a.row i hi (by omega)).lt hj
        omega
    · have hie : i = vals.length := by simp at p; omega
      subst hie
      rw [List.getElem_append_right (by omega)] at hj
      simp only [Nat.sub_self, List.getElem_singleton] at hj
      rcases q2 j hv with w | w
      · exact hx j hj w
      · have := ax.lt hj
        omega
def Gr.more (g : Gr) (r : List Int) : Gr := ⟨g.names, g.terms, g.tokens, g.rules ++ [r], g.start⟩
theorem more_ok {g : Gr} (ok : g.ok) {r : List Int} (hr : g.fits r) (hl : g.rules.length ≤ 200) : (g.more r).ok := by
  refine ⟨ok.t0, ok.tn, ok.tk, ok.nn, ?_, ?_, ok.st, fun x hx => ?_, fun s h1 h2 => ?_⟩
  · show 1 ≤ (g.rules ++ [r]).length; simp
  · show (g.rules ++ [r]).length ≤ 256; simp; omega
  · rcases List.mem_append.1 hx with q | q
    · exact ok.fit x q
    · simp only [List.mem_singleton] at q; subst q; exact hr
  · obtain ⟨x, hx, e⟩ := ok.all s h1 h2
    exact ⟨x, List.mem_append_left _ hx, e⟩
section
variable {g : Gr} {r : List Int}
theorem more_mem {x : List Int} (h : x ∈ g.rules) : x ∈ (g.more r).rules := List.mem_append_left _ h
theorem more_null {i : Nat} (h : g.null i) : (g.more r).null i := Dl.mono (fun _ ⟨x, hx, e⟩ => ⟨x, more_mem hx, e⟩) h
end
theorem setL_mono {n : Nat} {S T : Nat → Prop} (h : ∀ i, S i → T i) {i : Nat} (q : onL (setL n S) i) : onL (setL n T) i := by
  rw [setL_on] at q ⊢
  exact ⟨q.1, h i q.2⟩
theorem mkG_rules {bs : List Nat} : (mkG bs).rules.length ≤ 9 := by
  obtain ⟨new, e, hl, _⟩ := mkAll_ok (bs := bs) (n := mkN bs) (k := mkN bs) (st := (mkAt bs 0, []))
  have := (mkCnt_le (bs := bs) (a := 0)).2
  have hN : mkN bs = mkCnt bs 0 := rfl
  show (mkAll bs).2.length ≤ 9
  unfold mkAll
  rw [e]
  simp only [List.nil_append]
  omega
end Go.Ax
namespace Go.Ax
open Go Go.Proofs Go.RowKit
theorem GAt.at1 {H : Heap} {p : Nat} {g : Gr} (a : GAt H p g) : ldW false 1 H (.pointer (some ⟨p, 0 + 1, none⟩)) = some (.int .i64 g.terms) := by
  obtain ⟨m, e⟩ := a; rw [ldW_one, e]; rfl
theorem GAt.at00 {H : Heap} {p : Nat} {g : Gr} (a : GAt H p g) : ldW false 1 H (.pointer (some ⟨p, 0 + 0, none⟩)) = some (lit (g.names.map .string)) := by
  obtain ⟨m, e⟩ := a; rw [ldW_one, e]; rfl
theorem GAt.eq {H H' : Heap} {p : Nat} {g : Gr} (a : GAt H p g) (e : H'[p]? = H[p]?) : GAt H' p g := by
  obtain ⟨m, h⟩ := a; exact ⟨m, by rw [getRow_same e]; exact h⟩
end Go.Ax

namespace Go.Ax
open Go Go.Proofs Go.RowKit
theorem GrW.call2 {n0 p : Nat} {H : Heap} {w : Value} {g : Gr} {x : Int} (a : GrW n0 p H w g) {f : FuncId} {K : Value → Heap → Prop} (k : acall Try.prog f [g.enc, .int .i64 x] (roB n0 p H) K) : callW Try.prog (fn f) [w, .int .i64 x] H K :=
  callW_plain.2 (acall_frz gh_roB (args2 := [g.enc, .int .i64 x]) ⟨a H .refl, .cl (.int _ _), trivial⟩ k)
theorem more_emptyR {g : Gr} {r l : List Int} (h : emptyR g l) : emptyR (g.more r) l := fun x hx => by
  have := h x hx
  unfold Gr.nullL at *
  exact setL_mono (fun _ => more_null) this
theorem more_alone {g : Gr} {r : List Int} {i j : Nat} (h : g.alone i j) : (g.more r).alone i j := by
  obtain ⟨y, hy, a, x, b, e, ⟨h1, h2⟩, z⟩ := h
  exact ⟨y, more_mem hy, a, x, b, e, ⟨more_emptyR h1, more_emptyR h2⟩, z⟩
theorem more_ahead {g : Gr} {r : List Int} {m i j : Nat} (h : g.ahead m i j) : (g.more r).ahead m i j := by
  obtain ⟨y, hy, a, x, b, e, ⟨h1, h2⟩, z⟩ := h
  exact ⟨y, more_mem hy, a, x, b, e, ⟨h1, more_emptyR h2⟩, z⟩
theorem bs2n {H : Heap} {a b : Int} : bslW H 2 [(.int .i64 0), (.int .i64 0)] [(0, 1, (.int .i64 a)), (1, 1, (.int .i64 b))] = some (.slice (some ⟨H.length, 0, none⟩) 2 2, H ++ [.row [.int .i64 a, .int .i64 b] .exact]) := by
  simp [bslW, okVal, cellsOf]
def CmI (g g2 : Gr) (h H0 : Heap) (p s : Nat) (m : Nat) (vs : List Value) (H : Heap) : Prop :=
  ∃ i : Nat, vs = [.pointer (some ⟨h.length, 0, none⟩), .pointer (some ⟨p, 0, none⟩), .int .i64 (s : Int), bools g.cycL, bools g2.cycL, bools g.leftL, bools g2.leftL, .int .i64 (i : Int)] ∧ H = H0 ∧ m = g.n - i ∧ i ≤ g.n

theorem cyclesMore_walk {code : ByteArray} {left : Nat} (hcs : code.size ≤ 1000000000000000) (hleft : left < 256) {h : Heap} :
    acall Try.prog F_homographlaw18_CyclesMore [.string code, byte left] h fun v _ => v = .bool true := by
  classical
  apply W_homographlaw18_CyclesMore_ok
  unfold W_homographlaw18_CyclesMore
  refine callW_plain.2 (awake18_spec ?_)
  rw [u_not, oW_some, bW_bool]
  refine ⟨(fun q => by cases q), fun _ => ?_⟩
  rw [lenStr_str, oW_some, n_gtr, oW_some, bW_dec]
  constructor
  · intro _
    exact gcV_same rfl
  intro hc
  have ok := mkG_ok (bs := bytesN code)
  have hnn := mkG_n (bs := bytesN code)
  have hrules := mkG_rules (bs := bytesN code)
  have hm : mkN (bytesN code) = mkCnt (bytesN code) 0 := rfl
  have hm3 := mkCnt_le (bs := bytesN code) (a := 0)
  have e1 : (mkG (bytesN code)).names = names5.take (2 + mkN (bytesN code)) := rfl
  have e2 : (mkG (bytesN code)).terms = 2 := rfl
  have e3 : (mkG (bytesN code)).tokens = [0, 1] := rfl
  have e4 : (mkG (bytesN code)).start = 2 := rfl
  refine callW_plain.2 (made18_spec (by omega) ?_)
  rw [letH_eq]
  refine boxG ?_
  refine callW_plain.2 (made18_raw (by omega) fun q T rv vals hq mad => ?_)
  generalize mkG (bytesN code) = g at *
  generalize mkN (bytesN code) = mn at *
  rw [List.length_append, List.length_singleton] at hq
  rw [letH_eq]
  generalize hH2 : h ++ [grow g] ++ T = H2 at *
  have c3 : okCell rv = true := (acc_cell mad.rows.acc).2.2
  have st5 : stW 5 (H2 ++ [.row [(.slice none 0 0), (.int .i64 0), (.slice none 0 0), (.slice none 0 0), (.int .i64 0)] .exact]) (.pointer (some ⟨H2.length, 0, none⟩)) (.agg (mkC q mn rv).toArray) = some (H2 ++ [.row (mkC q mn rv) .exact]) := by
    rw [stW_agg, row_app0]
    show (some (_, Md.exact)).bind _ = _
    rw [Option.bind_some, if_pos (by simp [okCell]; exact c3), set_app0]; rfl
  rw [st5, sW_some]
  have hql : q + 2 < H2.length := (List.getElem?_eq_some_iff.1 mad.nam).1
  have hal : h.length < H2.length := by omega
  generalize hB : H2 ++ [AObj.row (mkC q mn rv) .exact] = B
  have hBl : B.length = H2.length + 1 := by rw [← hB]; simp
  have gB : GAt B h.length g := by rw [← hB, ← hH2]; exact GAt.box.app.app
  have pB : getRow B H2.length = some (mkC q mn rv, .exact) := by rw [← hB, row_app0]; rfl
  have mB : MadeAt q B rv vals g.rules := by
    rw [← hB]
    exact ⟨by rw [List.getElem?_append_left (by omega)]; exact mad.tok, by rw [List.getElem?_append_left hql]; exact mad.nam, mad.rows.app⟩
  have ltp : ∀ {j}, (lies rv j ∨ ∃ x ∈ vals, lies x j) → j < H2.length := fun hj => mad.rows.lt hj
  have geq : ∀ {j}, (lies rv j ∨ ∃ x ∈ vals, lies x j) → q + 4 ≤ j := fun hj => mad.rows.ge hj
  rw [fa_ptr, oW_some, gB.at1, oW_some, fa_ptr, oW_some, gB.at00, oW_some, lenN, oW_some, oW_some, gB.at1, oW_some, e2]
  show oW (binN .sub (.int .i64 (g.n : Int)) (.int .i64 2)) _
  rw [n_sub (by omega), oW_some, cvb hleft, oW_some, show (g.n : Int) - 2 = ((g.n - 2 : Nat) : Int) by omega]
  refine ⟨kept_same, ?_⟩
  have hlm : left % (g.n - 2) < g.n - 2 := Nat.mod_lt _ (by omega)
  rw [remN (by omega), oW_some, n_add (by omega), oW_some, show (2 : Int) + ((left % (g.n - 2) : Nat) : Int) = ((2 + left % (g.n - 2) : Nat) : Int) by omega]
  obtain ⟨s, es⟩ : ∃ s, 2 + left % (g.n - 2) = s := ⟨_, rfl⟩
  rw [es, fa_ptr, oW_some, ldW_one, pB]
  show oW (some rv) _
  rw [oW_some, bs2n, hW_some]
  have hsn : s < g.n := by omega
  -- the rule is put to the others
  have aX0 : Acc 1 (h.length + 1) (B ++ [AObj.row [.int .i64 (s : Int), .int .i64 (s : Int)] .exact]) (.slice (some ⟨B.length, 0, none⟩) 2 2) (([(s : Int), (s : Int)]).map fun x => .int .i64 x) := by
    have := Acc.made (sz := 1) (n := h.length + 1) (H := B) (l := ([(s : Int), (s : Int)]).map fun x => .int .i64 x) int_len (by omega)
    simpa [cellsOf] using this
  have pX : getRow (B ++ [AObj.row [.int .i64 (s : Int), .int .i64 (s : Int)] .exact]) H2.length = some (mkC q mn rv, .exact) := getRow_app pB
  have l1 : (h ++ [grow g]).length = h.length + 1 := by simp
  have eX : B ++ [AObj.row [.int .i64 (s : Int), .int .i64 (s : Int)] .exact] = (h ++ [grow g]) ++ (T ++ ([AObj.row (mkC q mn rv) .exact] ++ [AObj.row [.int .i64 (s : Int), .int .i64 (s : Int)] .exact])) := by rw [← hB, ← hH2]; simp
  have rX : RowsAt (h.length + 1) (B ++ [AObj.row [.int .i64 (s : Int), .int .i64 (s : Int)] .exact]) rv vals g.rules := mB.rows.app.low (by omega)
  have tX : (B ++ [AObj.row [.int .i64 (s : Int), .int .i64 (s : Int)] .exact])[q + 1]? = some (.row [.int .i64 0, .int .i64 1] .exact) := by rw [List.getElem?_append_left (by omega)]; exact mB.tok
  have nX : (B ++ [AObj.row [.int .i64 (s : Int), .int .i64 (s : Int)] .exact])[q + 2]? = some (.row (names5.map .string) .exact) := by rw [List.getElem?_append_left (by omega)]; exact mB.nam
  have xl : (B ++ [AObj.row [.int .i64 (s : Int), .int .i64 (s : Int)] .exact]).length = B.length + 1 := by simp
  generalize hxv : (Value.slice (some ⟨B.length, 0, none⟩) 2 2) = xv at *
  have vge : ∀ {j}, lies xv j → B.length ≤ j := fun {j} ⟨o, a, b, hj⟩ => by rw [← hxv] at hj; cases hj; exact Nat.le_refl _
  obtain ⟨row, hrow⟩ : ∃ row, ([(s : Int), (s : Int)] : List Int) = row := ⟨_, rfl⟩
  rw [hrow] at aX0
  generalize hX : B ++ [AObj.row [.int .i64 (s : Int), .int .i64 (s : Int)] .exact] = X at *
  rw [eX]
  rw [eX] at rX aX0 tX nX pX xl
  clear hX
  refine RowsAt.push2 l1 rX aX0 (fun j h1 h2 => by have := vge h1; have := ltp (.inl h2); omega) (by omega) fun v' G' r2 q1 q2 => ?_
  rw [← eX] at q1 q2 xl tX nX pX
  have same : ∀ j, j < X.length → ¬ lies rv j → ((h ++ [grow g]) ++ G')[j]? = X[j]? := q1
  have pY : getRow ((h ++ [grow g]) ++ G') H2.length = some (mkC q mn rv, .exact) := by
    rw [getRow_same (same _ (by omega) fun z => by have := ltp (.inl z); omega)]; exact pX
  rw [oW_some]
  obtain ⟨d1, d2, d3⟩ := acc_cell r2.acc
  rw [st1 pY (by simp) d1 d2 d3 (by simp), sW_some]
  generalize hF : ((h ++ [grow g]) ++ G').set H2.length _ = F
  have hF' : F = ((h ++ [grow g]) ++ G').set H2.length (.row (mkC q mn v') .exact) := hF.symm
  have offp : ∀ j, j ≠ H2.length → F[j]? = ((h ++ [grow g]) ++ G')[j]? := fun j hj => by rw [hF', List.getElem?_set_ne (Ne.symm hj)]
  have np : ∀ j, (lies v' j ∨ ∃ x ∈ vals ++ [xv], lies x j) → j ≠ H2.length := fun j hj => by
    rcases hj with z | ⟨x, hx, z⟩
    · rcases q2 j z with w | w
      · have := ltp (.inl w); omega
      · omega
    · rcases List.mem_append.1 hx with w | w
      · have := ltp (.inr ⟨x, w, z⟩); omega
      · simp only [List.mem_singleton] at w
        subst w
        have := vge z; omega
  have r3 : RowsAt (h.length + 1) F v' (vals ++ [xv]) (g.more row).rules := r2.congr fun j hj => offp j (np j hj)
  have tF : F[q + 1]? = some (.row [.int .i64 0, .int .i64 1] .exact) := by
    rw [offp _ (by omega), same _ (by omega) fun z => by have := geq (.inl z); omega]; exact tX
  have nF : F[q + 2]? = some (.row (names5.map .string) .exact) := by
    rw [offp _ (by omega), same _ (by omega) fun z => by have := geq (.inl z); omega]; exact nX
  have pF : getRow F H2.length = some (mkC q mn v', .exact) := by
    have hlt := getRow_lt pY
    unfold getRow; rw [hF', List.getElem?_set_self hlt]
  have gF : GAt F h.length g := GAt.eq (H := (h ++ [grow g]) ++ G') GAt.box.app (offp _ (by omega))
  have fits : g.fits row := by
    rw [← hrow]
    refine ⟨by simp, by simp, ?_, fun x hx => ?_⟩
    · show g.made (s : Int)
      unfold Gr.made inR
      rw [e2]; omega
    · have : x = (s : Int) := by simpa using hx
      subst this
      unfold inR; omega
  have ok2 : (g.more row).ok := more_ok ok fits (by omega)
  have n2 : (g.more row).n = g.n := rfl
  have hrm : row ∈ (g.more row).rules := List.mem_append_right _ (by simp)
  have hlr : lhs row = s := by rw [← hrow]; exact Int.toNat_natCast s
  have al : (g.more row).alone s s := ⟨row, hrm, [], (s : Int), [], by rw [← hrow]; rfl, ⟨by simp [emptyR], by simp [emptyR]⟩, hlr.symm, (Int.toNat_natCast s).symm⟩
  have ah : (g.more row).ahead 0 s s := alone_ahead al
  have gw : GrW (h.length + 1) H2.length F (.agg (mkC q mn v').toArray) (g.more row) := gr_of tF nF r3 e1 e2 e3 e4 (by omega) (by omega) hql np
  have hpF : H2.length < F.length := getRow_lt pF
  have ldp : ∀ (A : Heap) (m : Md), getRow A H2.length = some (mkC q mn v', m) → ldW true 5 A (.pointer (some ⟨H2.length, 0, none⟩)) = some (.agg (mkC q mn v').toArray) := fun A m e => by
    rw [ldW_agg, e]; rfl
  rw [gF.ld, oW_some]
  refine callW_plain.2 (cyclic_spec ok ?_)
  rw [ldp F _ pF, oW_some]
  refine gw.call (cyclic_spec ok2 ?_)
  have g1 : GAt (roB (h.length + 1) H2.length F) h.length g := gF.eq (roB_low (.inl (by omega)))
  have p1 : getRow (roB (h.length + 1) H2.length F) H2.length = some (mkC q mn v', .exact) := by rw [getRow_same (roB_low (.inr rfl))]; exact pF
  have w1 := gw.same (roB_same (n0 := h.length + 1) (p := H2.length))
  generalize roB (h.length + 1) H2.length F = F1 at *
  rw [g1.ld, oW_some]
  refine callW_plain.2 (left_spec ok ?_)
  rw [ldp F1 _ p1, oW_some]
  refine w1.call (left_spec ok2 ?_)
  have g2 : GAt (roB (h.length + 1) H2.length F1) h.length g := g1.eq (roB_low (.inl (by omega)))
  have p2 : getRow (roB (h.length + 1) H2.length F1) H2.length = some (mkC q mn v', .exact) := by rw [getRow_same (roB_low (.inr rfl))]; exact p1
  have w2 := w1.same (roB_same (n0 := h.length + 1) (p := H2.length))
  generalize roB (h.length + 1) H2.length F1 = F2 at *
  have cl : g.cycL.length = g.n := by unfold Gr.cycL; simp
  have ll : g.leftL.length = g.n := by unfold Gr.leftL; simp
  have cl2 : (g.more row).cycL.length = g.n := by unfold Gr.cycL; simp; rfl
  have ll2 : (g.more row).leftL.length = g.n := by unfold Gr.leftL; simp; rfl
  have cm : ∀ {i}, onL g.cycL i → onL (g.more row).cycL i := fun q => by
    unfold Gr.cycL at *
    exact setL_mono (fun _ z => Plus.mono (fun _ _ => more_alone) z) q
  have lm : ∀ {i}, onL g.leftL i → onL (g.more row).leftL i := fun q => by
    unfold Gr.leftL at *
    exact setL_mono (fun _ z => Plus.mono (fun _ _ => more_ahead) z) q
  refine ⟨CmI g (g.more row) h F2 H2.length s, g.n, gcL_same ⟨0, rfl, rfl, by omega, by omega⟩, ?_⟩
  rintro k50 x51 x52 x53 x54 x55 x56 x57 x58 h59 ⟨i, hv, rfl, hk, hi⟩
  simp only [List.cons.injEq, and_true] at hv
  obtain ⟨rfl, rfl, rfl, rfl, rfl, rfl, rfl, rfl⟩ := hv
  refine g2.names ?_
  rw [lenN, oW_some, n_lss, oW_some, bW_dec]
  constructor
  · intro hlt
    have hi' : i < g.n := by unfold Gr.n; omega
    have hin : inR g.n (i : Int) := by unfold inR; omega
    have next : ∃ m49, m49 < k50 ∧ gcL h (CmI g (g.more row) h h59 H2.length s m49) [.pointer (some ⟨h.length, 0, none⟩), .pointer (some ⟨H2.length, 0, none⟩), .int .i64 (s : Int), bools g.cycL, bools (g.more row).cycL, bools g.leftL, bools (g.more row).leftL, .int .i64 ((i : Int) + 1)] h59 :=
      ⟨g.n - (i + 1), by omega, gcL_same ⟨i + 1, rfl, rfl, rfl, by omega⟩⟩
    have tail : oW (iaS 1 (bools g.leftL) (.int .i64 (i : Int))) (fun v70 => oW (ldW false 1 h59 v70) fun v71 => bW v71 (oW (iaS 1 (bools (g.more row).leftL) (.int .i64 (i : Int))) fun v72 => oW (ldW false 1 h59 v72) fun v73 => oW (unA .not v73) fun v74 => bW v74 (gcV h (fun v _ => v = .bool true) (.bool false) h59) (oW (binN .add (.int .i64 (i : Int)) (.int .i64 1)) fun v75 => ∃ m49, m49 < k50 ∧ gcL h (CmI g (g.more row) h h59 H2.length s m49) [.pointer (some ⟨h.length, 0, none⟩), .pointer (some ⟨H2.length, 0, none⟩), .int .i64 (s : Int), bools g.cycL, bools (g.more row).cycL, bools g.leftL, bools (g.more row).leftL, v75] h59))
        (bW (.bool false) (gcV h (fun v _ => v = .bool true) (.bool false) h59) (oW (binN .add (.int .i64 (i : Int)) (.int .i64 1)) fun v75 => ∃ m49, m49 < k50 ∧ gcL h (CmI g (g.more row) h h59 H2.length s m49) [.pointer (some ⟨h.length, 0, none⟩), .pointer (some ⟨H2.length, 0, none⟩), .int .i64 (s : Int), bools g.cycL, bools (g.more row).cycL, bools g.leftL, bools (g.more row).leftL, v75] h59))) := by
      refine ix_bool ll hin ?_
      rw [bW_dec]
      constructor
      · intro ho
        refine ix_bool ll2 hin ?_
        rw [decide_eq_true (lm ho), u_not, oW_some, bW_bool]
        refine ⟨(fun q => by cases q), fun _ => ?_⟩
        rw [n_add (by omega), oW_some]
        exact next
      · intro _
        rw [bW_false, n_add (by omega), oW_some]
        exact next
    refine ix_bool cl hin ?_
    rw [bW_dec]
    constructor
    · intro ho
      refine ix_bool cl2 hin ?_
      rw [decide_eq_true (cm ho), u_not, oW_some, bW_bool]
      exact ⟨(fun q => by cases q), fun _ => tail⟩
    · intro _
      exact tail
  intro _
  have hsin : inR g.n (s : Int) := by unfold inR; omega
  have bs : onL (g.more row).cycL (s : Int).toNat := by
    rw [Int.toNat_natCast]; unfold Gr.cycL; rw [setL_on]; exact ⟨hsn, .one al⟩
  have ds : onL (g.more row).leftL (s : Int).toNat := by
    rw [Int.toNat_natCast]; unfold Gr.leftL; rw [setL_on]; exact ⟨hsn, .one ah⟩
  refine ix_bool cl2 hsin ?_
  rw [decide_eq_true bs, bW_true]
  refine ix_bool ll2 hsin ?_
  rw [decide_eq_true ds, bW_true, ldp _ _ p2, oW_some]
  refine w2.call2 (chain_spec ok2 hsn (.inl al) (fun k _ _ _ => ?_) fun z => absurd al (z s))
  rw [lenI, oW_some, n_eql, oW_some, decide_eq_true (by simp), bW_true]
  have p3 : getRow (roB (h.length + 1) H2.length h59) H2.length = some (mkC q mn v', .exact) := by rw [getRow_same (roB_low (.inr rfl))]; exact p2
  have w3 := w2.same (roB_same (n0 := h.length + 1) (p := H2.length))
  rw [ldp _ _ p3, oW_some]
  refine w3.call (calone_spec ok2 ?_)
  have hl : s < (g.more row).aloneT.length := by unfold Gr.aloneT; rw [tabS_len]; exact hsn
  refine ix_rowsB hl ?_
  have er : (g.more row).aloneT[s] = setL g.n (Plus (g.more row).alone s) := tabS_row hl
  rw [er]
  refine ix_bool (n := g.n) (by simp) hsin ?_
  rw [decide_eq_true (by rw [Int.toNat_natCast, setL_on]; exact ⟨hsn, .one al⟩)]
  exact gcV_same rfl

end Go.Ax
