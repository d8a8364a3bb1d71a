/- Count: made grammars, their forests: what Trees and the others need of them. -/
import Derived.Test.YtoaohmmdhmefpaaB4
namespace Go.Ax
open Go Go.Proofs Go.RowKit

structure GMk (g : Gr) : Prop where
  terms : g.terms = 2
  tks : g.tokens.length = 2
  n3 : 3 ≤ g.n
  n5 : g.n ≤ 5
  start : g.start = 2
  rl : g.rules.length ≤ 9
  rule : ∀ r ∈ g.rules, r.length ≤ 4 ∧ ∃ (s : Nat) (t : List Int), s < g.n - 2 ∧ r = ((2 + s : Nat) : Int) :: t ∧ ∀ x ∈ t, inR g.n x
  all : ∀ s, s < g.n - 2 → ∃ r ∈ g.rules, r.getD 0 0 = ((2 + s : Nat) : Int)
theorem mkG_mk {bs : List Nat} : GMk (mkG bs) := by
  have hc : 1 ≤ mkN bs ∧ mkN bs ≤ 3 := mkCnt_le
  have hn : (mkG bs).n = 2 + mkN bs := by
    show (names5.take (2 + mkN bs)).length = _
    rw [List.length_take]; simp [names5]; omega
  obtain ⟨new, e, hl, h, ha⟩ := mkAll_ok (bs := bs) (n := mkN bs) (k := mkN bs) (st := (mkAt bs 0, []))
  have hr : (mkG bs).rules = new := by show (mkAll bs).2 = _; unfold mkAll; rw [e]; simp
  refine ⟨rfl, rfl, by omega, by omega, rfl, by rw [hr]; omega, fun r hr' => ?_, fun s hs => ?_⟩
  · rw [hr] at hr'
    obtain ⟨s, h1, h2, t, h3, h4⟩ := h r hr'
    exact ⟨h2, s, t, by omega, h3, by rw [hn]; exact h4⟩
  · rw [hr]; exact ha s (by omega)
section
variable {g : Gr} (m : GMk g)
include m
theorem GMk.ok : g.ok := by
  have h1 := m.terms; have h2 := m.tks; have h3 := m.n3; have h4 := m.n5; have h5 := m.start; have h6 := m.rl
  refine ⟨by omega, by omega, by omega, by omega, ?_, by omega, ?_, fun r hr => ?_, fun s hs1 hs2 => ?_⟩
  · obtain ⟨r, hr, _⟩ := m.all 0 (by omega)
    have := List.length_pos_iff.2 (List.ne_nil_of_mem hr); omega
  · unfold Gr.made inR; omega
  · obtain ⟨q1, s, t, q2, rfl, q3⟩ := m.rule r hr
    refine ⟨by simp, by omega, ?_, fun x hx => q3 x (by simpa using hx)⟩
    unfold Gr.made inR
    show g.terms ≤ ((2 + s : Nat) : Int) ∧ (0 : Int) ≤ ((2 + s : Nat) : Int) ∧ ((2 + s : Nat) : Int) < g.n
    omega
  · obtain ⟨r, hr, e⟩ := m.all (s - 2) (by omega)
    exact ⟨r, hr, by rw [e]; omega⟩
theorem GMk.head {r : List Int} (hr : r ∈ g.rules) : 0 < r.length ∧ r.length ≤ 4 ∧ 2 ≤ r.getD 0 0 ∧ r.getD 0 0 < g.n := by
  obtain ⟨q1, s, t, q2, rfl, q3⟩ := m.rule r hr
  refine ⟨by simp, q1, ?_, ?_⟩
  · show (2 : Int) ≤ ((2 + s : Nat) : Int); omega
  · show ((2 + s : Nat) : Int) < g.n; omega
theorem GMk.gok {n : Nat} (hn : n ≤ 7) : GOk g n := by
  have h3 := m.n3; have h4 := m.n5; have h6 := m.rl
  refine ⟨by omega, by omega, fun r hr => ?_, ?_⟩
  · have := m.head hr; omega
  · have h1 : (n + 1) * (n + 1) ≤ 8 * 8 := Nat.mul_le_mul (by omega) (by omega)
    have := Nat.mul_le_mul h4 h1
    omega
theorem GMk.pow {n : Nat} (hn : n ≤ 7) {r : List Int} (hr : r ∈ g.rules) : (n + 1) ^ (r.drop 1).length ≤ 512 := by
  have h1 : (r.drop 1).length ≤ 3 := by have := m.head hr; rw [List.length_drop]; omega
  calc (n + 1) ^ (r.drop 1).length ≤ 8 ^ (r.drop 1).length := Nat.pow_le_pow_left (by omega) _
    _ ≤ 8 ^ 3 := Nat.pow_le_pow_right (by omega) h1
    _ = 512 := rfl
theorem GMk.bok {n : Nat} (hn : n ≤ 7) {l : List Fct} (i : FInv g.n n l) : BOk g n l :=
  ⟨m.ok, by have := m.terms; omega, m.gok hn, i, fun r hr => Nat.le_trans (m.pow hn hr) (by omega)⟩
end

theorem flatten_len {b : Nat} : ∀ {l : List (List Nat)}, (∀ x ∈ l, x.length ≤ b) → l.flatten.length ≤ l.length * b
  | [], _ => by simp
  | x :: l, h => by
    have := flatten_len (l := l) fun y hy => h y (by simp [hy])
    have := h x (by simp)
    rw [List.flatten_cons, List.length_append, List.length_cons, Nat.succ_mul]; omega
/-- A forest of a made grammar. -/
structure Frs (g : Gr) (n : Nat) (l ks : List Fct) : Prop where
  made : GMk g
  n7 : n ≤ 7
  inv : FInv g.n n l
  kinv : FInv g.n n ks
  fix : passF g n l ks = ks
abbrev frs (g : Gr) (n : Nat) (l ks : List Fct) : List Kt := ks.map (knotF g n l)
theorem frs_fct {g : Gr} {n : Nat} {l ks : List Fct} : (frs g n l ks).map Kt.fct = ks := by
  rw [List.map_map]
  have : (Kt.fct ∘ knotF g n l) = id := rfl
  rw [this, List.map_id]
section
variable {g : Gr} {n : Nat} {l ks : List Fct} (a : Frs g n l ks)
include a
theorem Frs.up : ∀ f ∈ l, f.2.1 ≤ f.2.2 := fun f hf => (a.inv.box f hf).2.2.2.2.2.2
theorem Frs.h0 : ∀ r ∈ g.rules, 0 < r.length := fun _ hr => (a.made.head hr).1
theorem Frs.ways {x : Fct} {w : Wy} (hw : w ∈ waysF g n l x) : w.rule = -1 ∨ (wayOk g.rules x.1 w ∧ (kidsF g.rules x.1 w).length ≤ 3) := by
  unfold waysF at hw
  split at hw
  · exact .inl (tok_neg hw)
  · obtain ⟨k, hk, hw⟩ := mem_rulesW.1 hw
    obtain ⟨h1, ps, rfl, h2, _⟩ := (mem_ruleW a.up).1 hw
    have hr := List.getElem_mem hk
    have hw := wayOk_rule hk (a.h0 _ hr) h1 h2.len
    refine .inr ⟨hw, ?_⟩
    unfold kidsF
    rw [if_pos hw]
    simp only [Int.toNat_natCast, getD_at hk]
    have := a.made.head hr
    simp [kidsW]; omega
theorem Frs.kids {x : Fct} (hx : x ∈ ks) {w : Wy} (hw : w ∈ waysF g n l x) : ∀ f ∈ kidsF g.rules x.1 w, f ∈ ks := fun f hf =>
  passGo_fix a.kinv.srt a.fix x hx f (List.mem_flatMap.2 ⟨w, hw, hf⟩)
theorem Frs.kidlen {x : Fct} {w : Wy} (hw : w ∈ waysF g n l x) : (kidsF g.rules x.1 w).length ≤ 3 := by
  rcases a.ways hw with q | q
  · obtain ⟨r, at_⟩ := w
    dsimp only at q; subst q
    unfold kidsF
    rw [if_neg wayOk_neg]; simp
  · exact q.2
theorem Frs.wlen {x : Fct} (hx : x ∈ ks) : (waysF g n l x).length ≤ 4608 := by
  have hb := a.kinv.box x hx
  have h7 := a.n7
  unfold waysF
  split
  · have := toksW_len (x := x) (k := n); omega
  · have := flat_len_le (f := fun j => ruleW l x j (g.rules.getD j [])) (b := 512) (xs := List.range g.rules.length) fun i hi => by
      have hi : i < g.rules.length := by simpa using hi
      have hm : g.rules.getD i [] ∈ g.rules := by rw [getD_at hi]; exact List.getElem_mem hi
      unfold ruleW
      split
      · refine Nat.le_trans waysOf_len (Nat.le_trans (splitF_len (by unfold boxF at hb; omega)) (Nat.le_trans (Nat.pow_le_pow_left ?_ _) (a.made.pow h7 hm)))
        unfold boxF at hb; omega
      · simp
    have h9 := a.made.rl
    rw [List.length_range] at this
    have h10 := Nat.mul_le_mul_right 512 h9
    unfold rulesW
    omega
theorem Frs.fok : FOk g (frs g n l ks) := by
  have h7 := a.n7; have h5 := a.made.n5
  refine ⟨fun k hk w hw => ?_, fun k hk => ?_, ?_, fun k hk => ?_, by have := a.made.rl; omega, fun r hr => by have := a.made.head hr; omega⟩
  · obtain ⟨x, hx, rfl⟩ := List.mem_map.1 hk
    rw [frs_fct]
    exact (a.ways hw).imp id fun q => ⟨q.1, a.kids hx hw⟩
  · obtain ⟨x, hx, rfl⟩ := List.mem_map.1 hk
    exact a.kinv.inF (by omega) (by omega) x hx
  · rw [List.length_map]
    exact Nat.le_trans a.kinv.len (a.made.gok h7).small
  · obtain ⟨x, hx, rfl⟩ := List.mem_map.1 hk
    exact Nat.le_trans (a.wlen hx) (by omega)
def wsK (g : Gr) (n : Nat) (l : List Fct) (x : Fct) : List (List Fct) := (waysF g n l x).map (kidsF g.rules x.1)
omit a in
theorem frs_kids : kidsK g (frs g n l ks) = kidsI ks (wsK g n l) := by
  unfold kidsK kidsI
  show (ks.map (knotF g n l)).map _ = _
  rw [List.map_map]
  refine List.map_congr_left fun x _ => ?_
  show (waysF g n l x).map (fun w => kidN g.rules ((frs g n l ks).map Kt.fct) x.1 w) = (wsK g n l x).map _
  unfold wsK
  rw [frs_fct, List.map_map]
  rfl
theorem Frs.getK {i : Nat} (hi : i < ks.length) : (kidsK g (frs g n l ks)).getD i [] = (waysF g n l ks[i]).map fun w => (kidsF g.rules ks[i].1 w).map fun x => ks.idxOf x := by
  have _ := a.n7
  rw [frs_kids, kidsI_get hi]
  unfold wsK
  rw [List.map_map]; rfl
theorem Frs.kidOk {i : Nat} {v : List Nat} (hv : v ∈ (kidsK g (frs g n l ks)).getD i []) : v.length ≤ 3 ∧ ∀ x ∈ v, x < ks.length := by
  have hi : i < ks.length := by
    rcases Nat.lt_or_ge i ks.length with q | q
    · exact q
    · rw [List.getD_eq_getElem?_getD, List.getElem?_eq_none (by simpa [kidsK] using q)] at hv; cases hv
  rw [a.getK hi] at hv
  obtain ⟨w, hw, rfl⟩ := List.mem_map.1 hv
  refine ⟨by rw [List.length_map]; exact a.kidlen hw, fun x hx => ?_⟩
  obtain ⟨y, hy, rfl⟩ := List.mem_map.1 hx
  exact List.idxOf_lt_length_iff.2 (a.kids (List.getElem_mem hi) hw y hy)
theorem Frs.klen : (kidsK g (frs g n l ks)).length = ks.length := by have _ := a.n7; simp [kidsK]
theorem Frs.wayN {i : Nat} (hi : i < (kidsK g (frs g n l ks)).length) : (kidsK g (frs g n l ks))[i].length ≤ 4608 := by
  have h2 : i < ks.length := by rw [← a.klen]; exact hi
  rw [← getD_at (d := []) hi, a.getK h2, List.length_map]
  exact a.wlen (List.getElem_mem h2)
theorem Frs.ksz : KSz (kidsK g (frs g n l ks)) := by
  refine ⟨?_, fun i hi => Nat.le_trans (a.wayN hi) (by omega), fun i v hv => Nat.le_trans (a.kidOk hv).1 (by omega)⟩
  have := a.fok.len
  rw [a.klen]
  rw [List.length_map] at this; omega
theorem Frs.ksm : KSm (kidsK g (frs g n l ks)) := fun i hi => by
  have h1 := a.wayN hi
  have h2 := flatten_len (b := 3) (l := (kidsK g (frs g n l ks))[i]) fun v hv => (a.kidOk (i := i) (by rw [getD_at hi]; exact hv)).1
  have := Nat.mul_le_mul_right 3 h1
  omega
theorem Frs.tok {W : Nat} (hw : ∀ i, ∀ v ∈ (kidsK g (frs g n l ks)).getD i [], v.length ≤ W) (hb : (W + 1) ^ (ks.length + 1) ≤ topN) : TOk g (frs g n l ks) W :=
  ⟨a.fok, ⟨fun i v hv x hx => by rw [a.klen]; exact (a.kidOk hv).2 x hx, hw, by rw [a.klen]; exact hb⟩, a.ksz, a.ksm⟩
theorem Frs.tok3 (hl : ks.length ≤ 30) : TOk g (frs g n l ks) 3 := a.tok (fun i v hv => (a.kidOk hv).1) (Nat.le_trans (Nat.pow_le_pow_right (by omega) (show ks.length + 1 ≤ 31 by omega)) (by decide))
end

end Go.Ax

namespace Go.Ax
open Go Go.Proofs Go.RowKit

theorem SizT.sub {K K' : List (List (List Nat))} (h : ∀ i, ∀ w ∈ K.getD i [], w ∈ K'.getD i []) {i s : Nat} (t : SizT K i s) : SizT K' i s := by
  induction t with
  | mk l zs hl hz ht ih => exact .mk l zs (h _ _ hl) hz ih
def tokP (n : Nat) (f : Fct) : Prop := ∃ i, i < n ∧ f = tokF i
theorem tokL_drv {n : Nat} {R : List (List Int)} : AllDrv (tokP n) R (tokL n) := by
  have : ∀ (xs : List Nat), (∀ x ∈ xs, x < n) → ∀ l, AllDrv (tokP n) R l → AllDrv (tokP n) R (xs.foldl (fun l i => putF l (tokF i)) l) := by
    intro xs
    induction xs with
    | nil => exact fun _ _ h => h
    | cons x xs ih =>
      intro hx l h
      exact ih (fun y hy => hx y (by simp [hy])) _ (h.put (.inl ⟨x, hx x (by simp), rfl⟩))
  exact this _ (fun x hx => by simpa using hx) [] (fun f hf => by cases hf)
theorem itr_drv {T : Fct → Prop} {R : List (List Int)} {ps : List Int} : ∀ {k : Nat} {l : List Fct}, AllDrv T R l → AllDrv T R (itr (roundF R ps) k l)
  | 0, _, h => h
  | k + 1, _, h => itr_drv (k := k) (roundF_drv h)
theorem toks_pos {n : Nat} {f : Fct} (h : tokP n f) : 0 < (toksW f n).length := by
  obtain ⟨i, hi, rfl⟩ := h
  refine List.length_pos_iff.2 (List.ne_nil_of_mem (a := ⟨-1, [(tokF i).2.1, ((i + 1 : Nat) : Int)]⟩) ?_)
  unfold toksW
  refine List.mem_flatMap.2 ⟨i, List.mem_range.2 hi, ?_⟩
  unfold tokW
  rw [if_pos ⟨rfl, rfl, rfl⟩]
  exact List.mem_singleton.2 rfl
theorem passGo_in {g : Gr} {n : Nat} {l : List Fct} (up : ∀ f ∈ l, f.2.1 ≤ f.2.2) (h0 : ∀ r ∈ g.rules, 0 < r.length) {a : List Fct} (ha : ∀ x ∈ a, x ∈ l) : ∀ {xs : List Fct}, ∀ x ∈ passGo g n l a xs, x ∈ l
  | [], x, hx => ha x hx
  | y :: xs, x, hx => by
    rw [passGo] at hx
    split at hx
    · exact (mem_putFs.1 hx).elim (ha x) fun q => kidsX_in up h0 q
    · exact passGo_in up h0 ha x hx
theorem itr_in {g : Gr} {n : Nat} {l : List Fct} (up : ∀ f ∈ l, f.2.1 ≤ f.2.2) (h0 : ∀ r ∈ g.rules, 0 < r.length) : ∀ {k : Nat} {a : List Fct}, (∀ x ∈ a, x ∈ l) → ∀ x ∈ itr (passF g n l) k a, x ∈ l
  | 0, _, h => h
  | k + 1, _, h => itr_in up h0 (k := k) (passGo_in up h0 h)
section
variable {g : Gr} {n : Nat} {l ks : List Fct} (a : Frs g n l ks)
include a
theorem Frs.waysIn {x : Fct} {w : List Fct} (hw : w ∈ waysK g.rules g.terms (fun f => (toksW f n).length) l x) : w ∈ wsK g n l x := by
  unfold waysK at hw
  unfold wsK waysF
  split at hw
  · rename_i hx
    rw [if_pos hx]
    obtain ⟨h1, rfl⟩ := List.mem_replicate.1 hw
    obtain ⟨y, hy⟩ := List.exists_mem_of_length_pos (Nat.pos_of_ne_zero h1)
    refine List.mem_map.2 ⟨y, hy, ?_⟩
    have := tok_neg hy
    obtain ⟨r, at_⟩ := y
    dsimp only at this; subst this
    unfold kidsF
    rw [if_neg wayOk_neg]
  · rename_i hx
    rw [if_neg hx]
    obtain ⟨r, hr, hw⟩ := List.mem_flatMap.1 hw
    split at hw
    · rename_i he
      obtain ⟨p, hp, rfl⟩ := List.mem_map.1 hw
      obtain ⟨hp1, hp2⟩ := List.mem_filter.1 hp
      obtain ⟨ps, rfl, hps⟩ := (mem_splitF a.up).1 hp1
      obtain ⟨k, hk, rfl⟩ := List.mem_iff_getElem.1 hr
      refine List.mem_map.2 ⟨⟨(k : Int), x.2.1 :: ps⟩, mem_rulesW.2 ⟨k, hk, (mem_ruleW a.up).2 ⟨he, ps, rfl, hps, by simpa using hp2⟩⟩, ?_⟩
      exact kidsF_rule hk (a.h0 _ hr) he hps.len
    · cases hw
theorem Frs.tree (hd : AllDrv (tokP n) g.rules l) (hs : ∀ x ∈ ks, x ∈ l) {i : Nat} (hi : i < ks.length) : ∃ s, SizT (kidsK g (frs g n l ks)) i s := by
  have hx := List.getElem_mem hi
  obtain ⟨m, hm⟩ := hd _ (hs _ hx)
  obtain ⟨s, t⟩ := knot_tree (T := tokP n) (R := g.rules) (l := l) (ks := ks) (terms := g.terms) (tok := fun f => (toksW f n).length) a.up (fun f hf => ⟨by obtain ⟨j, _, rfl⟩ := hf; show (0 : Int) < _; rw [a.made.terms]; decide, toks_pos hf⟩)
    (fun r hr => by rw [a.made.terms]; exact (a.made.head hr).2.2.1) (fun f hf w hw x hx => by
      obtain ⟨y, hy, rfl⟩ := List.mem_map.1 (a.waysIn hw)
      exact a.kids hf hy x hx) m ks[i] hx hm
  rw [a.kinv.srt.nodup.idxOf_getElem i hi] at t
  refine ⟨s, ?_⟩
  rw [frs_kids]
  refine t.sub fun j w hw => ?_
  by_cases hj : j < ks.length
  · rw [kidsI_get hj] at hw ⊢
    obtain ⟨v, hv, rfl⟩ := List.mem_map.1 hw
    exact List.mem_map.2 ⟨v, a.waysIn hv, rfl⟩
  · rw [List.getD_eq_getElem?_getD, List.getElem?_eq_none (by simpa [kidsI] using hj)] at hw; cases hw
end
/-- All knots have trees: none falls away. -/
theorem fertR_all {K : List (List (List Nat))} {W : Nat} (ok : KOk K W) (h : ∀ i, i < K.length → ∃ s, SizT K i s) : fertR K = K := by
  unfold fertR
  have : ∀ ws ∈ K, ws.filter (okWay (leastR K)) = ws := fun ws hws => by
    obtain ⟨i, hi, rfl⟩ := List.mem_iff_getElem.1 hws
    refine List.filter_eq_self.2 fun v hv => ?_
    unfold okWay
    refine decide_eq_true fun x hx => ?_
    have hxl := ok.kid i v (by rw [getD_at hi]; exact hv) x hx
    exact (leastR_pos ok hxl).2 (h x hxl)
  calc K.map (fun ws => ws.filter (okWay (leastR K))) = K.map id := List.map_congr_left this
    _ = K := List.map_id _
theorem siz_way {K : List (List (List Nat))} {i s : Nat} (h : SizT K i s) : K.getD i [] ≠ [] := by
  cases h with
  | mk l zs hl _ _ => exact List.ne_nil_of_mem hl
theorem tot_all {K : List (List (List Nat))} (kid : KKid K) (h : ∀ i, i < K.length → ∃ s, SizT K i s) {i m : Nat} (hi : i < K.length) (t : TotK K i m) : 1 ≤ m :=
  tot_pos (fun j ⟨x, v, hv, hj⟩ => by
    obtain ⟨s, hs⟩ := h j (kid x v hv j hj)
    exact siz_way hs) t (by obtain ⟨s, hs⟩ := h i hi; exact siz_way hs)

end Go.Ax

namespace Go.Ax
open Go Go.Proofs Go.RowKit

theorem s_stI {h : Heap} {sz i : Nat} {c : List Value} {m : Md} {cs : Array Value} {KS : Heap → Prop} (e : getRow h i = some (c, m)) (hm : m ≠ .ro) (h1 : c.length = sz) (h2 : cs.size = sz) (h3 : cs.toList.all okCell = true) (k : KS (h.set i (.row cs.toList m))) :
    sW (stW sz h (.pointer (some ⟨i, 0, none⟩)) (.agg cs)) KS := by
  rw [stW_agg, e, Option.bind_some, if_pos ⟨hm, h2, h3, by simp [h1]⟩, writeL_all (by simp [h1, h2])]
  exact sW_some.2 k
theorem s_ldP {h : Heap} {sz i : Nat} {c : List Value} {m : Md} {K : Value → Prop} (e : getRow h i = some (c, m)) (h1 : c.length = sz) (k : K (.agg c.toArray)) : oW (ldP true sz h (.pointer (some ⟨i, 0, none⟩))) K := by
  refine ⟨_, ?_, k⟩
  rw [ldP_row e, if_pos rfl, if_pos (by omega), List.drop_zero, List.take_of_length_le (by omega)]
theorem tEdge : Things 3 edgeL := ⟨fun _ => rfl, fun _ => rfl, fun _ => rfl, fun x c hc => by
  simp only [cellsOf_agg, List.mem_cons, List.not_mem_nil, or_false] at hc
  rcases hc with rfl | rfl | rfl <;> exact .int _ _⟩
theorem range_snoc {i : Nat} : (List.range (i + 1)).map natV = (List.range i).map natV ++ [natV i] := by rw [List.range_succ, List.map_append]; rfl

theorem line_spec {n : Nat} (hn : n ≤ 1000) {h : Heap} {Q : Value → Heap → Prop} (hq : Q (lineV n) h) : acall Try.prog F_homographlaw28_line [natV n] h Q := by
  apply W_homographlaw28_line_ok
  unfold W_homographlaw28_line
  refine bsl1 rfl rfl rfl ?_
  refine ⟨.agg #[natV n, .slice (some ⟨(h ++ [AObj.row [.int .i64 0, .slice none 0 0, .slice none 0 0] .exact]).length, 0, none⟩) 1 1, .slice none 0 0], rfl, ?_⟩
  repeat' first | ((with_reducible apply s_let)) | ((with_reducible apply s_stA); (· rfl); (· rfl); (· rfl))
  have hB : (h ++ [AObj.row [.int .i64 0, .slice none 0 0, .slice none 0 0] .exact]).length = h.length + 1 := by simp
  have a0 := Acc.made (sz := 1) (n := h.length + 1) (H := h ++ [AObj.row [.int .i64 0, .slice none 0 0, .slice none 0 0] .exact]) (l := [natV 0]) (by simp) (by simp)
  have hr0 : getRow (h ++ [AObj.row [.int .i64 0, .slice none 0 0, .slice none 0 0] .exact]) h.length = some ([.int .i64 0, .slice none 0 0, .slice none 0 0], .exact) := row_last
  have hBt : ∃ t, h ++ [AObj.row [.int .i64 0, .slice none 0 0, .slice none 0 0] .exact] = h ++ t := ⟨_, rfl⟩
  generalize h ++ [AObj.row [.int .i64 0, .slice none 0 0, .slice none 0 0] .exact] = B at hB a0 hr0 hBt ⊢
  have hpb : (B ++ [AObj.row (cellsOf (Value.int .i64 0)) .exact]).length = B.length + 1 := by simp
  have hp0 : getRow (B ++ [AObj.row (cellsOf (Value.int .i64 0)) .exact] ++ [AObj.row #[natV n, .slice (some ⟨B.length, 0, none⟩) 1 1, .slice none 0 0].toList .exact]) (B ++ [AObj.row (cellsOf (Value.int .i64 0)) .exact]).length = some ([natV n, .slice (some ⟨B.length, 0, none⟩) 1 1, .slice none 0 0], .exact) := row_last
  have a1 := a0.app (t := [AObj.row #[natV n, .slice (some ⟨B.length, 0, none⟩) 1 1, .slice none 0 0].toList .exact])
  have hvl : ∀ j, lies (.slice (some ⟨B.length, 0, none⟩) 1 1) j → j = B.length := fun j ⟨_, _, _, q⟩ => by cases q; rfl
  generalize (B ++ [AObj.row (cellsOf (Value.int .i64 0)) .exact]).length = pb at hpb hp0 ⊢
  rw [List.append_assoc] at a1 hp0 ⊢
  refine ⟨fun m vs H => ∃ (i : Nat) (v1 v2 : Value) (g : Heap), vs = [natV n, .pointer (some ⟨h.length, 0, none⟩), .pointer (some ⟨pb, 0, none⟩), natV i] ∧ H = B ++ g ∧ getRow (B ++ g) pb = some ([natV n, v1, v2], .exact) ∧ Acc 1 B.length (B ++ g) v1 ((List.range (i + 1)).map natV) ∧
      Acc 3 B.length (B ++ g) v2 ((List.range i).map edgeL) ∧ (∀ j, lies v1 j → j ≠ pb) ∧ (∀ j, lies v2 j → j ≠ pb ∧ ¬ lies v1 j) ∧ i ≤ n ∧ m = n - i, _,
    gcL_same ⟨0, _, _, _, rfl, rfl, hp0, by rw [← hB] at a1; exact a1, .nil, fun j hj => by have := hvl j hj; omega, (fun j ⟨_, _, _, q⟩ => by cases q), by omega, rfl⟩, ?_⟩
  clear a0 a1 hp0 hvl
  rintro m x0 x1 x2 x3 H ⟨i, v1, v2, g, hv, rfl, hp, c1, c2, l1, l2, hi, rfl⟩
  replace hv := hv.symm
  simp only [List.cons.injEq, and_true] at hv
  obtain ⟨rfl, rfl, rfl, rfl⟩ := hv
  have hplt := getRow_lt hp
  repeat' first | ((with_reducible apply s_inc); (· omega)) | ((with_reducible apply s_lss)) | ((with_reducible apply s_br) <;> intro hb <;> try (exfalso; omega)) | ((with_reducible apply s_fld); (· first | assumption | exact row_last | exact getRow_app (by first | assumption | exact row_last | exact getRow_app (by first | assumption | exact row_last))); (· rfl)) | ((with_reducible apply s_rowA); (· first | assumption | exact row_last | exact getRow_app (by first | assumption | exact row_last | exact getRow_app (by first | assumption | exact row_last))); (· rfl))
  · refine tNat.push (B := B) (x := i + 1) (by omega) c1 rfl rfl (by simp; omega) (by simp; omega) fun v1' g1 c1' f1 n1 e1 => ?_
    rw [← List.range_succ] at c1'
    have hp1 : getRow (B ++ g1) pb = some ([natV n, v1, v2], .exact) := (getRow_same (f1 pb hplt fun q => l1 _ q rfl)).trans hp
    have c2' : Acc 3 B.length (B ++ g1) v2 ((List.range i).map edgeL) := c2.congr fun j hj => f1 j (c2.ltA hj) (l2 j hj).2
    have hfe : ∀ {K : Value → Prop} {H : Heap}, K (.pointer (some ⟨pb, 1, none⟩)) → oW (faW 1 1 (.pointer (some ⟨pb, 0, none⟩))) K := fun k => s_fa k
    refine s_fa ?_
    rw [st1 hp1 (by simp) c1'.cell.1 c1'.cell.2.1 c1'.cell.2.2 (by simp), sW_some]
    have hst : (B ++ g1).set pb (.row ([natV n, v1, v2].set (0 + 1) v1') .exact) = B ++ g1.set (pb - B.length) (.row [natV n, v1', v2] .exact) := by rw [List.set_append_right _ _ (by omega)]; rfl
    have hp2 : getRow ((B ++ g1).set pb (.row ([natV n, v1, v2].set (0 + 1) v1') .exact)) pb = some ([natV n, v1', v2], .exact) := getRow_set hp1 _ _
    have c1s : Acc 1 B.length ((B ++ g1).set pb (.row ([natV n, v1, v2].set (0 + 1) v1') .exact)) v1' ((List.range (i + 1 + 1)).map natV) := c1'.congr fun j hj => List.getElem?_set_ne fun q => (n1 j hj).elim (fun z => l1 j z q.symm) fun z => by omega
    have c2s : Acc 3 B.length ((B ++ g1).set pb (.row ([natV n, v1, v2].set (0 + 1) v1') .exact)) v2 ((List.range i).map edgeL) := c2'.congr fun j hj => List.getElem?_set_ne fun q => (l2 j hj).1 q.symm
    have l1' : ∀ j, lies v1' j → j ≠ pb := fun j hj => (n1 j hj).elim (l1 j) fun z => by omega
    have l2' : ∀ j, lies v2 j → j ≠ pb ∧ ¬ lies v1' j := fun j hj => ⟨(l2 j hj).1, fun z => (n1 j z).elim (l2 j hj).2 fun z => by have := c2.ltA hj; omega⟩
    rw [hst] at hp2 c1s c2s ⊢
    generalize g1.set (pb - B.length) (.row [natV n, v1', v2] .exact) = g2 at hp2 c1s c2s ⊢
    clear c1 c2 c1' c2' l1 l2 hp hp1 f1 n1 hst hplt
    have hplt := getRow_lt hp2
    repeat' first | ((with_reducible apply s_inc); (· omega)) | ((with_reducible apply s_fld); (· first | assumption | exact row_last | exact getRow_app (by first | assumption | exact row_last | exact getRow_app (by first | assumption | exact row_last))); (· rfl))
    refine ⟨edgeL i, rfl, ?_⟩
    refine tEdge.push (B := B) (x := i) (by omega) c2s rfl rfl (by simp; omega) (by simp; omega) fun v2' g3 c2' f2 n2 e2 => ?_
    rw [← List.range_succ] at c2'
    have hp3 : getRow (B ++ g3) pb = some ([natV n, v1', v2], .exact) := (getRow_same (f2 pb hplt fun q => (l2' _ q).1 rfl)).trans hp2
    have c1t : Acc 1 B.length (B ++ g3) v1' ((List.range (i + 1 + 1)).map natV) := c1s.congr fun j hj => f2 j (c1s.ltA hj) fun q => (l2' j q).2 hj
    refine s_fa ?_
    rw [st1 hp3 (by simp) c2'.cell.1 c2'.cell.2.1 c2'.cell.2.2 (by simp), sW_some]
    have hst : (B ++ g3).set pb (.row ([natV n, v1', v2].set (0 + 2) v2') .exact) = B ++ g3.set (pb - B.length) (.row [natV n, v1', v2'] .exact) := by rw [List.set_append_right _ _ (by omega)]; rfl
    have hp4 : getRow ((B ++ g3).set pb (.row ([natV n, v1', v2].set (0 + 2) v2') .exact)) pb = some ([natV n, v1', v2'], .exact) := getRow_set hp3 _ _
    have c1u : Acc 1 B.length ((B ++ g3).set pb (.row ([natV n, v1', v2].set (0 + 2) v2') .exact)) v1' ((List.range (i + 1 + 1)).map natV) := c1t.congr fun j hj => List.getElem?_set_ne fun q => l1' j hj q.symm
    have c2u : Acc 3 B.length ((B ++ g3).set pb (.row ([natV n, v1', v2].set (0 + 2) v2') .exact)) v2' ((List.range (i + 1)).map edgeL) := c2'.congr fun j hj => List.getElem?_set_ne fun q => (n2 j hj).elim (fun z => (l2' j z).1 q.symm) fun z => by omega
    have l2u : ∀ j, lies v2' j → j ≠ pb ∧ ¬ lies v1' j := fun j hj => (n2 j hj).elim (l2' j) fun z => ⟨by omega, fun w => by have := c1s.ltA w; omega⟩
    rw [hst] at hp4 c1u c2u ⊢
    repeat' first | ((with_reducible apply s_inc); (· omega))
    refine ⟨_, ?_, gcL_same ⟨i + 1, v1', v2', _, rfl, rfl, hp4, c1u, c2u, l1', l2u, by omega, rfl⟩⟩
    omega
  · have e : i = n := by omega
    subst e
    refine s_stI (getRow_app hr0) (by simp) rfl rfl (by simp [c1.cell.2.2, c2.cell.2.2]) ?_
    refine s_ldP (getRow_set (getRow_app hr0) _ _) rfl ?_
    obtain ⟨t, hBt⟩ := hBt
    have c1' := c1.congr (H' := (B ++ g).set h.length (.row [natV i, v1, v2] .exact)) fun j hj => List.getElem?_set_ne (by have := c1.ge hj; omega)
    have c2' := c2.congr (H' := (B ++ g).set h.length (.row [natV i, v1, v2] .exact)) fun j hj => List.getElem?_set_ne (by have := c2.ge hj; omega)
    refine gcV_frz (v2 := lineV i) ⟨(t ++ g).set 0 (.row [natV i, v1, v2] .exact), by rw [hBt, List.append_assoc, set_app0]⟩ (fun fr r hfr => ?_) hq
    have g1 : Gv fr r ((B ++ g).set h.length (.row [natV i, v1, v2] .exact)) (nats (List.range (i + 1))) v1 := tNat.gv (by omega) c1' fun j hj _ => hfr j (by omega)
    have g2 : Gv fr r ((B ++ g).set h.length (.row [natV i, v1, v2] .exact)) (lit ((List.range i).map edgeL)) v2 := tEdge.gv (by omega) c2' fun j hj _ => hfr j (by omega)
    refine .agg _ _ rfl fun k p q => ?_
    match k, p with
    | 0, _ => exact .cl (.int _ _)
    | 1, _ => exact g1
    | 2, _ => exact g2

end Go.Ax

namespace Go.Ax
open Go Go.Proofs Go.RowKit

theorem made_spec {s : ByteArray} (hs : s.size ≤ 1000) {h : Heap} {Q : Value → Heap → Prop} (hq : Q (mkG (bytesN s)).enc h) : acall Try.prog F_homographlaw28_made [.string s] h Q := by
  apply W_homographlaw28_made_ok
  unfold W_homographlaw28_made
  repeat' first | ((with_reducible apply s_call)) | ((with_reducible apply s_let))
  refine make16_spec hs ?_
  generalize mkG (bytesN s) = g at hq ⊢
  repeat' first | ((with_reducible apply s_fld); (· first | assumption | exact row_last | exact getRow_app (by first | assumption | exact row_last | exact getRow_app (by first | assumption | exact row_last))); (· rfl)) | ((with_reducible apply s_let)) | ((with_reducible apply s_stA); (· rfl); (· rfl); (· rfl))
  refine ⟨g.enc, by simp [writeL], ?_⟩
  refine s_stI (getRow_app row_last) (by simp) rfl rfl rfl ?_
  refine s_ldP (getRow_set (getRow_app row_last) _ _) rfl ?_
  refine gcV_frz (v2 := g.enc) ⟨_, by rw [List.append_assoc, set_app0]⟩ (fun fr r hfr => .cl (.agg _ fun x hx => grow_cl (g := g) x (by simpa using hx))) hq
def AllOf (g : Gr) (n : Nat) (l : List Fct) : Prop := (∃ r, l = itr (roundF g.rules (plcL n)) r (tokL n)) ∧ roundF g.rules (plcL n) l = l
def BldOf (g : Gr) (n : Nat) (l ks : List Fct) : Prop := (∃ r, ks = itr (passF g n l) r [rootF g n]) ∧ passF g n l ks = ks
theorem itr_fixed {α : Type} {f : α → α} {x : α} {a : Nat} (h : f (itr f a x) = itr f a x) : ∀ k, itr f (a + k) x = itr f a x
  | 0 => rfl
  | k + 1 => by rw [← Nat.add_assoc, itr_succ, itr_fixed h k, h]
theorem itr_one {α : Type} {f : α → α} {x y z : α} (hy : (∃ r, y = itr f r x) ∧ f y = y) (hz : (∃ r, z = itr f r x) ∧ f z = z) : y = z := by
  obtain ⟨⟨a, rfl⟩, h1⟩ := hy
  obtain ⟨⟨b, rfl⟩, h2⟩ := hz
  rcases Nat.le_total a b with q | q
  · have := itr_fixed h1 (b - a); rw [← this, show a + (b - a) = b by omega]
  · have := itr_fixed h2 (a - b); rw [← this, show b + (a - b) = a by omega]
/-- A forest with all that is known of it. -/
structure FrsA (g : Gr) (n : Nat) (l ks : List Fct) : Prop where
  base : Frs g n l ks
  drv : AllDrv (tokP n) g.rules l
  sub : ∀ x ∈ ks, x ∈ l
  all : AllOf g n l
  bld : BldOf g n l ks
  root : rootF g n ∈ l
theorem forest_spec {s : ByteArray} (hs : s.size ≤ 1000) {n : Nat} (hn : n ≤ 7) {h : Heap} {Q : Value → Heap → Prop} (hno : ∀ l, AllOf (mkG (bytesN s)) n l → rootF (mkG (bytesN s)) n ∉ l → Q (knots []) h)
    (hq : ∀ l ks, FrsA (mkG (bytesN s)) n l ks → Q (knots (frs (mkG (bytesN s)) n l ks)) h) :
    acall Try.prog F_homographlaw28_forest [.string s, natV n] h Q := by
  apply W_homographlaw28_forest_ok
  unfold W_homographlaw28_forest
  repeat' first | ((with_reducible apply s_call))
  refine make16_spec hs ?_
  have mk := mkG_mk (bs := bytesN s)
  generalize mkG (bytesN s) = g at hno hq mk ⊢
  repeat' first | ((with_reducible apply s_rowA); (· first | assumption | exact row_last | exact getRow_app (by first | assumption | exact row_last | exact getRow_app (by first | assumption | exact row_last))); (· rfl)) | ((with_reducible apply s_call)) | ((with_reducible apply s_let)) | ((with_reducible apply s_stA); (· rfl); (· rfl); (· rfl))
  refine line_spec (by omega) ?_
  repeat' first | ((with_reducible apply s_call)) | ((with_reducible apply s_kept))
  refine line_spec (by omega) ?_
  repeat' first | ((with_reducible apply s_call)) | ((with_reducible apply s_kept))
  refine all_spec (mk.gok hn) fun l r hl iv hfix => ?_
  repeat' first | ((with_reducible apply s_call)) | ((with_reducible apply s_kept))
  refine build_spec (mk.bok hn iv) (fun hr => ?_) fun hr ks k hks kiv kfix => ?_
  · repeat' first | ((with_reducible apply s_e20)) | ((with_reducible apply s_e21)) | ((with_reducible apply s_kept))
    exact gcV_end (.cl tKt.clL) (hno l ⟨⟨_, hl⟩, hfix⟩ hr)
  · repeat' first | ((with_reducible apply s_e20)) | ((with_reducible apply s_e21)) | ((with_reducible apply s_kept))
    have a : Frs g n l ks := ⟨mk, hn, iv, kiv, kfix⟩
    exact gcV_end (.cl tKt.clL) (hq l ks ⟨a, hl ▸ itr_drv tokL_drv, hks ▸ itr_in a.up a.h0 fun x hx => (by rw [List.mem_singleton.1 hx]; exact hr), ⟨⟨_, hl⟩, hfix⟩, ⟨⟨_, hks⟩, kfix⟩, hr⟩)
/-- .. of literals. -/
theorem forest_at {s : ByteArray} {g : Gr} {L KS : List Fct} (hg : mkG (bytesN s) = g) (hs : s.size ≤ 1000) {n : Nat} (hn : n ≤ 7) (hL : AllOf g n L) (hK : BldOf g n L KS) (hr : rootF g n ∈ L) {h : Heap} {Q : Value → Heap → Prop} (hq : FrsA g n L KS → Q (knots (frs g n L KS)) h) :
    acall Try.prog F_homographlaw28_forest [.string s, natV n] h Q := by
  subst hg
  refine forest_spec hs hn (fun l hl hno => ?_) fun l ks a => ?_
  · have := itr_one hl hL
    subst this; exact absurd hr hno
  · have := itr_one a.all hL
    subst this
    have := itr_one a.bld hK
    subst this
    exact hq a

end Go.Ax

namespace Go.Ax
open Go Go.Proofs Go.RowKit

/-- All trees of a knot have one size. -/
def Uni (K : List (List (List Nat))) (z : Nat → Nat) : Prop := ∀ i, ∀ l ∈ K.getD i [], (l.map z).sum + 1 = z i
theorem mem_le_sum {z : Nat → Nat} {x : Nat} : ∀ {l : List Nat}, x ∈ l → z x ≤ (l.map z).sum
  | y :: l, h => by
    rw [List.map_cons, List.sum_cons]
    rcases List.mem_cons.1 h with rfl | h
    · omega
    · have := mem_le_sum (z := z) h; omega
theorem Uni.plus {K : List (List (List Nat))} {z : Nat → Nat} (u : Uni K z) {a b : Nat} (h : Plus (stepK K) a b) : z b < z a := by
  have st : ∀ a b, stepK K a b → z b < z a := fun a b ⟨l, hl, hx⟩ => by
    have := u a l hl
    have := mem_le_sum (z := z) hx
    omega
  induction h with
  | one h => exact st _ _ h
  | cons h _ ih => have := st _ _ h; omega
theorem Uni.noend {K : List (List (List Nat))} {z : Nat → Nat} (u : Uni K z) {i : Nat} : ¬ endP K i := fun ⟨j, _, h⟩ => by have := u.plus h; omega
theorem Uni.siz {K : List (List (List Nat))} {z : Nat → Nat} (u : Uni K z) {i s : Nat} (h : SizT K i s) : s = z i := by
  induction h with
  | @mk i l zs hl hz ht ih =>
    rw [← u i l hl]
    congr 1
    have : zs = l.map z := List.ext_getElem (by simp [hz]) fun j p q => by
      rw [List.getElem_map]; exact ih j (by omega) p
    rw [this]
theorem treeN_none {K : List (List (List Nat))} {i s : Nat} (h : ¬ SizT K i s) : treeN K s i = 0 := by
  rcases Nat.eq_zero_or_pos (treeN K s i) with q | q
  · exact q
  · exact absurd (treeN_pos.1 q) h
theorem rowN_uni {t : Nat → Nat → Nat} {z f : Nat → Nat} (h0 : ∀ a x, a ≠ z x → t a x = 0) : ∀ {l : List Nat}, (∀ x ∈ l, t (z x) x = f x) → rowN t l (l.map z).sum = prodN (l.map f)
  | [], _ => rfl
  | x :: l, h => by
    rw [rowN, List.map_cons, List.sum_cons, sumN_one (k := z x) (by omega) fun i _ q => by rw [h0 i x q, Nat.zero_mul]]
    rw [show z x + (l.map z).sum - z x = (l.map z).sum by omega, h x (by simp), rowN_uni h0 fun y hy => h y (by simp [hy])]
    rfl
theorem Uni.tree {K : List (List (List Nat))} {z : Nat → Nat} (u : Uni K z) {i m : Nat} (t : TotK K i m) : treeN K (z i) i = m := by
  have h0 : ∀ a x, a ≠ z x → treeN K a x = 0 := fun a x q => treeN_none fun w => q (u.siz w)
  induction t with
  | @mk i f hf ih =>
    cases hz : z i with
    | zero =>
      rw [treeN_zero]
      have : K.getD i [] = [] := by
        cases e : K.getD i [] with
        | nil => rfl
        | cons l ls => have := u i l (by rw [e]; simp); omega
      rw [this]; rfl
    | succ s =>
      rw [treeN_succ]
      congr 1
      refine List.map_congr_left fun l hl => ?_
      have : s = (l.map z).sum := by have := u i l hl; omega
      rw [this]
      exact rowN_uni h0 fun x hx => ih l hl x hx
theorem Uni.off {K : List (List (List Nat))} {z : Nat → Nat} (u : Uni K z) {i s : Nat} (h : s ≠ z i) : treeN K s i = 0 := treeN_none fun w => h (u.siz w)
/-- How many trees there are, told by a table. -/
theorem tot_tab {K : List (List (List Nat))} {z T : Nat → Nat} (u : Uni K z) (h : ∀ i, ((K.getD i []).map fun l => prodN (l.map T)).sum = T i) : ∀ s i, z i ≤ s → TotK K i (T i) := by
  intro s
  induction s using Nat.strongRecOn with
  | _ s ih =>
    intro i hi
    rw [← h i]
    refine .mk T fun l hl x hx => ?_
    have h1 := u i l hl
    have h2 := mem_le_sum (z := z) hx
    exact ih (z x) (by omega) x (Nat.le_refl _)
theorem Uni.least {K : List (List (List Nat))} {z : Nat → Nat} {W : Nat} (u : Uni K z) (ok : KOk K W) {i m : Nat} (hi : i < K.length) (t : TotK K i m) (hm : 0 < m) : (leastR K).getD i 0 = z i := by
  have hs : SizT K i (z i) := treeN_pos.1 (by rw [u.tree t]; exact hm)
  exact (leastR_all ok hi).1 _ ⟨hs, fun s' h => Nat.le_of_eq (u.siz h).symm⟩
theorem sizesL_uni {K : List (List (List Nat))} {z : Nat → Nat} (u : Uni K z) {i m most q : Nat} (t : TotK K i m) (h : q < (sizesL K most i).length) : (sizesL K most i)[q] = if q = z i then capN m else 0 := by
  rw [sizesL_at]
  split
  · rename_i e; rw [e, u.tree t]
  · rename_i e; rw [u.off e]; rfl

end Go.Ax

namespace Go.Ax
open Go Go.Proofs Go.RowKit

def twoS : ByteArray := ⟨#[0, 1, 2, 2, 2, 1, 0]⟩
def loopS : ByteArray := ⟨#[0, 1, 1, 2, 1, 0]⟩
def twoG : Gr := ⟨names5.take 3, 2, [0, 1], [[2, 2, 2], [2, 0]], 2⟩
def loopG : Gr := ⟨names5.take 3, 2, [0, 1], [[2, 2], [2, 0]], 2⟩
theorem two_mk : mkG (bytesN twoS) = twoG := by rfl
theorem loop_mk : mkG (bytesN loopS) = loopG := by rfl
/-- A forest whose knots have trees of one size each. -/
structure Bin (n : Nat) (L : List Fct) (K : List (List (List Nat))) (z T : List Nat) : Prop where
  all : AllOf twoG n L
  bld : BldOf twoG n L L
  root : rootF twoG n ∈ L
  len : L.length ≤ 35
  kid : kidsK twoG (frs twoG n L L) = K
  uni : ∀ i, i < K.length → ∀ l ∈ K.getD i [], (l.map fun x => z.getD x 0).sum + 1 = z.getD i 0
  tot : ∀ i, i < K.length → ((K.getD i []).map fun l => prodN (l.map fun x => T.getD x 0)).sum = T.getD i 0
  tlen : T.length = K.length
  wid : ∀ i, i < K.length → ∀ l ∈ K.getD i [], l.length ≤ 2
  find : findK (frs twoG n L L) (2, 0, (n : Int)) = ((2 * n - 1 : Nat) : Int)
  lt : 2 * n - 1 < K.length
  size : z.getD (2 * n - 1) 0 = 3 * n - 1

def binL1 : List Fct := [(0, 0, 1), (2, 0, 1)]
def binK1 : List (List (List Nat)) := [[[]], [[0]]]
def binZ1 : List Nat := [1, 2]
def binT1 : List Nat := [1, 1]
theorem bin1 : Bin 1 binL1 binK1 binZ1 binT1 := ⟨⟨⟨2, by decide +kernel⟩, by decide +kernel⟩, ⟨⟨2, by decide +kernel⟩, by decide +kernel⟩, by decide +kernel, by decide +kernel, by decide +kernel, by decide +kernel, by decide +kernel, by decide +kernel, by decide +kernel, by decide +kernel, by decide +kernel, by decide +kernel⟩
def binL2 : List Fct := [(0, 0, 1), (0, 1, 2), (2, 0, 1), (2, 0, 2), (2, 1, 2)]
def binK2 : List (List (List Nat)) := [[[]], [[]], [[0]], [[2, 4]], [[1]]]
def binZ2 : List Nat := [1, 1, 2, 5, 2]
def binT2 : List Nat := [1, 1, 1, 1, 1]
theorem bin2 : Bin 2 binL2 binK2 binZ2 binT2 := ⟨⟨⟨3, by decide +kernel⟩, by decide +kernel⟩, ⟨⟨6, by decide +kernel⟩, by decide +kernel⟩, by decide +kernel, by decide +kernel, by decide +kernel, by decide +kernel, by decide +kernel, by decide +kernel, by decide +kernel, by decide +kernel, by decide +kernel, by decide +kernel⟩
def binL3 : List Fct := [(0, 0, 1), (0, 1, 2), (0, 2, 3), (2, 0, 1), (2, 0, 2), (2, 0, 3), (2, 1, 2), (2, 1, 3), (2, 2, 3)]
def binK3 : List (List (List Nat)) := [[[]], [[]], [[]], [[0]], [[3, 6]], [[3, 7], [4, 8]], [[1]], [[6, 8]], [[2]]]
def binZ3 : List Nat := [1, 1, 1, 2, 5, 8, 2, 5, 2]
def binT3 : List Nat := [1, 1, 1, 1, 1, 2, 1, 1, 1]
theorem bin3 : Bin 3 binL3 binK3 binZ3 binT3 := ⟨⟨⟨4, by decide +kernel⟩, by decide +kernel⟩, ⟨⟨8, by decide +kernel⟩, by decide +kernel⟩, by decide +kernel, by decide +kernel, by decide +kernel, by decide +kernel, by decide +kernel, by decide +kernel, by decide +kernel, by decide +kernel, by decide +kernel, by decide +kernel⟩
def binL4 : List Fct := [(0, 0, 1), (0, 1, 2), (0, 2, 3), (0, 3, 4), (2, 0, 1), (2, 0, 2), (2, 0, 3), (2, 0, 4), (2, 1, 2), (2, 1, 3), (2, 1, 4), (2, 2, 3), (2, 2, 4), (2, 3, 4)]
def binK4 : List (List (List Nat)) := [[[]], [[]], [[]], [[]], [[0]], [[4, 8]], [[4, 9], [5, 11]], [[4, 10], [5, 12], [6, 13]], [[1]], [[8, 11]], [[8, 12], [9, 13]], [[2]], [[11, 13]], [[3]]]
def binZ4 : List Nat := [1, 1, 1, 1, 2, 5, 8, 11, 2, 5, 8, 2, 5, 2]
def binT4 : List Nat := [1, 1, 1, 1, 1, 1, 2, 5, 1, 1, 2, 1, 1, 1]
theorem bin4 : Bin 4 binL4 binK4 binZ4 binT4 := ⟨⟨⟨5, by decide +kernel⟩, by decide +kernel⟩, ⟨⟨10, by decide +kernel⟩, by decide +kernel⟩, by decide +kernel, by decide +kernel, by decide +kernel, by decide +kernel, by decide +kernel, by decide +kernel, by decide +kernel, by decide +kernel, by decide +kernel, by decide +kernel⟩
def binL5 : List Fct := [(0, 0, 1), (0, 1, 2), (0, 2, 3), (0, 3, 4), (0, 4, 5), (2, 0, 1), (2, 0, 2), (2, 0, 3), (2, 0, 4), (2, 0, 5), (2, 1, 2), (2, 1, 3), (2, 1, 4), (2, 1, 5), (2, 2, 3), (2, 2, 4), (2, 2, 5), (2, 3, 4), (2, 3, 5), (2, 4, 5)]
def binK5 : List (List (List Nat)) := [[[]], [[]], [[]], [[]], [[]], [[0]], [[5, 10]], [[5, 11], [6, 14]], [[5, 12], [6, 15], [7, 17]], [[5, 13], [6, 16], [7, 18], [8, 19]], [[1]], [[10, 14]], [[10, 15], [11, 17]], [[10, 16], [11, 18], [12, 19]], [[2]], [[14, 17]], [[14, 18], [15, 19]], [[3]], [[17, 19]], [[4]]]
def binZ5 : List Nat := [1, 1, 1, 1, 1, 2, 5, 8, 11, 14, 2, 5, 8, 11, 2, 5, 8, 2, 5, 2]
def binT5 : List Nat := [1, 1, 1, 1, 1, 1, 1, 2, 5, 14, 1, 1, 2, 5, 1, 1, 2, 1, 1, 1]
theorem bin5 : Bin 5 binL5 binK5 binZ5 binT5 := ⟨⟨⟨6, by decide +kernel⟩, by decide +kernel⟩, ⟨⟨12, by decide +kernel⟩, by decide +kernel⟩, by decide +kernel, by decide +kernel, by decide +kernel, by decide +kernel, by decide +kernel, by decide +kernel, by decide +kernel, by decide +kernel, by decide +kernel, by decide +kernel⟩
def binL6 : List Fct := [(0, 0, 1), (0, 1, 2), (0, 2, 3), (0, 3, 4), (0, 4, 5), (0, 5, 6), (2, 0, 1), (2, 0, 2), (2, 0, 3), (2, 0, 4), (2, 0, 5), (2, 0, 6), (2, 1, 2), (2, 1, 3), (2, 1, 4), (2, 1, 5), (2, 1, 6), (2, 2, 3), (2, 2, 4), (2, 2, 5), (2, 2, 6), (2, 3, 4), (2, 3, 5), (2, 3, 6), (2, 4, 5), (2, 4, 6), (2, 5, 6)]
def binK6 : List (List (List Nat)) := [[[]], [[]], [[]], [[]], [[]], [[]], [[0]], [[6, 12]], [[6, 13], [7, 17]], [[6, 14], [7, 18], [8, 21]], [[6, 15], [7, 19], [8, 22], [9, 24]], [[6, 16], [7, 20], [8, 23], [9, 25], [10, 26]], [[1]], [[12, 17]], [[12, 18], [13, 21]], [[12, 19], [13, 22], [14, 24]], [[12, 20], [13, 23], [14, 25], [15, 26]], [[2]], [[17, 21]], [[17, 22], [18, 24]], [[17, 23], [18, 25], [19, 26]], [[3]], [[21, 24]], [[21, 25], [22, 26]], [[4]], [[24, 26]], [[5]]]
def binZ6 : List Nat := [1, 1, 1, 1, 1, 1, 2, 5, 8, 11, 14, 17, 2, 5, 8, 11, 14, 2, 5, 8, 11, 2, 5, 8, 2, 5, 2]
def binT6 : List Nat := [1, 1, 1, 1, 1, 1, 1, 1, 2, 5, 14, 42, 1, 1, 2, 5, 14, 1, 1, 2, 5, 1, 1, 2, 1, 1, 1]
theorem bin6 : Bin 6 binL6 binK6 binZ6 binT6 := ⟨⟨⟨7, by decide +kernel⟩, by decide +kernel⟩, ⟨⟨14, by decide +kernel⟩, by decide +kernel⟩, by decide +kernel, by decide +kernel, by decide +kernel, by decide +kernel, by decide +kernel, by decide +kernel, by decide +kernel, by decide +kernel, by decide +kernel, by decide +kernel⟩
def binL7 : List Fct := [(0, 0, 1), (0, 1, 2), (0, 2, 3), (0, 3, 4), (0, 4, 5), (0, 5, 6), (0, 6, 7), (2, 0, 1), (2, 0, 2), (2, 0, 3), (2, 0, 4), (2, 0, 5), (2, 0, 6), (2, 0, 7), (2, 1, 2), (2, 1, 3), (2, 1, 4), (2, 1, 5), (2, 1, 6), (2, 1, 7), (2, 2, 3), (2, 2, 4), (2, 2, 5), (2, 2, 6), (2, 2, 7), (2, 3, 4), (2, 3, 5), (2, 3, 6), (2, 3, 7), (2, 4, 5), (2, 4, 6), (2, 4, 7), (2, 5, 6), (2, 5, 7), (2, 6, 7)]
def binK7 : List (List (List Nat)) := [[[]], [[]], [[]], [[]], [[]], [[]], [[]], [[0]], [[7, 14]], [[7, 15], [8, 20]], [[7, 16], [8, 21], [9, 25]], [[7, 17], [8, 22], [9, 26], [10, 29]], [[7, 18], [8, 23], [9, 27], [10, 30], [11, 32]], [[7, 19], [8, 24], [9, 28], [10, 31], [11, 33], [12, 34]], [[1]], [[14, 20]], [[14, 21], [15, 25]], [[14, 22], [15, 26], [16, 29]], [[14, 23], [15, 27], [16, 30], [17, 32]], [[14, 24], [15, 28], [16, 31], [17, 33], [18, 34]], [[2]], [[20, 25]], [[20, 26], [21, 29]], [[20, 27], [21, 30], [22, 32]], [[20, 28], [21, 31], [22, 33], [23, 34]], [[3]], [[25, 29]], [[25, 30], [26, 32]], [[25, 31], [26, 33], [27, 34]], [[4]], [[29, 32]], [[29, 33], [30, 34]], [[5]], [[32, 34]], [[6]]]
def binZ7 : List Nat := [1, 1, 1, 1, 1, 1, 1, 2, 5, 8, 11, 14, 17, 20, 2, 5, 8, 11, 14, 17, 2, 5, 8, 11, 14, 2, 5, 8, 11, 2, 5, 8, 2, 5, 2]
def binT7 : List Nat := [1, 1, 1, 1, 1, 1, 1, 1, 1, 2, 5, 14, 42, 132, 1, 1, 2, 5, 14, 42, 1, 1, 2, 5, 14, 1, 1, 2, 5, 1, 1, 2, 1, 1, 1]
theorem bin7 : Bin 7 binL7 binK7 binZ7 binT7 := ⟨⟨⟨8, by decide +kernel⟩, by decide +kernel⟩, ⟨⟨16, by decide +kernel⟩, by decide +kernel⟩, by decide +kernel, by decide +kernel, by decide +kernel, by decide +kernel, by decide +kernel, by decide +kernel, by decide +kernel, by decide +kernel, by decide +kernel, by decide +kernel⟩

end Go.Ax

namespace Go.Ax
open Go Go.Proofs Go.RowKit

theorem FrsA.tree {g : Gr} {n : Nat} {l ks : List Fct} (a : FrsA g n l ks) : ∀ i, i < (kidsK g (frs g n l ks)).length → ∃ s, SizT (kidsK g (frs g n l ks)) i s := fun i hi => by
  rw [a.base.klen] at hi
  exact a.base.tree a.drv a.sub hi
theorem FrsA.fert {g : Gr} {n : Nat} {l ks : List Fct} {W : Nat} (a : FrsA g n l ks) (ok : TOk g (frs g n l ks) W) : fertR (kidsK g (frs g n l ks)) = kidsK g (frs g n l ks) := fertR_all ok.kok a.tree
theorem getD_none {K : List (List (List Nat))} {i : Nat} (h : ¬ i < K.length) : K.getD i [] = [] := by rw [List.getD_eq_getElem?_getD, List.getElem?_eq_none (by omega)]; rfl
section
variable {n : Nat} {L : List Fct} {K : List (List (List Nat))} {z T : List Nat} (b : Bin n L K z T)
include b
theorem Bin.u : Uni K fun x => z.getD x 0 := fun i l hl => by
  by_cases h : i < K.length
  · exact b.uni i h l hl
  · rw [getD_none h] at hl; cases hl
theorem Bin.t (i : Nat) : TotK K i (T.getD i 0) := by
  refine tot_tab (T := fun x => T.getD x 0) b.u (fun i => ?_) _ i (Nat.le_refl _)
  by_cases h : i < K.length
  · exact b.tot i h
  · rw [getD_none h, List.getD_eq_getElem?_getD, List.getElem?_eq_none (by have := b.tlen; omega)]; rfl
theorem Bin.tok (a : FrsA twoG n L L) : TOk twoG (frs twoG n L L) 2 := a.base.tok (fun i v hv => by
  rw [b.kid] at hv
  by_cases h : i < K.length
  · exact b.wid i h v hv
  · rw [getD_none h] at hv; cases hv) (Nat.le_trans (Nat.pow_le_pow_right (by omega) (show L.length + 1 ≤ 36 by have := b.len; omega)) (by decide))
theorem Bin.ltF : 2 * n - 1 < (frs twoG n L L).length := by
  have := b.lt
  rw [← b.kid, kidsK_len] at this; exact this
theorem Bin.trees (a : FrsA twoG n L L) {h : Heap} {Q : Value → Heap → Prop} (hq : Q (.tuple #[natV (capN (T.getD (2 * n - 1) 0)), .bool false]) h) : acall Try.prog F_count_Trees [twoG.enc, knots (frs twoG n L L), natV (2 * n - 1)] h Q := by
  have hf := a.fert (b.tok a)
  refine cTrees_spec (b.tok a) b.ltF (fun q => ?_) fun _ m t => ?_
  · rw [hf, b.kid] at q; exact absurd q b.u.noend
  · rw [hf, b.kid] at t; rw [t.uniq (b.t _)]; exact hq
theorem Bin.least (a : FrsA twoG n L L) (hp : 0 < T.getD (2 * n - 1) 0) {h : Heap} {Q : Value → Heap → Prop} (hq : Q (natV (3 * n - 1)) h) : acall Try.prog F_count_Least [twoG.enc, knots (frs twoG n L L), natV (2 * n - 1)] h Q := by
  refine cLeast_spec (b.tok a) b.ltF ?_
  have := (b.tok a).kok
  rw [b.kid] at this ⊢
  rw [b.u.least this b.lt (b.t _) hp, b.size]; exact hq
theorem Bin.sizes (a : FrsA twoG n L L) {most : Nat} (hm : most ≤ 60) {h : Heap} {Q : Value → Heap → Prop} (hq : ∀ l : List Nat, l.length = most + 1 → (∀ q (w : q < l.length), l[q] = if q = 3 * n - 1 then capN (T.getD (2 * n - 1) 0) else 0) → Q (nats l) h) :
    acall Try.prog F_count_Sizes [twoG.enc, knots (frs twoG n L L), natV (2 * n - 1), natV most] h Q := by
  refine cSizes_spec (b.tok a) b.ltF hm ?_
  rw [b.kid]
  refine hq _ sizesL_len fun q w => ?_
  rw [sizesL_uni b.u (b.t _) w, b.size]
theorem Bin.cycle (a : FrsA twoG n L L) {h : Heap} {Q : Value → Heap → Prop} (hq : Q (.slice none 0 0) h) : acall Try.prog F_count_Cycle [twoG.enc, knots (frs twoG n L L)] h Q := by
  refine cCycle_spec (b.tok a) fun v hv => ?_
  rw [b.kid] at hv
  cases v with
  | none => exact hq
  | some l =>
    obtain ⟨i, _, h2⟩ := hv.iff.1 rfl
    have := b.u.plus h2; omega
end
/-- The looping one. -/
def lpL : List Fct := [(0, 0, 1), (2, 0, 1)]
def lpK : List (List (List Nat)) := [[[]], [[1], [0]]]
theorem lp_all : AllOf loopG 1 lpL := ⟨⟨3, by decide +kernel⟩, by decide +kernel⟩
theorem lp_bld : BldOf loopG 1 lpL lpL := ⟨⟨3, by decide +kernel⟩, by decide +kernel⟩
theorem lp_root : rootF loopG 1 ∈ lpL := by decide +kernel
theorem lp_kid : kidsK loopG (frs loopG 1 lpL lpL) = lpK := by decide +kernel
theorem lp_find : findK (frs loopG 1 lpL lpL) (2, 0, 1) = ((1 : Nat) : Int) := by decide +kernel
theorem lp_step : stepK lpK 1 1 := ⟨[1], by decide, by decide⟩
theorem lp_trees (a : FrsA loopG 1 lpL lpL) {h : Heap} {Q : Value → Heap → Prop} (hq : Q (.tuple #[.int .i64 0, .bool true]) h) : acall Try.prog F_count_Trees [loopG.enc, knots (frs loopG 1 lpL lpL), natV 1] h Q := by
  have ok := a.base.tok3 (by decide)
  refine cTrees_spec ok (by decide) (fun _ => hq) fun q => ?_
  rw [a.fert ok, lp_kid] at q
  exact absurd ⟨1, .inl rfl, .one lp_step⟩ q
theorem lp_cycle (a : FrsA loopG 1 lpL lpL) {h : Heap} {Q : Value → Heap → Prop} (hq : ∀ b, bestN b = 1 → Q (bestV b) h) : acall Try.prog F_count_Cycle [loopG.enc, knots (frs loopG 1 lpL lpL)] h Q := by
  refine cCycle_spec (a.base.tok3 (by decide)) fun v hv => hq v (hv.one ⟨1, by decide, ?_⟩)
  rw [lp_kid]; exact lp_step
theorem lp_loops (a : FrsA loopG 1 lpL lpL) {h : Heap} {Q : Value → Heap → Prop} (hq : ∀ l : List Bool, l.length = 2 → (∀ w : 1 < l.length, l[1] = true) → Q (bools l) h) : acall Try.prog F_count_Loops [loopG.enc, knots (frs loopG 1 lpL lpL)] h Q := by
  refine cLoops_spec (a.base.tok3 (by decide)) fun l hl ho => hq l hl fun w => ?_
  have := (ho 1).2 (by rw [lp_kid]; exact .one lp_step)
  unfold onL at this
  rwa [getD_at w] at this

end Go.Ax

namespace Go.Ax
open Go Go.Proofs Go.RowKit

theorem two_spec {h : Heap} {Q : Value → Heap → Prop} (hq : Q (.string twoS) h) : acall Try.prog F_homographlaw28_two [] h Q := by
  apply W_homographlaw28_two_ok
  unfold W_homographlaw28_two
  exact gcV_same hq
theorem findN {f : List Kt} {s a b : Int} {k : Nat} (hl : f.length ≤ 1000000) (e : findK f (s, a, b) = (k : Int)) {h : Heap} {Q : Value → Heap → Prop} (hq : Q (natV k) h) :
    acall Try.prog F_homographref27_Find [knots f, .int .i64 s, .int .i64 a, .int .i64 b] h Q := find_spec hl (by rw [e]; exact hq)
theorem madeN {s : ByteArray} {g : Gr} (hg : mkG (bytesN s) = g) (hs : s.size ≤ 1000) {h : Heap} {Q : Value → Heap → Prop} (hq : Q g.enc h) : acall Try.prog F_homographlaw28_made [.string s] h Q := made_spec hs (by rw [hg]; exact hq)

theorem s_ixN {l : List Nat} {c : Nat} {z : Int} {K : Value → Prop} (e : z = (c : Int)) (hn : c < l.length) (k : K (plit [natV l[c]])) : oW (iaS 1 (nats l) (.int .i64 z)) K := by
  subst e; exact s_ix hn rfl k
theorem awake_spec {h : Heap} {Q : Value → Heap → Prop} (hq : Q (.bool true) h) : acall Try.prog F_homographlaw28_awake [] h Q := by
  apply W_homographlaw28_awake_ok
  unfold W_homographlaw28_awake
  repeat' first | ((with_reducible apply s_call))
  refine two_spec ?_
  repeat' first | ((with_reducible apply s_call))
  refine forest_at (s := twoS) (n := 4) two_mk (by decide) (by omega) bin4.all bin4.bld bin4.root fun a => ?_
  repeat' first | ((with_reducible apply s_call))
  refine findN (by decide) bin4.find ?_
  repeat' first | ((with_reducible apply s_call))
  refine two_spec ?_
  repeat' first | ((with_reducible apply s_call))
  refine madeN two_mk (by decide) ?_
  repeat' first | ((with_reducible apply s_call))
  refine bin4.trees a ?_
  rw [show capN (binT4.getD (2 * 4 - 1) 0) = 5 by decide +kernel]
  repeat' first | ((with_reducible apply s_e20)) | ((with_reducible apply s_e21)) | ((with_reducible apply s_call))
  refine forest_at (s := loopS) (n := 1) loop_mk (by decide) (by omega) lp_all lp_bld lp_root fun c => ?_
  repeat' first | ((with_reducible apply s_call))
  refine findN (by decide) lp_find ?_
  repeat' first | ((with_reducible apply s_call))
  refine madeN (s := loopS) loop_mk (by decide) ?_
  repeat' first | ((with_reducible apply s_call))
  refine lp_trees c ?_
  repeat' first | ((with_reducible apply s_e20)) | ((with_reducible apply s_e21)) | ((with_reducible apply s_call))
  refine two_spec ?_
  repeat' first | ((with_reducible apply s_call))
  refine madeN two_mk (by decide) ?_
  repeat' first | ((with_reducible apply s_call))
  refine bin4.sizes a (most := 12) (by omega) fun l hl hv => ?_
  have h11 := hv 11 (by omega)
  have h10 := hv 10 (by omega)
  rw [if_pos rfl, show capN (binT4.getD (2 * 4 - 1) 0) = 5 by decide +kernel] at h11
  rw [if_neg (by omega)] at h10
  repeat' first | ((with_reducible apply s_eql)) | ((with_reducible apply s_not)) | ((with_reducible apply s_brT)) | ((with_reducible apply s_br) <;> intro hb <;> try (exfalso; omega)) | ((with_reducible apply s_brB) <;> intro hb <;> try contradiction) | ((with_reducible apply s_lenM))
  refine s_ixN (c := 11) rfl (by omega) ?_
  repeat' first | ((with_reducible apply s_eql)) | ((with_reducible apply s_br) <;> intro hb <;> try (exfalso; omega)) | ((with_reducible apply s_ld1); (· rfl))
  refine s_ixN (c := 10) rfl (by omega) ?_
  repeat' first | ((with_reducible apply s_eql)) | ((with_reducible apply s_br) <;> intro hb <;> try (exfalso; omega)) | ((with_reducible apply s_ld1); (· rfl)) | ((with_reducible apply s_call))
  refine two_spec ?_
  repeat' first | ((with_reducible apply s_call))
  refine madeN two_mk (by decide) ?_
  repeat' first | ((with_reducible apply s_call))
  refine bin4.least a (by decide +kernel) ?_
  repeat' first | ((with_reducible apply s_eql)) | ((with_reducible apply s_br) <;> intro hb <;> try (exfalso; omega)) | ((with_reducible apply s_call))
  refine madeN (s := loopS) loop_mk (by decide) ?_
  repeat' first | ((with_reducible apply s_call))
  refine lp_cycle c fun b hb => ?_
  refine bestV_len ?_
  rw [hb]
  repeat' first | ((with_reducible apply s_eql)) | ((with_reducible apply s_br) <;> intro hb <;> try (exfalso; omega)) | ((with_reducible apply s_call))
  refine two_spec ?_
  repeat' first | ((with_reducible apply s_call))
  refine madeN two_mk (by decide) ?_
  repeat' first | ((with_reducible apply s_call))
  refine bin4.cycle a ?_
  refine ⟨.int .i64 0, rfl, ?_⟩
  repeat' first | ((with_reducible apply s_eql)) | ((with_reducible apply s_br) <;> intro hb <;> try (exfalso; omega)) | ((with_reducible apply s_call))
  refine madeN (s := loopS) loop_mk (by decide) ?_
  repeat' first | ((with_reducible apply s_call))
  refine lp_loops c fun b hbl hb1 => ?_
  repeat' first | ((with_reducible apply s_eql)) | ((with_reducible apply s_br) <;> intro hb <;> try (exfalso; omega)) | ((with_reducible apply s_lenM)) | ((with_reducible apply s_call))
  refine madeN (s := loopS) loop_mk (by decide) ?_
  repeat' first | ((with_reducible apply s_call))
  refine lp_loops c fun d hdl hd1 => ?_
  refine ix_lit (l := d) (n := 1) (by omega) rfl ?_
  repeat' first | ((with_reducible apply s_ld1); (· rfl))
  rw [hd1]; exact gcV_same hq

end Go.Ax
