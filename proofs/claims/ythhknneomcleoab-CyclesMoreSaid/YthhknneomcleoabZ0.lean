/- Cycles: what the laws CyclesAgree and CyclesMore lean on (picked of the other seat's texts). -/
import Derived.Test.YthhknneomcleoabC3
import Derived.Test.YthhknneomcleoabLay
import Derived.Test.YthhknneomcleoabWb
namespace Go.Ax
open Go Go.Proofs Go.RowKit
abbrev byte (x : Nat) : Value := .int .u8 (x : Int)
end Go.Ax
namespace Go.Proofs
open Go.RowKit Go.Maps Go.Sort Go.Shelf
theorem Try.sortsA (m : Nat) : AnyZI.SortsIn Try.prog Try.sortedA_ren Fence.wide m :=
  ⟨fun blk off cap ss W hH hblk hsz => callsIn_wide.2 (AnyM.slices_Sort_int Try.sortA blk off cap ss W hH hblk hsz),
   fun p cap W => callsIn_wide.2 (AnyM.slices_Sort_int_none Try.sortA p cap W)⟩
end Go.Proofs
namespace Go.Ax
open Go Go.Proofs Go.RowKit Go.Maps
section
variable {B : Fr} {w0 w w' : World} {ρ : Ren} {h : Heap}
/-- A block that is frozen from here on. -/
def Ren.cool (ρ : Ren) (g : Nat) (cc : Array Value) : Ren := ⟨ρ.bind, fun k => if k = g then some cc else ρ.frz k⟩
theorem Ren.cool_le {g : Nat} {cc : Array Value} (hg : ρ.frz g = none) : ρ.le (ρ.cool g cc) := ⟨fun _ _ e => e, fun k c e => by
  unfold Ren.cool
  dsimp only
  by_cases q : k = g
  · subst q; rw [hg] at e; cases e
  · rw [if_neg q]; exact e⟩
theorem Sim.cool (s : Sim B w0 ρ h w) {g : Nat} {cc : Array Value} {el : TypeId} {f : Nat × Nat} (hw : w.heap[g]? = some (.cells cc el f)) (hn : ρ.frz g = none) (hno : ∀ i b, ρ i = some b → b.block ≠ g) (hF : ¬ B.F g) : Sim B w0 (ρ.cool g cc) h w := by
  have hle := Ren.cool_le (cc := cc) hn
  refine ⟨s.below, s.le, s.fle, s.dom, fun i c m hi => let ⟨b, h1, h2⟩ := s.row i c m hi; ⟨b, h1, h2.mono hle rfl⟩, fun i es hi => let ⟨b, h1, h2⟩ := s.map i es hi; ⟨b, h1, h2.mono hle rfl⟩, s.inj, fun k c hk => ?_, fun k c i b hk hi hl => ?_, fun k c hk => ?_⟩
  · unfold Ren.cool at hk
    dsimp only at hk
    by_cases q : k = g
    · subst q; rw [if_pos rfl] at hk; cases hk; exact ⟨el, f, hw⟩
    · rw [if_neg q] at hk; exact s.cold k c hk
  · unfold Ren.cool at hk
    dsimp only at hk
    by_cases q : k = g
    · subst q; exact .inr (hno i b hi)
    · rw [if_neg q] at hk; exact s.apart k c i b hk hi hl
  · unfold Ren.cool at hk
    dsimp only at hk
    by_cases q : k = g
    · subst q; exact hF
    · rw [if_neg q] at hk; exact s.coldF k c hk
end
theorem insert_perm {H : Type} (x : Lit × DataW H) : ∀ l : List (Lit × DataW H), (DataW.insert x l).Perm (x :: l)
  | [] => .refl _
  | y :: r => by
    unfold DataW.insert
    split
    · exact .refl _
    · exact ((insert_perm x r).cons y).trans (.swap x y r)
theorem foldr_perm {H : Type} : ∀ l : List (Lit × DataW H), (l.foldr DataW.insert []).Perm l
  | [] => .refl _
  | x :: r => (insert_perm x _).trans ((foldr_perm r).cons x)
/-- A map with int keys, as the library's contracts want it. -/
theorem owns_map {P : Program} {t : TypeId} (ht : P.underlying t = some (.int .i64)) {w : World} {b : Nat} {ents : Array MapEntry} {clock : Nat} {ks : List Int} (hb : w.heap[b]? = some (.map ents clock)) (hs : MapKept.Stamped ents clock)
    (hk : ents.toList.map (·.key) = ks.map (Value.int .i64)) (hi : ∀ k ∈ ks, inI k) (hl : ks.length ≤ 1000000000000) :
    ∃ D0 : DataW Unit, w.ownsMap P t (fun _ => some (.nil, [])) b ents.size D0 ∧ (intKeys D0).Perm ks ∧ Maps.size D0 = ks.length := by
  have hlen : ents.size = ks.length := by
    have := congrArg List.length hk; simpa using this
  have hrd : ∀ x ∈ ents.toList, ∃ n, n ∈ ks ∧ x.key = .int .i64 n ∧ WideElems.rd (H := Unit) P t (fun _ => some (.nil, [])) x = some (.int .i64 n, .nil) := fun x hx => by
    have : x.key ∈ ks.map (Value.int .i64) := by rw [← hk]; exact List.mem_map.2 ⟨x, hx, rfl⟩
    obtain ⟨n, hn, e⟩ := List.mem_map.1 this
    obtain ⟨h1, h2⟩ := hi n hn
    refine ⟨n, hn, e.symm, ?_⟩
    have hw : (Lit.int .i64 n).wf = true := by
      simp [Lit.wf, IntKind.min, IntKind.max, IntKind.signed, IntKind.bits]
      omega
    simp [WideElems.rd, ← e, keyOf, ht, mapKey, hw]
  refine ⟨.map ((ents.toList.map (WideElems.rg P t fun _ => some (.nil, []))).foldr DataW.insert []), ⟨ents, clock, hb, ⟨by rw [hlen]; unfold maxLen; omega, hs, fun x hx => let ⟨n, _, _, e⟩ := hrd x hx; ⟨_, e⟩⟩, Nat.le_refl _, rfl⟩, ?_, ?_⟩
  · show (List.map _ _).Perm ks
    refine ((foldr_perm _).map _).trans ?_
    rw [List.map_map]
    have : List.map ((fun p => intOf p.1) ∘ WideElems.rg (H := Unit) P t fun _ => some (.nil, [])) ents.toList = ks := by
      have h2 : List.map (fun x : MapEntry => match x.key with | .int _ n => n | _ => 0) ents.toList = ks := by
        have := congrArg (List.map fun v : Value => match v with | .int _ n => n | _ => (0 : Int)) hk
        rw [List.map_map, List.map_map] at this
        have e2 : (List.map ((fun v : Value => match v with | .int _ n => n | _ => (0 : Int)) ∘ Value.int .i64) ks) = ks := by
          exact (List.map_congr_left (g := id) fun _ _ => rfl).trans (List.map_id _)
        rw [e2] at this
        exact this
      rw [← h2]
      refine List.map_congr_left fun x hx => ?_
      obtain ⟨n, _, e, e2⟩ := hrd x hx
      simp only [Function.comp, WideElems.rg, e2, Option.getD_some, e]
      rfl
    rw [this]
  · show (List.foldr DataW.insert [] (ents.toList.map (WideElems.rg (H := Unit) P t fun _ => some (.nil, [])))).length = _
    rw [(foldr_perm _).length_eq, List.length_map, Array.length_toList, hlen]
end Go.Ax
namespace Go.Ax
open Go Go.Proofs Go.RowKit
def inR (n : Nat) (x : Int) : Prop := 0 ≤ x ∧ x < n
instance (n : Nat) (x : Int) : Decidable (inR n x) := by unfold inR; infer_instance
/-- Two rising lists of the same numbers are the same. -/
theorem rising_eq : ∀ {a b : List Int}, a.Pairwise (· < ·) → b.Pairwise (· < ·) → (∀ x, x ∈ a ↔ x ∈ b) → a = b
  | [], [], _, _, _ => rfl
  | [], y :: b, _, _, h => by have := (h y).2 (by simp); simp at this
  | x :: a, [], _, _, h => by have := (h x).1 (by simp); simp at this
  | x :: a, y :: b, ha, hb, h => by
    obtain ⟨ha1, ha2⟩ := List.pairwise_cons.1 ha
    obtain ⟨hb1, hb2⟩ := List.pairwise_cons.1 hb
    have e : x = y := by
      rcases List.mem_cons.1 ((h x).1 (by simp)) with q | q
      · exact q
      · rcases List.mem_cons.1 ((h y).2 (by simp)) with r | r
        · exact r.symm
        · have := hb1 x q; have := ha1 y r; omega
    subst e
    rw [rising_eq ha2 hb2 fun z => ⟨fun hz => ?_, fun hz => ?_⟩]
    · rcases List.mem_cons.1 ((h z).1 (by simp [hz])) with q | q
      · have := ha1 z hz; omega
      · exact q
    · rcases List.mem_cons.1 ((h z).2 (by simp [hz])) with q | q
      · have := hb1 z hz; omega
      · exact q
theorem int_len {l : List Int} : ∀ x ∈ l.map (fun n => Value.int .i64 n), (cellsOf x).length = 1 := fun x hx => by
  obtain ⟨n, _, rfl⟩ := List.mem_map.1 hx; rfl
theorem int_cl {l : List Int} : ∀ e ∈ l.map (fun n => Value.int .i64 n), ∀ x ∈ cellsOf e, Cl x := fun e he x hx => by
  obtain ⟨n, _, rfl⟩ := List.mem_map.1 he
  simp at hx; subst hx; exact .int _ _
theorem Acc.lt {sz n : Nat} {H : Heap} {v : Value} {l : List Value} (a : Acc sz n H v l) {j : Nat} (hj : lies v j) : j < H.length := by
  obtain ⟨o, x, y, e⟩ := hj
  rcases a with ⟨rfl, _⟩ | ⟨q, cap, c, m, h1, rfl, h3, _⟩
  · cases e
  · cases e; exact getRow_lt h3
end Go.Ax
namespace Go.Ax
open Go Go.Proofs Go.RowKit
/-- The bytes of a text. -/
abbrev bytesN (s : ByteArray) : List Nat := s.data.toList.map UInt8.toNat
end Go.Ax
namespace Go.Ax
open Go Go.Proofs Go.RowKit
/-- The places that are marked, among the first ones. -/
def marked (c : List Bool) (n : Nat) : List Int := ((List.range n).filter fun i => c.getD i false).map fun (i : Nat) => (i : Int)
theorem marked_succ (c : List Bool) (n : Nat) : marked c (n + 1) = if c.getD n false = true then marked c n ++ [(n : Int)] else marked c n := by
  unfold marked
  rw [List.range_succ, List.filter_append, List.map_append]
  by_cases h : c.getD n false = true
  · rw [if_pos h, List.filter_cons_of_pos (by simpa using h)]; rfl
  · rw [if_neg h, List.filter_cons_of_neg (by simpa using h)]; simp
theorem marked_len (c : List Bool) (n : Nat) : (marked c n).length ≤ n := by
  unfold marked
  rw [List.length_map]
  exact Nat.le_trans (List.length_filter_le _ _) (by simp)
theorem mem_marked {c : List Bool} {n : Nat} {x : Int} : x ∈ marked c n ↔ inR n x ∧ c.getD x.toNat false = true := by
  unfold marked
  rw [List.mem_map]
  constructor
  · rintro ⟨i, hi, rfl⟩
    rw [List.mem_filter, List.mem_range] at hi
    exact ⟨⟨by omega, by omega⟩, by simpa using hi.2⟩
  · rintro ⟨⟨h1, h2⟩, h3⟩
    exact ⟨x.toNat, by rw [List.mem_filter, List.mem_range]; exact ⟨by omega, h3⟩, by omega⟩
theorem marked_sorted (c : List Bool) (n : Nat) : (marked c n).Pairwise (· < ·) := by
  unfold marked
  rw [List.pairwise_map]
  exact (List.pairwise_lt_range.filter _).imp (by intro a b h; omega)
theorem ix_bools {l : List Bool} {n : Nat} {k : IntKind} {h : Heap} {K : Value → Prop} (hn : n < l.length) (k1 : K (.bool l[n])) :
    oW (iaS 1 (bools l) (.int k (n : Int))) fun v => oW (ldW false 1 h v) K := ix_lit hn rfl ⟨_, ld_plit1, k1⟩
end Go.Ax
namespace Go.Ax
open Go Go.Proofs Go.RowKit
theorem same_spec {a b : List Int} (ha : a.length ≤ 1000000000) (hb : b.length ≤ 1000000000) {h : Heap} {Q : Value → Heap → Prop} (hq : Q (.bool (decide (a = b))) h) : acall Try.prog F_homographref04_Same [ints a, ints b] h Q := by
  apply W_homographref04_Same_ok
  unfold W_homographref04_Same
  rw [lenS_lit, oW_some, lenS_lit, oW_some, n_neq, oW_some, bW_dec]
  simp only [List.length_map]
  constructor
  · intro hne
    rw [decide_eq_false (fun e => hne (by rw [e]))] at hq
    exact gcV_same hq
  · intro heq
    have hl : a.length = b.length := by omega
    refine ⟨fun k vs g => ∃ i : Nat, vs = [ints a, ints b, .int .i64 (i : Int)] ∧ g = h ∧ k = a.length - i ∧ i ≤ a.length ∧ a.take i = b.take i, a.length, gcL_same ⟨0, by simp⟩, ?_⟩
    rintro k x8 x9 x10 g ⟨i, hv, rfl, hk, hi, hno⟩
    simp only [List.cons.injEq, and_true] at hv
    obtain ⟨rfl, rfl, rfl⟩ := hv
    rw [lenS_lit, oW_some, n_lss, oW_some, bW_dec]
    simp only [List.length_map]
    constructor
    · intro hlt
      have h1 : i < a.length := by omega
      have h2 : i < b.length := by omega
      refine ix_ints h1 ?_
      refine ix_ints h2 ?_
      rw [n_neq, oW_some, bW_dec]
      constructor
      · intro hne
        rw [decide_eq_false (fun e => hne (by subst e; rfl))] at hq
        exact gcV_same hq
      · intro he
        rw [n_add (by omega), oW_some]
        refine ⟨a.length - (i + 1), by omega, gcL_same ⟨i + 1, by simp, rfl, rfl, by omega, ?_⟩⟩
        rw [List.take_add_one, List.take_add_one, hno, List.getElem?_eq_getElem h1, List.getElem?_eq_getElem h2, Decidable.not_not.1 he]
    · intro hge
      rw [List.take_of_length_le (by omega), List.take_of_length_le (by omega)] at hno
      rw [decide_eq_true hno] at hq
      exact gcV_same hq
end Go.Ax

