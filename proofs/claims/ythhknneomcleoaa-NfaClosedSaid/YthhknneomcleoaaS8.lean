/- Specs: the reference's closure and step. -/
import Derived.Test.YthhknneomcleoaaS7
namespace Go.Ax
open Go Go.Proofs Go.RowKit

/-- The places that are marked, among the first ones. -/
def marked (c : List Bool) (n : Nat) : List Int := ((List.range n).filter fun i => c.getD i false).map fun (i : Nat) => (i : Int)
theorem marked_succ (c : List Bool) (n : Nat) : marked c (n + 1) = if c.getD n false = true then marked c n ++ [(n : Int)] else marked c n := by
  unfold marked
  rw [List.range_succ, List.filter_append, List.map_append]
  by_cases h : c.getD n false = true
  · rw [if_pos h, List.filter_cons_of_pos (by simpa using h)]; rfl
  · rw [if_neg h, List.filter_cons_of_neg (by simpa using h)]; simp
theorem marked_len (c : List Bool) (n : Nat) : (marked c n).length ≤ n := by
  unfold marked
  rw [List.length_map]
  exact Nat.le_trans (List.length_filter_le _ _) (by simp)
theorem mem_marked {c : List Bool} {n : Nat} {x : Int} : x ∈ marked c n ↔ inR n x ∧ c.getD x.toNat false = true := by
  unfold marked
  rw [List.mem_map]
  constructor
  · rintro ⟨i, hi, rfl⟩
    rw [List.mem_filter, List.mem_range] at hi
    exact ⟨⟨by omega, by omega⟩, by simpa using hi.2⟩
  · rintro ⟨⟨h1, h2⟩, h3⟩
    exact ⟨x.toNat, by rw [List.mem_filter, List.mem_range]; exact ⟨by omega, h3⟩, by omega⟩
theorem marked_sorted (c : List Bool) (n : Nat) : (marked c n).Pairwise (· < ·) := by
  unfold marked
  rw [List.pairwise_map]
  exact (List.pairwise_lt_range.filter _).imp (by intro a b h; omega)

theorem bool_len {l : List Bool} : ∀ x ∈ l.map (fun n => Value.bool n), (cellsOf x).length = 1 := fun x hx => by
  obtain ⟨n, _, rfl⟩ := List.mem_map.1 hx; rfl
theorem bool_cl {l : List Bool} : ∀ e ∈ l.map (fun n => Value.bool n), ∀ x ∈ cellsOf e, Cl x := fun e he x hx => by
  obtain ⟨n, _, rfl⟩ := List.mem_map.1 he
  simp at hx; subst hx; exact .bool _
theorem ix_bools {l : List Bool} {n : Nat} {k : IntKind} {h : Heap} {K : Value → Prop} (hn : n < l.length) (k1 : K (.bool l[n])) :
    oW (iaS 1 (bools l) (.int k (n : Int))) fun v => oW (ldW false 1 h v) K := ix_lit hn rfl ⟨_, ld_plit1, k1⟩

theorem rising_spec {c : List Bool} {h : Heap} {Q : Value → Heap → Prop} (hc : c.length ≤ 1000000000) (hq : Q (ints (marked c c.length)) h) : acall Try.prog F_homographref06_rising [bools c] h Q := by
  apply W_homographref06_rising_ok
  refine ⟨fun k vs H => ∃ (i : Nat) (v : Value) (g : Heap), vs = [bools c, v, .int .i64 (i : Int)] ∧ H = h ++ g ∧ k = c.length - i ∧ i ≤ c.length ∧ Acc 1 h.length H v ((marked c i).map fun x => .int .i64 x), c.length, gcL_same ⟨0, _, [], rfl, by simp, by omega, by omega, Acc.nil⟩, ?_⟩
  rintro k x5 x6 x7 H ⟨i, v, g, hv, rfl, hk, hi, ac⟩
  simp only [List.cons.injEq, and_true] at hv
  obtain ⟨rfl, rfl, rfl⟩ := hv
  rw [lenS_lit, oW_some, n_lss, oW_some, bW_dec]
  simp only [List.length_map]
  have hml := marked_len c i
  constructor
  · intro hlt
    have hlt' : i < c.length := by omega
    refine ix_bools hlt' ?_
    have hms := marked_succ c i
    have hg : c.getD i false = c[i] := by simp [hlt']
    rw [hg] at hms
    rw [bW_bool]
    constructor
    · intro hp
      refine Acc.push rfl ac (by omega) int_len rfl rfl rfl rfl (by simp; omega) (by simp; omega) fun v' g' a2 _ _ _ => ?_
      rw [n_add (by omega), oW_some]
      exact ⟨c.length - (i + 1), by omega, gcL_same ⟨i + 1, v', g', by simp, rfl, rfl, by omega, by rw [hms, if_pos hp, List.map_append]; exact a2⟩⟩
    · intro hp
      rw [n_add (by omega), oW_some]
      exact ⟨c.length - (i + 1), by omega, gcL_same ⟨i + 1, x6, g, by simp, rfl, rfl, by omega, by rw [hms, if_neg (by simp [hp])]; exact ac⟩⟩
  · intro hge
    have : i = c.length := by omega
    subst this
    exact ac.done rfl ⟨[], by simp⟩ (by omega) int_len int_cl hq

def RefI1 (h : Heap) (m : Mch) (l : List Int) (k : Nat) (vs : List Value) (H : Heap) : Prop :=
  ∃ (i : Nat) (v : Value) (g : Heap) (c : List Bool), vs = [ints l, .pointer (some ⟨h.length, 0, none⟩), v, .int .i64 (i : Int)] ∧ H = h ++ [mrow m] ++ g ∧ k = l.length - i ∧ i ≤ l.length ∧ Acc 1 (h.length + 1) H v (c.map fun x => .bool x) ∧
    c.length = m.count ∧ ∀ x : Nat, x < m.count → (c.getD x false = true ↔ (x : Int) ∈ l.take i)

def falses (c : List Bool) : Nat := c.count false

def RefI2 (h : Heap) (m : Mch) (l : List Int) (k : Nat) (vs : List Value) (H : Heap) : Prop :=
  ∃ (v : Value) (g : Heap) (c : List Bool) (more : Bool), vs = [.pointer (some ⟨h.length, 0, none⟩), v, .bool more] ∧ H = h ++ [mrow m] ++ g ∧ k = falses c + (if more = true then 1 else 0) ∧ Acc 1 (h.length + 1) H v (c.map fun x => .bool x) ∧
    c.length = m.count ∧ (∀ x : Nat, x < m.count → (x : Int) ∈ l → c.getD x false = true) ∧ (∀ x : Nat, x < m.count → c.getD x false = true → EReach m.eps (fun x => x ∈ l ∧ inR m.count x) x) ∧
    (more = false → ∀ p ∈ m.eps, c.getD p.1.toNat false = true → c.getD p.2.toNat false = true)

def RefI3 (h : Heap) (m : Mch) (l : List Int) (f0 : Nat) (k : Nat) (vs : List Value) (H : Heap) : Prop :=
  ∃ (v : Value) (g : Heap) (c : List Bool) (more : Bool) (i : Nat), vs = [.pointer (some ⟨h.length, 0, none⟩), v, .bool more, .int .i64 (i : Int)] ∧ H = h ++ [mrow m] ++ g ∧ k = m.eps.length - i ∧ i ≤ m.eps.length ∧ Acc 1 (h.length + 1) H v (c.map fun x => .bool x) ∧
    c.length = m.count ∧ (∀ x : Nat, x < m.count → (x : Int) ∈ l → c.getD x false = true) ∧ (∀ x : Nat, x < m.count → c.getD x false = true → EReach m.eps (fun x => x ∈ l ∧ inR m.count x) x) ∧
    (more = false → falses c = f0 ∧ ∀ p ∈ m.eps.take i, c.getD p.1.toNat false = true → c.getD p.2.toNat false = true) ∧ (more = true → falses c < f0)

theorem getD_set {c : List Bool} {i j : Nat} {b : Bool} (hi : i < c.length) : (c.set i b).getD j false = if j = i then b else c.getD j false := by
  rw [List.getD_eq_getElem?_getD, List.getElem?_set]
  by_cases e : i = j
  · subst e; simp [hi]
  · rw [if_neg e, if_neg (Ne.symm e)]; rfl
theorem falses_set {c : List Bool} {i : Nat} (hi : i < c.length) (hf : c.getD i false = false) : falses (c.set i true) < falses c := by
  unfold falses
  induction c generalizing i with
  | nil => simp at hi
  | cons x c ih =>
    cases i with
    | zero => simp at hf; subst hf; simp
    | succ i =>
      have := ih (i := i) (by simpa using hi) (by simpa using hf)
      simp [List.count_cons] at this ⊢
      omega

theorem refClose_spec {m : Mch} {l : List Int} (hok : ∀ p ∈ m.eps, inR m.count p.1 ∧ inR m.count p.2) (hl : m.eps.length ≤ 1000000000) (hc : m.count ≤ 5000) (hl2 : l.length ≤ 100000000) {h : Heap} {Q : Value → Heap → Prop} (hq : Q (ints (m.clo l)) h) :
    acall Try.prog F_homographref06_Close [m.enc, ints l] h Q := by
  apply W_homographref06_Close_ok
  unfold W_homographref06_Close
  simp [-exists_and_right]
  have hmm : minmaxA true [Value.int .i64 (m.count : Int), .int .i64 0] = some (.int .i64 (m.count : Int)) := by
    simp only [minmaxA, List.foldlM]
    by_cases h0 : (0 : Int) > (m.count : Int)
    · omega
    · simp [h0]
  rw [hmm, oW_some]
  have hrep : repA [Value.bool false] m.count = (List.replicate m.count false).map fun x => Value.bool x := by rw [repA_one, List.map_replicate]
  refine ⟨_, _, by
    simp only [mksW]
    rw [if_pos (by omega)], ?_⟩
  simp only [Int.toNat_natCast]
  rw [hrep]
  generalize hv6 : Value.slice (some ⟨(h ++ [mrow m]).length, 0, none⟩) m.count m.count = v6
  have a6 : Acc 1 (h.length + 1) (h ++ [mrow m] ++ [AObj.row ((List.replicate m.count false).map fun x => Value.bool x) .exact]) v6 ((List.replicate m.count false).map fun x => Value.bool x) := by
    have h1 := Acc.made (sz := 1) (n := h.length + 1) (H := h ++ [mrow m]) (l := (List.replicate m.count false).map fun x => Value.bool x) bool_len (by simp)
    have h2 : ((List.replicate m.count false).map fun x => Value.bool x).flatMap cellsOf = (List.replicate m.count false).map fun x => Value.bool x := flat_one fun e he => by
      obtain ⟨n, _, rfl⟩ := List.mem_map.1 he; rfl
    rw [h2] at h1
    rw [← hv6]
    simpa using h1
  refine ⟨RefI1 h m l, l.length, gcL_same ⟨0, v6, [AObj.row ((List.replicate m.count false).map fun x => Value.bool x) .exact], List.replicate m.count false, rfl, rfl, rfl, by omega, a6, by simp, fun x hx => by simp [hx]⟩, ?_⟩
  rintro k x12 x13 x14 x15 H ⟨i, v, g, c, hv, rfl, hk, hi, ac, hcl, hm⟩
  simp only [List.cons.injEq, and_true] at hv
  obtain ⟨rfl, rfl, rfl, rfl⟩ := hv
  have hB : (h ++ [mrow m]).length = h.length + 1 := by simp
  have hrow : ∀ t, getRow (h ++ [mrow m] ++ t) h.length = some ([.int .i64 (m.count : Int), lit (m.eps.map encP), lit (m.arcs.map encA), .int .i64 m.start, .int .i64 m.stop], .exact) := fun t => by
    rw [List.append_assoc, row_app0]; rfl
  rw [lenS_lit, oW_some, n_lss, oW_some, bW_dec]
  simp only [List.length_map]
  constructor
  · intro hlt
    have hlt' : i < l.length := by omega
    have htk : l.take (i + 1) = l.take i ++ [l[i]] := by rw [List.take_add_one, List.getElem?_eq_getElem hlt']; rfl
    refine ix_ints hlt' ?_
    rw [n_geq, oW_some, bW_dec]
    have skip : ¬ inR m.count l[i] → oW (binN .add (.int .i64 (i : Int)) (.int .i64 1)) fun v31 => ∃ m10, m10 < k ∧ gcL h (RefI1 h m l m10) [ints l, .pointer (some ⟨h.length, 0, none⟩), x14, v31] (h ++ [mrow m] ++ g) := fun hn => by
      rw [n_add (by omega), oW_some]
      refine ⟨l.length - (i + 1), by omega, gcL_same ⟨i + 1, x14, g, c, by simp, rfl, rfl, by omega, ac, hcl, fun x hx => ?_⟩⟩
      rw [hm x hx, htk, List.mem_append]
      constructor
      · exact .inl
      · rintro (q | q)
        · exact q
        · simp at q; rw [← q] at hn; exact absurd ⟨by omega, by omega⟩ hn
    constructor
    · intro h0
      refine ix_ints hlt' ?_
      rw [ac.len, oW_some, n_lss, oW_some, bW_dec]
      simp only [List.length_map, hcl]
      constructor
      · intro h1
        refine ix_ints hlt' ?_
        have hcast : l[i] = ((l[i].toNat : Nat) : Int) := by omega
        generalize hq : l[i].toNat = q at hcast
        rw [hcast] at h1 htk ⊢
        refine ac.set hB (by omega) bool_len rfl rfl rfl (by simp; omega) fun g2 ac2 _ => ?_
        rw [n_add (by omega), oW_some]
        refine ⟨l.length - (i + 1), by omega, gcL_same ⟨i + 1, x14, g2, c.set q true, by simp, rfl, rfl, by omega, by rw [List.map_set]; exact ac2, by simp [hcl], fun x hx => ?_⟩⟩
        rw [getD_set (by omega), htk, List.mem_append, ← hm x hx]
        by_cases e : x = q
        · rw [if_pos e]; simp [e]
        · rw [if_neg e]; simp; intro e2; exact absurd (by omega) e
      · intro h1
        exact skip fun q => h1 (by unfold inR at q; omega)
    · intro h0
      exact skip fun q => h0 (by unfold inR at q; omega)
  · intro hge
    have hil : i = l.length := by omega
    subst hil
    rw [List.take_length] at hm
    refine ⟨RefI2 h m l, falses c + 1, gcL_same ⟨x14, g, c, true, rfl, rfl, by simp, ac, hcl, fun x hx q => (hm x hx).2 q, fun x hx q => .base ⟨(hm x hx).1 q, ⟨by omega, by omega⟩⟩, fun q => by cases q⟩, ?_⟩
    rintro k x42 x43 x44 H ⟨v2, g2, c2, more, hv, rfl, hk2, ac2, hcl2, b1, b2, b3⟩
    simp only [List.cons.injEq, and_true] at hv
    obtain ⟨rfl, rfl, rfl⟩ := hv
    rw [bW_bool]
    constructor
    · intro hmore
      subst hmore
      refine ⟨RefI3 h m l (falses c2), m.eps.length, gcL_same ⟨x43, g2, c2, false, 0, rfl, rfl, rfl, by omega, ac2, hcl2, b1, b2, fun _ => ⟨rfl, by simp⟩, fun q => by cases q⟩, ?_⟩
      rintro k3 x50 x51 x52 x53 H ⟨v3, g3, c3, more, j, hv, rfl, hk3, hj, ac3, hcl3, d1, d2, d3, d4⟩
      simp only [List.cons.injEq, and_true] at hv
      obtain ⟨rfl, rfl, rfl, rfl⟩ := hv
      rw [fa_ptr, oW_some, ldW_one, hrow]
      show oW (some (lit (m.eps.map encP))) _
      rw [oW_some, lenS_lit, oW_some, n_lss, oW_some, bW_dec]
      simp only [List.length_map]
      constructor
      · intro hlt
        have hlt' : j < m.eps.length := by omega
        have htk : m.eps.take (j + 1) = m.eps.take j ++ [m.eps[j]] := by rw [List.take_add_one, List.getElem?_eq_getElem hlt']; rfl
        have hpe : m.eps[j] ∈ m.eps := by simp
        have hp := hok _ hpe
        have ld : ∀ (K : Value → Prop), K (lit (m.eps.map encP)) → oW (faW 1 1 (.pointer (some ⟨h.length, 0, none⟩))) fun v59 => oW (ldW false 1 (h ++ [mrow m] ++ g3) v59) K := fun K hK => by
          rw [fa_ptr, oW_some, ldW_one, hrow]
          exact oW_some.2 hK
        refine ld _ ?_
        refine ix_lit hlt' rfl ?_
        generalize hpj : m.eps[j] = p at htk hpe hp
        unfold inR at hp
        have hp1 : p.1 = ((p.1.toNat : Nat) : Int) := by omega
        have hp2 : p.2 = ((p.2.toNat : Nat) : Int) := by omega
        rw [show iaA 2 1 (plit (cellsOf (encP p))) (.int .i64 0) = some (plit [.int .i64 p.1]) by simp [iaA, plitSub], oW_some, ld_plit1, oW_some]
        refine ld _ ?_
        refine ix_lit (f := encP) hlt' rfl ?_
        rw [hpj, show iaA 2 1 (plit (cellsOf (encP p))) (.int .i64 1) = some (plit [.int .i64 p.2]) by simp [iaA, plitSub], oW_some, ld_plit1, oW_some, hp1, hp2]
        have x1 : p.1.toNat < c3.length := by omega
        have x2 : p.2.toNat < c3.length := by omega
        have y1 : c3.getD p.1.toNat false = c3[p.1.toNat] := by simp [x1]
        have y2 : c3.getD p.2.toNat false = c3[p.2.toNat] := by simp [x2]
        have stay : (c3[p.1.toNat] = true → c3[p.2.toNat] = true) → oW (binN .add (.int .i64 (j : Int)) (.int .i64 1)) fun v77 => ∃ m48, m48 < k3 ∧ gcL h (RefI3 h m l (falses c2) m48) [.pointer (some ⟨h.length, 0, none⟩), x51, .bool more, v77] (h ++ [mrow m] ++ g3) := fun hs => by
          rw [n_add (by omega), oW_some]
          refine ⟨m.eps.length - (j + 1), by omega, gcL_same ⟨x51, g3, c3, more, j + 1, by simp, rfl, rfl, by omega, ac3, hcl3, d1, d2, fun q => ⟨(d3 q).1, fun p' hp' => ?_⟩, d4⟩⟩
          rw [htk] at hp'
          rcases List.mem_append.1 hp' with r | r
          · exact (d3 q).2 p' r
          · simp at r; subst r
            rw [y1, y2]; exact hs
        refine ac3.at_ (by omega) bool_len (by simp; exact x1) (fun q => by cases q) (fun _ => by simp) ?_
        simp only [List.getElem_map]
        rw [bW_bool]
        constructor
        · intro t1
          refine ac3.at_ (by omega) bool_len (by simp; exact x2) (fun q => by cases q) (fun _ => by simp) ?_
          simp only [List.getElem_map]
          rw [u_not, oW_some, bW_bool]
          constructor
          · intro t2
            have t2' : c3[p.2.toNat] = false := by simpa using t2
            refine ac3.set hB (by omega) bool_len rfl rfl rfl (by simp; exact x2) fun g4 ac4 _ => ?_
            rw [n_add (by omega), oW_some]
            have hlt4 := falses_set x2 (y2.trans t2')
            have hle : falses c3 ≤ falses c2 := by
              cases more with
              | true => have := d4 rfl; omega
              | false => have := (d3 rfl).1; omega
            refine ⟨m.eps.length - (j + 1), by omega, gcL_same ⟨x51, g4, c3.set p.2.toNat true, true, j + 1, by simp, rfl, rfl, by omega, by rw [List.map_set]; exact ac4, by simp [hcl3], fun x hx q => ?_, fun x hx q => ?_, (fun q => by cases q), fun _ => by omega⟩⟩
            · rw [getD_set x2]
              split
              · rfl
              · exact d1 x hx q
            · rw [getD_set x2] at q
              by_cases e : x = p.2.toNat
              · subst e
                rw [← hp2]
                refine .step (x := p.1) ?_ hpe
                have := d2 p.1.toNat (by omega) (y1.trans t1)
                rwa [← hp1] at this
              · rw [if_neg e] at q; exact d2 x hx q
          · intro t2
            have t2' : c3[p.2.toNat] = true := by simpa using t2
            exact stay fun _ => t2'
        · intro t1
          exact stay fun q => by rw [t1] at q; cases q
      · intro hge3
        have hje : j = m.eps.length := by omega
        subst hje
        rw [List.take_length] at d3
        cases more with
        | true =>
          have := d4 rfl
          exact ⟨falses c3 + 1, by simp at hk2; omega, gcL_same ⟨x51, g3, c3, true, rfl, rfl, by simp, ac3, hcl3, d1, d2, fun q => by cases q⟩⟩
        | false =>
          obtain ⟨e1, e2⟩ := d3 rfl
          exact ⟨falses c3, by simp at hk2; omega, gcL_same ⟨x51, g3, c3, false, rfl, rfl, by simp, ac3, hcl3, d1, d2, fun _ => e2⟩⟩
    · intro hno
      have hclosed := b3 hno
      obtain ⟨fr, r, g', f1, f2, f3, f4, f5⟩ := ac2.frz hB (by omega) bool_len bool_cl
      refine acall_frz f1 (args2 := [bools c2]) ⟨f2, trivial⟩ (rising_spec (by omega) ?_)
      have : marked c2 c2.length = m.clo l := rising_eq (marked_sorted _ _) (m.clo_sorted l) fun x => by
        rw [mem_marked, Mch.mem_clo, hcl2]
        constructor
        · rintro ⟨h1, h2⟩
          have h1' := h1
          unfold inR at h1
          have := b2 x.toNat (by omega) h2
          rw [show ((x.toNat : Nat) : Int) = x by omega] at this
          exact ⟨h1', this⟩
        · rintro ⟨h1, h2⟩
          refine ⟨h1, ?_⟩
          clear h1
          induction h2 with
          | base h0 =>
            obtain ⟨q1, q2⟩ := h0
            unfold inR at q2
            exact b1 _ (by omega) (by rw [show ((_ : Int).toNat : Int) = _ from Int.toNat_of_nonneg q2.1]; exact q1)
          | step _ e ih => exact hclosed _ e ih
      rw [this, List.append_assoc]
      exact gcV_end (.cl (Cl.lit' int_cl)) hq

end Go.Ax
