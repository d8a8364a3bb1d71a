/- The sets' laws: views, First, Row, Follow, and the reference's. -/
import Derived.Test.YthhknneomcleoaaU1
namespace Go.Ax
open Go Go.Proofs Go.RowKit Go.Maps

theorem wf_of_inI {x : Int} (h : inI x) : (Lit.int .i64 x).wf = true := by
  obtain ⟨h1, h2⟩ := h
  simp [Lit.wf, IntKind.min, IntKind.max, IntKind.signed, IntKind.bits]
  omega

/-- A set, as the library's contracts read it, has its keys. -/
theorem owns_keys {w : World} {b n : Nat} {D : DataW Unit} (h : w.ownsMap Try.prog 3 rTrue b n D) : ∃ (ents : Array MapEntry) (clock : Nat) (ks : List Int), w.heap[b]? = some (.map ents clock) ∧ MapKept.Stamped ents clock ∧
    ents.toList.map (·.key) = ks.map (Value.int .i64) ∧ (∀ e ∈ ents.toList, e.val = .bool true) ∧ ks.Nodup ∧ (∀ k ∈ ks, inI k) ∧ (∀ x, Maps.has D (.int .i64 x) = true ↔ x ∈ ks) ∧ Maps.size D = ks.length := by
  have K : Keyed Try.prog 3 := int_keyed Try.underlying3
  obtain ⟨es, clock, hb, F, hs, rfl⟩ := h
  have hrd : ∀ e ∈ es.toList, ∃ n, e.key = .int .i64 n ∧ e.val = .bool true ∧ (Lit.int .i64 n).wf = true ∧ WideElems.rg Try.prog 3 rTrue e = (.int .i64 n, .nil) := fun e he => by
    obtain ⟨y, hy⟩ := F.reads e he
    obtain ⟨n, h1, h2, h3⟩ := Maps.keyOf_int_inv Try.underlying3 (WideElems.rd_key hy)
    obtain ⟨z, hz, hz2⟩ := WideElems.rd_val hy
    obtain ⟨h4, h5⟩ := rTrue_inv hz
    refine ⟨n, h1, h4, h3, ?_⟩
    rw [WideElems.rg_of hy]
    cases y; simp at h2 hz2; rw [h2, hz2, h5]
  refine ⟨es, clock, es.toList.map fun e => match e.key with | .int _ n => n | _ => 0, hb, F.stamped, ?_, fun e he => (hrd e he).choose_spec.2.1, ?_, ?_, ?_, ?_⟩
  · rw [List.map_map]
    refine List.map_congr_left fun e he => ?_
    obtain ⟨n, h1, _⟩ := hrd e he
    simp [h1]
  · rw [List.Nodup, List.pairwise_map]
    have hp := ((MapKept.stamped_iff es clock).1 F.stamped).2.2
    refine hp.imp_of_mem fun {a b} ha hb hne e => hne ?_
    obtain ⟨n, h1, _⟩ := hrd a ha
    obtain ⟨m, h2, _⟩ := hrd b hb
    rw [h1, h2] at e ⊢
    simp at e
    rw [e]
  · intro k hk
    obtain ⟨e, he, rfl⟩ := List.mem_map.1 hk
    obtain ⟨n, h1, _, h3, _⟩ := hrd e he
    rw [h1]
    simp [Lit.wf, IntKind.min, IntKind.max, IntKind.signed, IntKind.bits] at h3
    simp; omega
  · intro x
    show List.any _ _ = true ↔ _
    rw [List.any_eq_true, List.mem_map]
    constructor
    · rintro ⟨p, hp, hk⟩
      obtain ⟨e, he, rfl⟩ := List.mem_map.1 (mem_sorted.1 hp)
      obtain ⟨n, h1, _, _, h4⟩ := hrd e he
      rw [h4] at hk
      have := WideAt.sameKey_eq hk
      simp at this
      exact ⟨e, he, by rw [h1]; exact this⟩
    · rintro ⟨e, he, rfl⟩
      obtain ⟨n, h1, _, _, h4⟩ := hrd e he
      refine ⟨_, mem_sorted.2 (List.mem_map.2 ⟨e, he, rfl⟩), ?_⟩
      rw [h4, h1]
      exact WideAt.sameKey_self trivial
  · show List.length _ = _
    rw [length_sorted, List.length_map, List.length_map]

/-- A set in memory, as the library's contracts want it. -/
theorem owns_set {w : World} {b : Nat} {ents : Array MapEntry} {clock : Nat} {ks : List Int} (hb : w.heap[b]? = some (.map ents clock)) (hs : MapKept.Stamped ents clock)
    (hk : ents.toList.map (·.key) = ks.map (Value.int .i64)) (hv : ∀ e ∈ ents.toList, e.val = .bool true) (hi : ∀ k ∈ ks, inI k) (hl : ks.length ≤ 1000000000000) :
    ∃ D : DataW Unit, w.ownsMap Try.prog 3 rTrue b ents.size D ∧ Maps.size D = ks.length ∧ ∀ x, Maps.has D (.int .i64 x) = true ↔ x ∈ ks := by
  have hlen : ents.size = ks.length := by
    have := congrArg List.length hk; simpa using this
  have hrd : ∀ x ∈ ents.toList, ∃ y, WideElems.rd (H := Unit) Try.prog 3 rTrue x = some y := fun x hx => by
    have : x.key ∈ ks.map (Value.int .i64) := by rw [← hk]; exact List.mem_map.2 ⟨x, hx, rfl⟩
    obtain ⟨n, hn, e⟩ := List.mem_map.1 this
    obtain ⟨key, val, born⟩ := x
    have hv' := hv _ hx
    simp at e hv'
    subst e hv'
    exact ⟨_, WideElems.rd_mk (Maps.keyOf_int_mk Try.underlying3 (wf_of_inI (hi n hn))) (yv := (.nil, [])) rfl⟩
  have how : w.ownsMap Try.prog 3 rTrue b ents.size (.map ((ents.toList.map (WideElems.rg Try.prog 3 rTrue)).foldr DataW.insert [])) := ⟨ents, clock, hb, ⟨by rw [hlen]; unfold maxLen; omega, hs, hrd⟩, Nat.le_refl _, rfl⟩
  refine ⟨_, how, ?_⟩
  obtain ⟨ents', clock', ks', q1, _, q3, _, _, _, q7, q8⟩ := owns_keys how
  rw [hb] at q1
  cases q1
  have : ks' = ks := by
    rw [hk] at q3
    have := List.map_inj_right (f := Value.int .i64) (fun a b h => by simpa using h) |>.1 q3
    exact this.symm
  subst this
  exact ⟨q8, q7⟩

section
variable {B : Fr} {w0 w w' : World} {ρ : Go.Ax.Ren} {H : Heap}
/-- A map turned, in a world that has grown. -/
theorem Sim.setTurn (s : Sim B w0 ρ H w) {i : Nat} {b : Bind} {es0 : List (Value × Value)} (hb : ρ i = some b) (hm : H[i]? = some (.map es0)) (ok : MapOk B ρ w b es0) (hg : w.grownBy w' (some b.block)) {ents : Array MapEntry} {clock : Nat} {ks : List Int}
    (h1 : w'.heap[b.block]? = some (.map ents clock)) (h2 : MapKept.Stamped ents clock) (h3 : ents.toList.map (·.key) = ks.map (Value.int .i64)) (h4 : ∀ e ∈ ents.toList, e.val = .bool true) : Sim B w0 ρ (H.set i (.map (encE (setE ks)))) w' := by
  obtain ⟨ents0, clock0, l1, l2, l3⟩ := ok.lies
  have hlt : b.block < w.heap.size := (s.dom _ _ hb).2.1
  have hlt' : b.block < w'.heap.size := Nat.lt_of_lt_of_le hlt hg.size
  have hkept : Kept ⟨w.heap.size, fun _ => False⟩ w { w' with heap := w'.heap.setIfInBounds b.block (.map ents0 clock0) } := by
    refine ⟨hg.os, hg.tape, hg.output, by simp; exact hg.size, fun k hk => ?_⟩
    have hk' : k < w.heap.size := hk.elim id fun q => q.elim
    by_cases e : k = b.block
    · subst e; simp [hlt', l1]
    · show (w'.heap.setIfInBounds b.block (.map ents0 clock0))[k]? = _
      rw [Array.getElem?_setIfInBounds_ne (Ne.symm e)]
      exact hg.block k hk' fun q => e (by cases q; rfl)
  have sm := s.moved hkept
  have hn : ¬ isRo H i := fun ⟨c', hc'⟩ => by rw [hm] at hc'; cases hc'
  refine sm.turn i b _ hb ⟨_, hm, by simp⟩ hn ok.own (by simp) rfl rfl rfl (fun k hk => by simp [Array.getElem?_setIfInBounds_ne (Ne.symm hk)]) (fun c e => by cases e) (fun c m e => by cases e) (fun es e => ?_)
  cases e
  have hsz : ents.size = ks.length := by have := congrArg List.length h3; simpa using this
  refine ⟨ok.own, ⟨ents, clock, h1, by simp [hsz], fun k x hx => ?_⟩, fun en cl q => by rw [h1] at q; cases q; exact h2⟩
  have hk : k < ks.length := by have := (List.getElem?_eq_some_iff.1 hx).1; simpa using this
  have hx' : x = (.int .i64 ks[k], .bool true) := by
    simp [hk] at hx; exact hx.symm
  subst hx'
  have he : k < ents.size := by omega
  refine ⟨ents[k], by simp [he], ?_, rfl, ?_⟩
  · have := congrArg (fun l => l[k]?) h3
    simp [he, hk] at this
    exact this
  · have := h4 ents[k] (by simp)
    rw [this]; exact .bool _
end

theorem heap_same {H : Heap} {i : Nat} {o : AObj} (h : H[i]? = some o) : H.set i o = H := by
  apply List.ext_getElem?
  intro k
  by_cases e : i = k
  · subst e
    rw [List.getElem?_set_self (List.getElem?_eq_some_iff.1 h).1, h]
  · rw [List.getElem?_set_ne e]

/-- maps.Copy of sets. -/
theorem copy_spec {H : Heap} {i j : Nat} {s t : List Int} (hi : getMap H i = some (encE (setE s))) (hj : getMap H j = some (encE (setE t))) (is : ∀ k ∈ s, inI k) (it : ∀ k ∈ t, inI k) (ls : s.length ≤ 1000000000000) (lt : t.length ≤ 1000000000000)
    (hsn : s.Nodup) {Q : Value → Heap → Prop} (hq : ∀ s' : List Int, s'.Nodup → (∀ x, x ∈ s' ↔ x ∈ s ∨ x ∈ t) → Q (.tuple #[]) (H.set i (.map (encE (setE s'))))) :
    acall Try.prog F_maps_Copy_sets_set_sets_set_int_bool [.map (some i), .map (some j)] H Q := by
  refine ⟨⟨_, Try.func117, rfl, rfl⟩, fun B w0 ρ w args' sm hr => ?_⟩
  obtain ⟨hlen, hrel⟩ := hr
  have ha : ∃ u v, args' = #[u, v] := by
    obtain ⟨l⟩ := args'
    match l, hlen with
    | [u, v], _ => exact ⟨u, v, rfl⟩
  obtain ⟨u, v, rfl⟩ := ha
  have r0 := hrel 0 _ u rfl rfl
  have r1 := hrel 1 _ v rfl rfl
  cases r0 with
  | map _ b hb =>
  cases r1 with
  | map _ c hc =>
  have read : ∀ {i : Nat} {b : Bind} {s : List Int}, getMap H i = some (encE (setE s)) → ρ i = some b → (∀ k ∈ s, inI k) → s.length ≤ 1000000000000 → MapOk B ρ w b (encE (setE s)) ∧ ∃ D : DataW Unit, ∃ n, w.ownsMap Try.prog 3 rTrue b.block n D ∧ n = s.length ∧ Maps.size D = s.length ∧ ∀ x, Maps.has D (.int .i64 x) = true ↔ x ∈ s := fun {i b s} hi hb is ls => by
    obtain ⟨b', hb', ok⟩ := sm.map _ _ (getMap_eq hi)
    rw [hb] at hb'; cases hb'
    refine ⟨ok, ?_⟩
    obtain ⟨ents, clock, l1, l2, l3⟩ := ok.lies
    have hsz : ents.size = s.length := by simpa using l2
    have ent : ∀ k (p : k < s.length) (q : k < ents.size), ents[k].key = .int .i64 s[k] ∧ ents[k].val = .bool true := fun k p q => by
      obtain ⟨e, he, h1, _, h2⟩ := l3 k (.int .i64 s[k], .bool true) (by simp [p])
      rw [Array.getElem?_eq_getElem q] at he
      cases he
      refine ⟨h1, ?_⟩
      generalize ents[k].val = y at h2 ⊢
      cases h2; rfl
    have hk : ents.toList.map (·.key) = s.map (Value.int .i64) := by
      apply List.ext_getElem (by simp [hsz])
      intro k p q
      simp at p q
      simp [(ent k q (by omega)).1]
    have hv : ∀ e ∈ ents.toList, e.val = .bool true := fun e he => by
      obtain ⟨k, p, rfl⟩ := List.mem_iff_getElem.1 he
      simp at p
      simpa using (ent k (by omega) p).2
    obtain ⟨D, q1, q2, q3⟩ := owns_set l1 (ok.stamp _ _ l1) hk hv is ls
    exact ⟨D, _, q1, hsz, q2, q3⟩
  obtain ⟨ok1, D1, n1, o1, e1, z1, m1⟩ := read hi hb is ls
  obtain ⟨ok2, D2, n2, o2, e2, z2, m2⟩ := read hj hc it lt
  have K : Keyed Try.prog 3 := int_keyed Try.underlying3
  by_cases hij : i = j
  · subst hij
    rw [hb] at hc; cases hc
    rw [hi] at hj
    have hst : s = t := by
      have h0 := Option.some.inj hj
      have : (encE (setE s)).map (fun p => match p.1 with | .int _ n => n | _ => (0 : Int)) = (encE (setE t)).map (fun p => match p.1 with | .int _ n => n | _ => (0 : Int)) := by rw [h0]
      simpa [encE, setE, List.map_map, Function.comp_def] using this
    subst hst
    have := copy_self Try.copyA K b.block n1 D1 w o1
    refine this.mono ?_
    rintro e w' ⟨rfl, hg⟩
    have hkept : Kept ⟨w.heap.size, fun _ => False⟩ w w' := ⟨hg.os, hg.tape, hg.output, hg.size, fun k hk => hg.block k (hk.elim id fun q => q.elim) (by simp)⟩
    refine ⟨ρ, _, _, H, .refl _, rfl, Rel.undef ρ, sm.moved hkept, ?_⟩
    have := hq s hsn fun x => by simp
    rwa [heap_same (getMap_eq hi)] at this
  · have hne : b.block ≠ c.block := fun e => by
      obtain ⟨⟨x, hx⟩, _⟩ := sm.inj i j b c hij hb hc e ⟨_, getMap_eq hi, by simp⟩ ⟨_, getMap_eq hj, by simp⟩
      rw [getMap_eq hi] at hx; cases hx
    have := AnyX.maps_Copy Try.copyA K rTrue b.block c.block n1 n2 D1 D2 w o1 o2 hne (by rw [e1, z2]; unfold maxLen; omega)
    refine this.mono ?_
    rintro e w' ⟨rfl, ow, _, hg⟩
    obtain ⟨ents, clock, ks, q1, q2, q3, q4, q5, q6, q7, _⟩ := owns_keys ow
    refine ⟨ρ, _, _, _, .refl _, rfl, Rel.undef ρ, sm.setTurn hb (getMap_eq hi) ok1 hg q1 q2 q3 q4, hq ks q5 fun x => ?_⟩
    rw [← q7, ← m1, ← m2]
    obtain ⟨es1, hd1, _, k1⟩ := World.ownsMap.entries o1 K
    obtain ⟨es2, hd2, _, k2⟩ := World.ownsMap.entries o2 K
    subst hd1 hd2
    show Maps.has (es2.foldl (fun D p => D.put p.1 p.2) (.map es1)) _ = true ↔ _
    rw [has_foldPut _ _ _ ⟨_, rfl⟩ k2, Bool.or_eq_true]; rfl

theorem lenM_set {H : Heap} {i : Nat} {s : List Int} (h : getMap H i = some (encE (setE s))) : lenM H (.map (some i)) = some (.int .i64 (s.length : Int)) := by
  simp only [lenM, h]; simp

theorem add_spec {H : Heap} {i j : Nat} {s t : List Int} (hi : getMap H i = some (encE (setE s))) (hj : getMap H j = some (encE (setE t))) (is : ∀ k ∈ s, inI k) (it : ∀ k ∈ t, inI k) (ls : s.length ≤ 1000000000000) (lt : t.length ≤ 1000000000000)
    (hsn : s.Nodup) {Q : Value → Heap → Prop} (hq : ∀ s' : List Int, s'.Nodup → (∀ x, x ∈ s' ↔ x ∈ s ∨ x ∈ t) → Q (.bool (decide (s.length < s'.length))) (H.set i (.map (encE (setE s'))))) :
    acall Try.prog F_sets_set_add [.map (some i), .map (some j)] H Q := by
  apply W_sets_set_add_ok
  unfold W_sets_set_add
  rw [lenM_set hi, oW_some]
  refine callW_plain.2 (copy_spec hi hj is it ls lt hsn fun s' h1 h2 => ?_)
  have hg : getMap (H.set i (.map (encE (setE s')))) i = some (encE (setE s')) := getMap_set hi _
  rw [lenM_set hg, oW_some, n_gtr, oW_some]
  have : decide ((s.length : Int) < (s'.length : Int)) = decide (s.length < s'.length) := by rw [decide_eq_decide]; omega
  rw [this]
  exact gcV_same (hq s' h1 h2)

end Go.Ax

namespace Go.Ax
open Go Go.Proofs Go.RowKit

/-- sets.until: a step from a state comes to one that is lower, or the same one, which it then keeps. -/
theorem untilR_spec {σ : Type} {rows : List (List Int)} {f : Value} (Inv : σ → Nat → Heap → Prop) (Stab : σ → List Int → Prop) (hl : rows.length ≤ 9223372036854775807) {s0 : σ} {m0 : Nat} {h : Heap} (h0 : Inv s0 m0 h)
    (hf : ∀ s m H r, r ∈ rows → Inv s m H → ∀ K : Value → Heap → Prop, (∀ (b : Bool) s' m' H', Inv s' m' H' → (b = true → m' < m) → (b = false → s' = s ∧ m' = m ∧ Stab s r) → K (.bool b) H') → callW Try.prog f [ints r] H K)
    {Q : Value → Heap → Prop} (hq : ∀ s m H, Inv s m H → (∀ r ∈ rows, Stab s r) → Q (.tuple #[]) H) : acall Try.prog F_sets_until_int [lit (rows.map ints), f] h Q := by
  apply W_sets_until_int_ok
  unfold W_sets_until_int
  refine ⟨fun k vs H => ∃ (s : σ) (m : Nat) (more : Bool), vs = [lit (rows.map ints), f, .bool more] ∧ Inv s m H ∧ k = m + (if more = true then 1 else 0) ∧ (more = false → ∀ r ∈ rows, Stab s r), m0 + 1, gcL_same ⟨s0, m0, true, rfl, h0, by simp, (fun q => by cases q)⟩, ?_⟩
  rintro k x5 x6 x7 h8 ⟨s, m, more, hv, hI, hk, hd⟩
  simp only [List.cons.injEq, and_true] at hv
  obtain ⟨rfl, rfl, rfl⟩ := hv
  rw [bW_bool]
  refine ⟨fun hm => ?_, fun hm => gcV_same (hq s m h8 hI (hd hm))⟩
  subst hm
  rw [lenR, oW_some]
  refine ⟨fun k vs H => ∃ (s1 : σ) (m1 : Nat) (mo : Bool) (i : Nat), vs = [lit (rows.map ints), x6, .bool mo, lit (rows.map ints), .int .i64 (rows.length : Int), .int .i64 (i : Int)] ∧ Inv s1 m1 H ∧ k = rows.length - i ∧ i ≤ rows.length ∧
    (mo = true → m1 < m) ∧ (mo = false → s1 = s ∧ m1 = m ∧ ∀ r ∈ rows.take i, Stab s1 r), rows.length, gcL_same ⟨s, m, false, 0, rfl, hI, by omega, by omega, (fun q => by cases q), fun _ => ⟨rfl, rfl, by simp⟩⟩, ?_⟩
  rintro k2 x14 x15 x16 x17 x18 x19 h20 ⟨s1, m1, mo, i, hv, hI1, hk2, hi, t1, t2⟩
  simp only [List.cons.injEq, and_true] at hv
  obtain ⟨rfl, rfl, rfl, rfl, rfl, rfl⟩ := hv
  rw [n_lss, oW_some, bW_dec]
  constructor
  · intro hlt
    have hlt' : i < rows.length := by omega
    refine ix_rules hlt' (hf s1 m1 h20 _ (List.getElem_mem hlt') hI1 _ fun b s' m' H' hI2 b1 b2 => ?_)
    rw [bW_bool]
    constructor
    · intro hb
      rw [n_add (by omega), oW_some]
      refine ⟨rows.length - (i + 1), by omega, gcL_same ⟨s', m', true, i + 1, by simp, hI2, rfl, by omega, fun _ => ?_, (fun q => by cases q)⟩⟩
      have := b1 hb
      cases mo with
      | true => have := t1 rfl; omega
      | false => have := (t2 rfl).2.1; omega
    · intro hb
      obtain ⟨rfl, rfl, st⟩ := b2 hb
      rw [n_add (by omega), oW_some]
      refine ⟨rows.length - (i + 1), by omega, gcL_same ⟨s', m', mo, i + 1, by simp, hI2, rfl, by omega, t1, fun q => ⟨(t2 q).1, (t2 q).2.1, fun r hr => ?_⟩⟩⟩
      rw [take_succ' hlt'] at hr
      rcases List.mem_append.1 hr with z | z
      · exact (t2 q).2.2 r z
      · simp at z; subst z; exact st
  · intro hge
    have hil : i = rows.length := by omega
    subst hil
    rw [List.take_length] at t2
    cases mo with
    | true => have := t1 rfl; exact ⟨m1 + 1, by simp at hk; omega, gcL_same ⟨s1, m1, true, rfl, hI1, by simp, (fun q => by cases q)⟩⟩
    | false =>
      obtain ⟨rfl, rfl, t3⟩ := t2 rfl
      exact ⟨m1, by simp at hk; omega, gcL_same ⟨s1, m1, false, rfl, hI1, by simp, fun _ => t3⟩⟩

/-- A row of sets in memory. -/
structure SetsAt (n0 : Nat) (H : Heap) (fv : Value) (ms : List Nat) (ss : List (List Int)) : Prop where
  acc : Acc 1 n0 H fv (ms.map fun j => .map (some j))
  len : ms.length = ss.length
  nd : ms.Nodup
  ge : ∀ j ∈ ms, n0 ≤ j
  mp : ∀ i (p : i < ms.length) (q : i < ss.length), getMap H ms[i] = some (encE (setE ss[i]))
  sn : ∀ s ∈ ss, s.Nodup

theorem map_len {l : List Nat} : ∀ x ∈ l.map (fun j => Value.map (some j)), (cellsOf x).length = 1 := fun x hx => by
  obtain ⟨n, _, rfl⟩ := List.mem_map.1 hx; rfl
theorem not_lies {n0 : Nat} {H : Heap} {fv : Value} {l : List Value} (a : Acc 1 n0 H fv l) {j : Nat} {es : List (Value × Value)} (h : getMap H j = some es) : ¬ lies fv j := fun ⟨o, x, y, e⟩ => by
  rcases a with ⟨rfl, _⟩ | ⟨q, cap, c, m, h1, rfl, h3, _⟩
  · cases e
  · cases e
    have := getRow_eq h3
    rw [getMap_eq h] at this; cases this
theorem SetsAt.app {n0 : Nat} {H t : Heap} {fv : Value} {ms : List Nat} {ss : List (List Int)} (a : SetsAt n0 H fv ms ss) : SetsAt n0 (H ++ t) fv ms ss :=
  ⟨a.acc.app, a.len, a.nd, a.ge, fun i p q => getMap_app (a.mp i p q), a.sn⟩
theorem SetsAt.congr {n0 : Nat} {H H' : Heap} {fv : Value} {ms : List Nat} {ss : List (List Int)} (a : SetsAt n0 H fv ms ss) (e : ∀ j, n0 ≤ j → j < H.length → H'[j]? = H[j]?) : SetsAt n0 H' fv ms ss :=
  ⟨a.acc.congr fun j hj => e j (a.acc.ge hj) (a.acc.lt hj), a.len, a.nd, a.ge, fun i p q => by
    have h := a.mp i p q
    rw [getMap_same (e _ (a.ge _ (List.getElem_mem p)) (getMap_lt h))]; exact h, a.sn⟩
theorem SetsAt.low {n0 n1 : Nat} {H : Heap} {fv : Value} {ms : List Nat} {ss : List (List Int)} (a : SetsAt n0 H fv ms ss) (h : n1 ≤ n0) : SetsAt n1 H fv ms ss :=
  ⟨a.acc.low h, a.len, a.nd, fun j hj => Nat.le_trans h (a.ge j hj), a.mp, a.sn⟩
/-- One of the sets turned. -/
theorem SetsAt.turn {n0 : Nat} {H : Heap} {fv : Value} {ms : List Nat} {ss : List (List Int)} (a : SetsAt n0 H fv ms ss) {i : Nat} (p : i < ms.length) {s' : List Int} (hs : s'.Nodup) : SetsAt n0 (H.set ms[i] (.map (encE (setE s')))) fv ms (ss.set i s') := by
  have q : i < ss.length := by rw [← a.len]; exact p
  have hg := a.mp i p q
  refine ⟨a.acc.congr fun j hj => ?_, by simp [a.len], a.nd, a.ge, fun k pk qk => ?_, fun s h => ?_⟩
  · rw [List.getElem?_set_ne fun e => not_lies a.acc hg (by rw [e]; exact hj)]
  · by_cases e : k = i
    · subst e
      rw [List.getElem_set_self, getMap_set hg]
    · have qk' : k < ss.length := by simpa using qk
      rw [List.getElem_set_ne (Ne.symm e), getMap_same (List.getElem?_set_ne fun z => e ((List.getElem_inj a.nd).1 z).symm)]
      exact a.mp k pk qk'
  · rcases List.mem_or_eq_of_mem_set h with h | rfl
    · exact a.sn s h
    · exact hs
/-- A set is loaded. -/
theorem SetsAt.get {n0 : Nat} {H : Heap} {fv : Value} {ms : List Nat} {ss : List (List Int)} (a : SetsAt n0 H fv ms ss) {x : Int} (hx : inR ms.length x) {K : Value → Value → Prop} (k : ∀ q o, lies fv q → K (.pointer (some ⟨q, o, none⟩)) (.map (some (ms[x.toNat]'(by unfold inR at hx; omega))))) :
    oW (iaS 1 fv (.int .i64 x)) fun v => oW (ldW false 1 H v) fun w => K v w := by
  unfold inR at hx
  have hl : x.toNat < ms.length := by omega
  rcases a.acc with ⟨rfl, e⟩ | ⟨q, cap, c, m, h1, rfl, h3, h4, h5, h6, h7⟩
  · have := congrArg List.length e; simp at this; subst this; simp at hl
  · rw [iaS_slice' hx.1 (by simpa using hx.2), oW_some]
    refine ⟨.map (some ms[x.toNat]), ?_, k q _ ⟨0, _, _, rfl⟩⟩
    rw [ldW_one, h3, Option.bind_some]
    have hfl : (ms.map fun j => Value.map (some j)).flatMap cellsOf = ms.map fun j => Value.map (some j) := flat_one fun e he => by obtain ⟨n, _, rfl⟩ := List.mem_map.1 he; rfl
    rw [hfl] at h7
    simp only [List.length_map, Nat.mul_one] at h7
    have := get_take h7 hl
    rw [Nat.zero_add, Nat.mul_one, this]
    simp [hl]

/-- What a row begins with, of sets and marks. -/
def rowFS (n : Nat) (S : Nat → Int → Prop) (nl : List Bool) : List Int → Int → Prop
  | [], _ => False
  | x :: l, t => inR n x ∧ (S x.toNat t ∨ onL nl x.toNat ∧ rowFS n S nl l t)
def rowES (n : Nat) (nl : List Bool) (l : List Int) : Prop := ∀ x ∈ l, inR n x ∧ onL nl x.toNat
instance (n : Nat) (nl : List Bool) (l : List Int) : Decidable (rowES n nl l) := by unfold rowES; infer_instance
/-- The set at a place. -/
def atS (ss : List (List Int)) (i : Nat) (t : Int) : Prop := t ∈ ss.getD i []
theorem atS_iff {ss : List (List Int)} {i : Nat} (h : i < ss.length) {t : Int} : atS ss i t ↔ t ∈ ss[i] := by unfold atS; simp [h]

abbrev viewC (g : Gr) (nl : List Bool) (fv : Value) : List Value := g.cells ++ [bools nl, fv]
abbrev viewV (g : Gr) (nl : List Bool) (fv : Value) : Value := .agg (viewC g nl fv).toArray
abbrev vrow (g : Gr) (nl : List Bool) (fv : Value) : AObj := .row (viewC g nl fv) .exact
theorem box_view {h : Heap} {g : Gr} {nl : List Bool} {fv : Value} : boxA h (viewV g nl fv) = some (.pointer (some ⟨h.length, 0, none⟩), h ++ [vrow g nl fv]) := by rw [box_agg]
/-- A view lies at a place. -/
def VAt (H : Heap) (p : Nat) (g : Gr) (nl : List Bool) (fv : Value) : Prop := ∃ m, getRow H p = some (viewC g nl fv, m)
theorem VAt.app {H t : Heap} {p : Nat} {g : Gr} {nl : List Bool} {fv : Value} (a : VAt H p g nl fv) : VAt (H ++ t) p g nl fv := let ⟨m, e⟩ := a; ⟨m, getRow_app e⟩
section
variable {H : Heap} {p : Nat} {g : Gr} {nl : List Bool} {fv : Value} (a : VAt H p g nl fv)
include a
theorem VAt.null {K : Value → Prop} (k : K (bools nl)) : oW (faW 5 1 (.pointer (some ⟨p, 0, none⟩))) fun v => oW (ldW false 1 H v) K := by
  obtain ⟨m, e⟩ := a; rw [fa_ptr, oW_some, ldW_one, e]; exact oW_some.2 k
theorem VAt.first {K : Value → Value → Prop} (k : K (.pointer (some ⟨p, 6, none⟩)) fv) : oW (faW 6 1 (.pointer (some ⟨p, 0, none⟩))) fun v => oW (ldW false 1 H v) fun w => K v w := by
  obtain ⟨m, e⟩ := a
  refine ⟨_, fa_ptr, _, by rw [ldW_one, e]; rfl, k⟩
theorem VAt.names {K : Value → Prop} (k : K (lit (g.names.map .string))) : oW (faW 0 5 (.pointer (some ⟨p, 0, none⟩))) fun v => oW (faW 0 1 v) fun v => oW (ldW false 1 H v) K := by
  obtain ⟨m, e⟩ := a; rw [fa_ptr, oW_some, fa_ptr, oW_some, ldW_one, e]; exact oW_some.2 k
theorem VAt.ld : ldW true 7 H (.pointer (some ⟨p, 0, none⟩)) = some (viewV g nl fv) := by
  obtain ⟨m, e⟩ := a; rw [ldW_agg, e]; rfl
end

/-- All sets are of numbers up to n. -/
def InN (n : Nat) (ss : List (List Int)) : Prop := ∀ s ∈ ss, ∀ x ∈ s, 0 ≤ x ∧ x ≤ n
theorem nodupN_le {n : Nat} {s : List Int} (hs : s.Nodup) (hb : ∀ x ∈ s, 0 ≤ x ∧ x ≤ n) : s.length ≤ n + 1 := by
  have := nodup_sub_len (R := (List.range (n + 1)).map fun (i : Nat) => (i : Int)) hs fun x hx => by
    have := hb x hx
    exact List.mem_map.2 ⟨x.toNat, List.mem_range.2 (by omega), by omega⟩
  simpa using this

theorem ix_bool {l : List Bool} {x : Int} {n : Nat} (hl : l.length = n) (hx : inR n x) {h : Heap} {K : Value → Prop} (k : K (.bool (decide (onL l x.toNat)))) : oW (iaS 1 (bools l) (.int .i64 x)) fun v => oW (ldW false 1 h v) K := by
  unfold inR at hx
  have hlt : x.toNat < l.length := by omega
  rw [show x = ((x.toNat : Nat) : Int) by omega]
  refine ix_lit (f := Value.bool) hlt rfl ?_
  rw [cellsOf_bool, ld_plit1, oW_some]
  have : decide (onL l x.toNat) = l[x.toNat] := by rw [Bool.eq_iff_iff, decide_eq_true_eq, on_iff hlt]
  rwa [this] at k

def VrI (h : Heap) (g : Gr) (nl : List Bool) (fv : Value) (ss : List (List Int)) (l : List Int) (k : Nat) (vs : List Value) (H : Heap) : Prop :=
  ∃ (i : Nat) (s : List Int), vs = [.pointer (some ⟨h.length, 0, none⟩), .map (some (h.length + 1)), ints l, .int .i64 (l.length : Int), .int .i64 (i : Int)] ∧ H = h ++ [vrow g nl fv, .map (encE (setE s))] ∧ k = l.length - i ∧ i ≤ l.length ∧
    s.Nodup ∧ rowES g.n nl (l.take i) ∧ (∀ t, t ∈ s → 0 ≤ t ∧ t ≤ g.n) ∧ ∀ t, rowFS g.n (atS ss) nl l t ↔ t ∈ s ∨ rowFS g.n (atS ss) nl (l.drop i) t

theorem vrow_spec {n0 : Nat} {h : Heap} {g : Gr} (hn : g.n ≤ 128) {nl : List Bool} {fv : Value} {ms : List Nat} {ss : List (List Int)} (a : SetsAt n0 h fv ms ss) (hnl : nl.length = g.n) (hss : ss.length = g.n) (hb : InN g.n ss) {l : List Int} (hl : l.length ≤ 1000000000) {Q : Value → Heap → Prop}
    (hq : ∀ s : List Int, s.Nodup → (∀ t, t ∈ s → 0 ≤ t ∧ t ≤ g.n) → (∀ t, t ∈ s ↔ rowFS g.n (atS ss) nl l t) → Q (.tuple #[.map (some (h.length + 1)), .bool (decide (rowES g.n nl l))]) (h ++ [vrow g nl fv, .map (encE (setE s))])) :
    acall Try.prog F_sets_view_row [viewV g nl fv, ints l] h Q := by
  have hms : ms.length = g.n := by rw [a.len, hss]
  apply W_sets_view_row_ok
  unfold W_sets_view_row
  rw [box_view, hW_some, letH_eq, lenI, oW_some]
  have L1 : (h ++ [vrow g nl fv]).length = h.length + 1 := by simp
  have E1 : ∀ o : AObj, h ++ [vrow g nl fv] ++ [o] = h ++ [vrow g nl fv, o] := fun o => by simp
  rw [L1, E1]
  refine ⟨VrI h g nl fv ss l, l.length, gcL_same ⟨0, [], rfl, rfl, by omega, by omega, .nil, by simp [rowES], by simp, by simp⟩, ?_⟩
  rintro k x9 x10 x11 x12 x13 h14 ⟨i, s, hv, rfl, hk, hi, hs, he, hsb, hsem⟩
  simp only [List.cons.injEq, and_true] at hv
  obtain ⟨rfl, rfl, rfl, rfl, rfl⟩ := hv
  have va : VAt (h ++ [vrow g nl fv, .map (encE (setE s))]) h.length g nl fv := ⟨.exact, by rw [row_app0]; rfl⟩
  have gm : getMap (h ++ [vrow g nl fv, .map (encE (setE s))]) (h.length + 1) = some (encE (setE s)) := by rw [map_app]; rfl
  have a' : SetsAt n0 (h ++ [vrow g nl fv, .map (encE (setE s))]) fv ms ss := a.app
  rw [n_lss, oW_some, bW_dec]
  constructor
  · intro hlt
    have hlt' : i < l.length := by omega
    have hdrop : l.drop i = l[i] :: l.drop (i + 1) := (List.getElem_cons_drop (h := hlt')).symm
    rw [hdrop] at hsem
    generalize hx : l[i] = x at hsem
    have stop : ¬ inR g.n x → gcV h Q (.tuple #[.map (some (h.length + 1)), .bool false]) (h ++ [vrow g nl fv, .map (encE (setE s))]) := fun hno => by
      have := hq s hs hsb fun t => by rw [hsem t]; simp only [rowFS, hno, false_and, or_false]
      rw [decide_eq_false (fun z => hno (z x (by rw [← hx]; exact List.getElem_mem _)).1)] at this
      exact gcV_same this
    have go : inR g.n x → ∀ (K : Value → Heap → Prop), (∀ s' : List Int, s'.Nodup → (∀ t, t ∈ s' ↔ t ∈ s ∨ atS ss x.toNat t) → (∀ t, t ∈ s' → 0 ≤ t ∧ t ≤ g.n) → ∀ b, K b (h ++ [vrow g nl fv, .map (encE (setE s'))])) →
        oW (faW 6 1 (.pointer (some ⟨h.length, 0, none⟩))) fun v19 => oW (ldW false 1 (h ++ [vrow g nl fv, .map (encE (setE s))]) v19) fun v20 => oW (iaS 1 v20 (.int .i64 x)) fun v21 => oW (ldW false 1 (h ++ [vrow g nl fv, .map (encE (setE s))]) v21) fun v22 =>
          callW Try.prog (fn F_sets_set_add) [.map (some (h.length + 1)), v22] (h ++ [vrow g nl fv, .map (encE (setE s))]) K := fun hin K hK => by
      have hxl : x.toNat < ss.length := by unfold inR at hin; omega
      have hxm : x.toNat < ms.length := by omega
      have hb2 := hb _ (List.getElem_mem hxl)
      refine va.first (a'.get (by rw [hms]; exact hin) fun q o _ => callW_plain.2 (add_spec gm (a'.mp _ hxm hxl) (fun t ht => by have := hsb t ht; omega) (fun t ht => by have := hb2 t ht; omega) (by have := nodupN_le hs hsb; omega) (by have := nodupN_le (a.sn _ (List.getElem_mem hxl)) hb2; omega) hs fun s' h1 h2 => ?_))
      rw [set_app]
      refine hK s' h1 (fun t => by rw [h2, atS_iff hxl]) (fun t ht => ?_) _
      rcases (h2 t).1 ht with z | z
      · exact hsb t z
      · exact hb2 t z
    have fin : inR g.n x → ∀ s' : List Int, s'.Nodup → (∀ t, t ∈ s' ↔ t ∈ s ∨ atS ss x.toNat t) → (∀ t, t ∈ s' → 0 ≤ t ∧ t ≤ g.n) →
        oW (faW 5 1 (.pointer (some ⟨h.length, 0, none⟩))) fun v25 => oW (ldW false 1 (h ++ [vrow g nl fv, .map (encE (setE s'))]) v25) fun v26 => oW (iaS 1 v26 (.int .i64 x)) fun v27 => oW (ldW false 1 (h ++ [vrow g nl fv, .map (encE (setE s'))]) v27) fun v28 =>
          oW (unA .not v28) fun v29 => bW v29 (gcV h Q (.tuple #[.map (some (h.length + 1)), .bool false]) (h ++ [vrow g nl fv, .map (encE (setE s'))]))
            (oW (binN .add (.int .i64 (i : Int)) (.int .i64 1)) fun v30 => ∃ m7, m7 < k ∧ gcL h (VrI h g nl fv ss l m7) [.pointer (some ⟨h.length, 0, none⟩), .map (some (h.length + 1)), ints l, .int .i64 (l.length : Int), v30] (h ++ [vrow g nl fv, .map (encE (setE s'))])) := fun hin s' h1 h2 h3 => by
      have va' : VAt (h ++ [vrow g nl fv, .map (encE (setE s'))]) h.length g nl fv := ⟨.exact, by rw [row_app0]; rfl⟩
      refine va'.null (ix_bool hnl hin ?_)
      rw [u_not, oW_some, bW_bool]
      constructor
      · intro z
        have hoff : ¬ onL nl x.toNat := by simpa using z
        have := hq s' h1 h3 fun t => by rw [hsem t, h2]; simp only [rowFS, hin, true_and, hoff, false_and, or_false]
        rw [decide_eq_false (fun z => hoff (z x (by rw [← hx]; exact List.getElem_mem _)).2)] at this
        exact gcV_same this
      · intro z
        have hon : onL nl x.toNat := by simpa using z
        rw [n_add (by omega), oW_some]
        refine ⟨l.length - (i + 1), by omega, gcL_same ⟨i + 1, s', by simp, rfl, rfl, by omega, h1, fun y hy => ?_, h3, fun t => ?_⟩⟩
        · rw [take_succ' hlt', hx] at hy
          rcases List.mem_append.1 hy with w | w
          · exact he y w
          · simp at w; subst w; exact ⟨hin, hon⟩
        · rw [hsem t, h2]; simp only [rowFS, hin, true_and, hon]
          exact or_assoc.symm
    refine ix_ints hlt' ?_
    rw [hx, n_lss, oW_some, bW_dec]
    constructor
    · intro hneg
      rw [bW_true]
      exact stop (fun z => by unfold inR at z; omega)
    · intro hpos
      refine va.names ?_
      rw [lenN, oW_some, n_geq, oW_some, bW_dec]
      constructor
      · intro hge
        exact stop (fun z => by unfold inR Gr.n at z; omega)
      · intro hlt2
        have hin : inR g.n x := by unfold inR Gr.n; omega
        exact go hin _ fun s' h1 h2 h3 b => fin hin s' h1 h2 h3
  · intro hge
    have hil : i = l.length := by omega
    subst hil
    rw [List.take_length] at he
    rw [List.drop_length] at hsem
    have := hq s hs hsb fun t => by rw [hsem t]; simp only [rowFS, or_false]
    rw [decide_eq_true he] at this
    exact gcV_same this

end Go.Ax

namespace Go.Ax
open Go Go.Proofs Go.RowKit

theorem sub_back {s s' : List Int} (hs : s.Nodup) (hs' : s'.Nodup) (h : ∀ x ∈ s, x ∈ s') (hl : s'.length ≤ s.length) : ∀ x ∈ s', x ∈ s := fun x hx => by
  apply Classical.byContradiction
  intro hn
  have := nodup_sub_len (s := x :: s) (R := s') (List.nodup_cons.2 ⟨hn, hs⟩) fun y hy => by
    rcases List.mem_cons.1 hy with rfl | hy
    · exact hx
    · exact h y hy
  simp at this; omega
/-- How many numbers sets have together. -/
def tot (ss : List (List Int)) : Nat := (ss.map List.length).sum
theorem tot_set {ss : List (List Int)} {i : Nat} (h : i < ss.length) {s' : List Int} : tot (ss.set i s') + ss[i].length = tot ss + s'.length := by
  unfold tot
  induction ss generalizing i with
  | nil => simp at h
  | cons a ss ih =>
    cases i with
    | zero => simp; omega
    | succ i =>
      have := ih (i := i) (by simpa using h)
      simp at this ⊢; omega
theorem tot_le {ss : List (List Int)} {b : Nat} (h : ∀ s ∈ ss, s.length ≤ b) : tot ss ≤ ss.length * b := by
  unfold tot
  induction ss with
  | nil => simp
  | cons a ss ih =>
    have h1 := h a (by simp)
    have h2 := ih fun s hs => h s (by simp [hs])
    simp [Nat.succ_mul]; omega

/-- A row of sets under way: their number, their bounds, what is lacking. -/
structure SetsOk (n n0 : Nat) (H : Heap) (fv : Value) (ms : List Nat) (ss : List (List Int)) (m : Nat) : Prop where
  at_ : SetsAt n0 H fv ms ss
  num : ss.length = n
  inn : InN n ss
  lack : tot ss + m = n * (n + 1)
theorem SetsOk.mlen {n n0 : Nat} {H : Heap} {fv : Value} {ms : List Nat} {ss : List (List Int)} {m : Nat} (a : SetsOk n n0 H fv ms ss m) : ms.length = n := by rw [a.at_.len, a.num]
theorem SetsOk.le {n n0 : Nat} {H : Heap} {fv : Value} {ms : List Nat} {ss : List (List Int)} {m : Nat} (a : SetsOk n n0 H fv ms ss m) : ∀ s ∈ ss, s.length ≤ n + 1 := fun s hs => nodupN_le (a.at_.sn s hs) (a.inn s hs)
/-- One of the sets gets more. -/
theorem SetsOk.turn {n n0 : Nat} {H : Heap} {fv : Value} {ms : List Nat} {ss : List (List Int)} {m : Nat} (a : SetsOk n n0 H fv ms ss m) {i : Nat} (p : i < ms.length) (q : i < ss.length) {T : Int → Prop} {s' : List Int} (hs : s'.Nodup) (h : ∀ x, x ∈ s' ↔ x ∈ ss[i] ∨ T x) (hT : ∀ x, T x → 0 ≤ x ∧ x ≤ n) :
    ∃ m', SetsOk n n0 (H.set ms[i] (.map (encE (setE s')))) fv ms (ss.set i s') m' ∧ m' ≤ m ∧ (ss[i].length < s'.length → m' < m) ∧ (¬ ss[i].length < s'.length → m' = m ∧ ∀ x, T x → x ∈ ss[i]) ∧
      ∀ k x, atS (ss.set i s') k x ↔ atS ss k x ∨ k = i ∧ T x := by
  have hb := a.inn _ (List.getElem_mem q)
  have hsn := a.at_.sn _ (List.getElem_mem q)
  have hb' : ∀ x ∈ s', 0 ≤ x ∧ x ≤ n := fun x hx => by
    rcases (h x).1 hx with z | z
    · exact hb x z
    · exact hT x z
  have hinn : InN n (ss.set i s') := fun s hs2 => by
    rcases List.mem_or_eq_of_mem_set hs2 with z | rfl
    · exact a.inn s z
    · exact hb'
  have hsub : ss[i].length ≤ s'.length := nodup_sub_len hsn fun x hx => (h x).2 (.inl hx)
  have ht := a.at_.turn p hs
  have hle : tot (ss.set i s') ≤ (ss.set i s').length * (n + 1) := tot_le fun s hs2 => nodupN_le (ht.sn s hs2) (hinn s hs2)
  rw [List.length_set, a.num] at hle
  have hts := tot_set q (s' := s')
  have hlk := a.lack
  refine ⟨n * (n + 1) - tot (ss.set i s'), ⟨ht, by simp [a.num], hinn, by omega⟩, by omega, by omega, fun hn => ⟨by omega, fun x hx => ?_⟩, fun k x => ?_⟩
  · exact sub_back hsn hs (fun y hy => (h y).2 (.inl hy)) (by omega) x ((h x).2 (.inr hx))
  · by_cases e : k = i
    · subst e
      rw [atS_iff (by simpa using q), List.getElem_set_self, h, atS_iff q]
      simp
    · unfold atS
      rw [List.getD_eq_getElem?_getD, List.getElem?_set_ne (Ne.symm e), ← List.getD_eq_getElem?_getD]
      simp [e]

abbrev zview : AObj := .row [(.slice none 0 0), (.int .i64 0), (.slice none 0 0), (.slice none 0 0), (.int .i64 0), (.slice none 0 0), (.slice none 0 0)] .exact
/-- The heap of a view under way. -/
abbrev vwH (h : Heap) (g : Gr) (nl : List Bool) (fv : Value) (T : Heap) : Heap := h ++ [grow g, zview, vrow g nl fv] ++ T
theorem vwH_len {h : Heap} {g : Gr} {nl : List Bool} {fv : Value} : (h ++ [grow g, zview, vrow g nl fv]).length = h.length + 3 := by simp
theorem vwH_at {h : Heap} {g : Gr} {nl : List Bool} {fv : Value} {T : Heap} : VAt (vwH h g nl fv T) (h.length + 2) g nl fv := ⟨.exact, by unfold vwH; rw [List.append_assoc, row_app]; rfl⟩
theorem vwH_gat {h : Heap} {g : Gr} {nl : List Bool} {fv : Value} {T : Heap} : GAt (vwH h g nl fv T) h.length g := by unfold vwH; rw [List.append_assoc]; exact .at0
theorem vwH_set {h : Heap} {g : Gr} {nl : List Bool} {fv : Value} {T : Heap} {j : Nat} (hj : h.length + 3 ≤ j) {o : AObj} : ∃ T', (vwH h g nl fv T).set j o = vwH h g nl fv T' :=
  ⟨T.set (j - (h.length + 3)) o, by unfold vwH; rw [List.set_append_right _ _ (by rw [vwH_len]; exact hj), vwH_len]⟩

/-- What is to begin with. -/
def iniS (g : Gr) (i : Nat) : List Int := if (i : Int) < g.terms then [(i : Int)] else []
/-- The state of the sets: sound, with what is to begin with. -/
structure FstOk (g : Gr) (ss : List (List Int)) : Prop where
  ini : ∀ t : Nat, (t : Int) < g.terms → atS ss t t
  snd : ∀ i x, atS ss i x → inR (g.n + 1) x ∧ g.first i x.toNat

theorem first_ini {g : Gr} {t : Nat} (h : (t : Int) < g.terms) : g.first t t := ⟨h, .mk (ps := []) (.inl rfl) (by simp)⟩
theorem inR_of {n : Nat} {x : Int} (h : inR (n + 1) x) : 0 ≤ x ∧ x ≤ n := by unfold inR at h; omega

/-- What rows begin with, by sets that are right. -/
theorem rowFS_snd {g : Gr} {S : Nat → Int → Prop} (hS : ∀ i x, S i x → inR (g.n + 1) x ∧ g.first i x.toNat) : ∀ {l : List Int} {t : Int}, rowFS g.n S g.nullL l t → inR (g.n + 1) t ∧ g.rowF l t.toNat
  | [], _, h => h.elim
  | x :: l, t, ⟨h1, h2⟩ => by
    rcases h2 with h2 | ⟨h2, h3⟩
    · exact ⟨(hS _ _ h2).1, h1, .inl (hS _ _ h2).2⟩
    · have := rowFS_snd hS h3
      exact ⟨this.1, h1, .inr ⟨(setL_on.1 h2).2, this.2⟩⟩
theorem rowFS_all {g : Gr} {S : Nat → Int → Prop} (hS : ∀ i t : Nat, i < g.n → g.first i t → S i t) : ∀ {l : List Int} {t : Nat}, g.rowF l t → rowFS g.n S g.nullL l t
  | [], _, h => h.elim
  | x :: l, t, ⟨h1, h2⟩ => by
    have hx : x.toNat < g.n := by unfold inR at h1; omega
    rcases h2 with h2 | ⟨h2, h3⟩
    · exact ⟨h1, .inl (hS _ _ hx h2)⟩
    · exact ⟨h1, .inr ⟨setL_on.2 ⟨hx, h2⟩, rowFS_all hS h3⟩⟩
theorem rowES_iff {g : Gr} {l : List Int} : rowES g.n g.nullL l ↔ g.rowE l := by
  unfold rowES Gr.rowE
  constructor
  · intro h x hx
    exact ⟨(h x hx).1, (setL_on.1 (h x hx).2).2⟩
  · intro h x hx
    have := (h x hx).1
    unfold inR at this
    exact ⟨(h x hx).1, setL_on.2 ⟨by omega, (h x hx).2⟩⟩
/-- What a rule's right side begins with the rule's symbol begins with. -/
theorem first_rule {g : Gr} (ok : g.ok) {r : List Int} (hr : r ∈ g.rules) : ∀ {a l : List Int}, r.drop 1 = a ++ l → (∀ y ∈ a, g.null y.toNat) → ∀ {t : Nat}, g.rowF l t → g.first (lhs r) t
  | a, [], _, _, _, h => h.elim
  | a, x :: l, e, ha, t, ⟨h1, h2⟩ => by
    rcases h2 with h2 | ⟨h2, h3⟩
    · refine ⟨h2.1, .mk (ps := [x.toNat]) (.inr ⟨r, hr, a.map Int.toNat, x.toNat, l.map Int.toNat, ?_, fun y hy => ?_, rfl⟩) fun p hp => ?_⟩
      · unfold rhs; rw [e]; simp
      · obtain ⟨z, hz, rfl⟩ := List.mem_map.1 hy
        exact ha z hz
      · simp at hp; subst hp; exact h2.2
    · exact first_rule ok hr (a := a ++ [x]) (by rw [e]; simp) (fun y hy => by
        rcases List.mem_append.1 hy with q | q
        · exact ha y q
        · simp at q; subst q; exact h2) h3
/-- Sets to which no rule adds are all that follows. -/
theorem first_all {g : Gr} (ok : g.ok) {S : Nat → Nat → Prop} (hi : ∀ t : Nat, (t : Int) < g.terms → S t t) (hst : ∀ r ∈ g.rules, ∀ t, ∀ a x b, r.drop 1 = a ++ x :: b → (∀ y ∈ a, g.null y.toNat) → S x.toNat t → S (lhs r) t) {s t : Nat} (h : g.first s t) : S s t := by
  obtain ⟨ht, hd⟩ := h
  refine hd.least (S := fun s => S s t) fun x ps hc hp => ?_
  rcases hc with hc | ⟨r, hr, a, y, b, e, ha, hc⟩
  · cases hc; exact hi t ht
  · cases hc
    have hlen := congrArg List.length e
    unfold rhs at e
    obtain ⟨a', l', e1, e2, e3⟩ := List.map_eq_append_iff.1 e
    cases l' with
    | nil => simp at e3
    | cons y' b' =>
      simp at e3
      refine hst r hr t a' y' b' e1 (fun z hz => ha _ (by rw [← e2]; exact List.mem_map_of_mem hz)) ?_
      rw [e3.1]
      exact hp _ (by simp)
/-- A row's first symbol, behind what may be nothing. -/
theorem rowFS_at {n : Nat} {S : Nat → Int → Prop} {nl : List Bool} {t : Int} : ∀ {a : List Int} {x : Int} {b : List Int}, (∀ y ∈ a, inR n y ∧ onL nl y.toNat) → inR n x → S x.toNat t → rowFS n S nl (a ++ x :: b) t
  | [], x, b, _, hx, h => ⟨hx, .inl h⟩
  | y :: a, x, b, ha, hx, h => ⟨(ha y (by simp)).1, .inr ⟨(ha y (by simp)).2, rowFS_at (fun z hz => ha z (by simp [hz])) hx h⟩⟩

def FvI (h : Heap) (g : Gr) (ss : List (List Int)) (m : Nat) (H : Heap) : Prop :=
  ∃ (fv : Value) (T : Heap) (ms : List Nat), H = vwH h g g.nullL fv T ∧ SetsOk g.n (h.length + 3) H fv ms ss m ∧ FstOk g ss
def FvS (g : Gr) (ss : List (List Int)) (r : List Int) : Prop := ∀ t, rowFS g.n (atS ss) g.nullL (r.drop 1) t → atS ss (lhs r) t

theorem viewedD_spec {h H : Heap} {g : Gr} (ok : g.ok) {ss : List (List Int)} {m : Nat} (iv : FvI h g ss m H) {r : List Int} (hr : r ∈ g.rules) {K : Value → Heap → Prop}
    (k : ∀ (b : Bool) ss' m' H', FvI h g ss' m' H' → (b = true → m' < m) → (b = false → ss'.length = ss.length ∧ (∀ i x, atS ss' i x ↔ atS ss i x) ∧ m' = m ∧ FvS g ss r) → K (.bool b) H') :
    callW Try.prog (.func (.func F_sets_viewed_D1) #[] #[.pointer (some ⟨h.length + 2, 0, none⟩)]) [ints r] H K := by
  obtain ⟨fv, T, ms, rfl, so, fo⟩ := iv
  have fit := ok.fit r hr
  have hn := ok.nn
  rw [callW_known]
  apply W_sets_viewed_D1_ok
  unfold W_sets_viewed_D1
  rw [vwH_at.ld, oW_some, sl1 fit.1, oW_some]
  refine callW_plain.2 (vrow_spec hn so.at_ (by unfold Gr.nullL; simp) so.num so.inn (by have := fit.2.1; simp; omega) fun s hs hsb hsem => ?_)
  refine ⟨fun v hv q hq => ?_, ?_⟩
  · rcases List.mem_cons.1 hv with rfl | hv
    · cases hq
    · simp at hv; subst hv
      cases hq
      rw [List.getElem?_append_left (by simp)]
  rw [extract_tuple, show (#[Value.map (some ((vwH h g g.nullL fv T).length + 1)), Value.bool (decide (rowES g.n g.nullL (r.drop 1)))])[0]? = some (.map (some ((vwH h g g.nullL fv T).length + 1))) from rfl, oW_some,
    extract_tuple, show (#[Value.map (some ((vwH h g g.nullL fv T).length + 1)), Value.bool (decide (rowES g.n g.nullL (r.drop 1)))])[1]? = some (.bool (decide (rowES g.n g.nullL (r.drop 1)))) from rfl, oW_some]
  have E1 : vwH h g g.nullL fv T ++ [vrow g g.nullL fv, .map (encE (setE s))] = vwH h g g.nullL fv (T ++ [vrow g g.nullL fv, .map (encE (setE s))]) := by unfold vwH; rw [List.append_assoc]
  have sa : SetsOk g.n (h.length + 3) (vwH h g g.nullL fv T ++ [vrow g g.nullL fv, .map (encE (setE s))]) fv ms ss m := ⟨so.at_.app, so.num, so.inn, so.lack⟩
  have gm : getMap (vwH h g g.nullL fv T ++ [vrow g g.nullL fv, .map (encE (setE s))]) ((vwH h g g.nullL fv T).length + 1) = some (encE (setE s)) := by rw [map_app]; rfl
  have hx := fit.2.2.1.2
  have hmn := so.mlen
  have hx1 : (r.getD 0 0).toNat < ms.length := by unfold inR at hx; omega
  have hx2 : (r.getD 0 0).toNat < ss.length := by rw [so.num]; unfold inR at hx; omega
  have hl1 := so.le _ (List.getElem_mem hx2)
  have hl2 := nodupN_le hs hsb
  have hb2 := so.inn _ (List.getElem_mem hx2)
  refine (vwH_at.app).first (ix0 fit.1 (sa.at_.get (by rw [hmn]; exact hx) fun q o hq => ?_))
  refine callW_plain.2 (add_spec (sa.at_.mp _ hx1 hx2) gm (fun t ht => by have := hb2 t ht; omega) (fun t ht => by have := hsb t ht; omega) (by omega) (by omega) (so.at_.sn _ (List.getElem_mem hx2)) fun s' h1 h2 => ?_)
  obtain ⟨m', so', hm1, hm2, hm3, hsem'⟩ := sa.turn hx1 hx2 (T := fun x => x ∈ s) h1 h2 hsb
  have hge := so.at_.ge _ (List.getElem_mem hx1)
  refine ⟨fun v hv q hq => ?_, ?_⟩
  · rcases List.mem_cons.1 hv with rfl | hv
    · cases hq
    · simp at hv; subst hv
      cases hq
      rw [List.getElem?_set_ne (by omega)]
  obtain ⟨T', hT'⟩ := vwH_set (h := h) (g := g) (nl := g.nullL) (fv := fv) (T := T ++ [vrow g g.nullL fv, .map (encE (setE s))]) hge (o := .map (encE (setE s')))
  rw [E1] at so' ⊢
  rw [hT'] at so' ⊢
  have hstep : ∀ x, x ∈ s → inR (g.n + 1) x ∧ g.first (lhs r) x.toNat := fun x hxs => by
    have := rowFS_snd fo.snd ((hsem x).1 hxs)
    exact ⟨this.1, first_rule ok hr (a := []) rfl (by simp) this.2⟩
  refine gcV_same (k _ _ m' _ ⟨fv, T', ms, rfl, so', ⟨fun t ht => (hsem' _ _).2 (.inl (fo.ini t ht)), fun i x hix => ?_⟩⟩ (fun q => hm2 (by simpa using q)) fun q => ?_)
  · rcases (hsem' _ _).1 hix with z | ⟨rfl, z⟩
    · exact fo.snd i x z
    · exact hstep x z
  · obtain ⟨e1, e2⟩ := hm3 (by simpa using q)
    refine ⟨by simp, fun i x => ?_, e1, fun t ht => ?_⟩
    · rw [hsem']
      constructor
      · rintro (z | ⟨rfl, z⟩)
        · exact z
        · exact (atS_iff hx2).2 (e2 x z)
      · exact .inl
    · exact (atS_iff hx2).2 (e2 t ((hsem t).2 ht))

theorem bld_view {g : Gr} {l : List Bool} : bldW [(.slice none 0 0), (.int .i64 0), (.slice none 0 0), (.slice none 0 0), (.int .i64 0), (.slice none 0 0), (.slice none 0 0)] [(0, 5, g.enc), (5, 1, bools l)] = some (viewV g l (.slice none 0 0)) := rfl
theorem iniS_len {g : Gr} {i : Nat} : (iniS g i).length ≤ 1 := by unfold iniS; split <;> simp

/-- What is known of a grammar, whole: in memory past what was. -/
structure Viewed (h H : Heap) (g : Gr) (fv : Value) (ms : List Nat) (ss : List (List Int)) : Prop where
  at_ : SetsAt h.length H fv ms ss
  num : ss.length = g.n
  inn : InN g.n ss
  sem : ∀ i t : Nat, i < g.n → (atS ss i t ↔ g.first i t)

theorem viewed_spec {g : Gr} (ok : g.ok) {h : Heap} {Q : Value → Heap → Prop} (hq : ∀ fv ms ss t, Viewed h (h ++ t) g fv ms ss → Q (viewV g g.nullL fv) (h ++ t)) : acall Try.prog F_sets_viewed [g.enc] h Q := by
  have hn := ok.nn
  have hrr := ok.rr
  apply W_sets_viewed_ok
  unfold W_sets_viewed
  rw [box_gr, hW_some, letH_eq, GAt.box.app.ld, oW_some, oW_some]
  have L1 : (h ++ [grow g]).length = h.length + 1 := by simp
  have E1 : h ++ [grow g] ++ [zview] = h ++ [grow g, zview] := by simp
  have L2 : (h ++ [grow g, zview]).length = h.length + 2 := by simp
  have E2 : ∀ o : AObj, h ++ [grow g, zview] ++ [o] = h ++ [grow g, zview, o] := fun o => by simp
  rw [E1, L1]
  refine ⟨trivial, callW_plain.2 (nullable_spec ok.fin ⟨kept_same, ?_⟩)⟩
  have er : g.res g.nullL = bools g.nullL := by unfold Gr.res; rw [if_pos ok]
  rw [er, bld_view, oW_some, letH_eq]
  refine ⟨fun v hv q hq => ?_, ?_⟩
  · have : q = h.length := by
      simp at hv; subst hv; cases hq; rfl
    subst this
    rw [List.getElem?_append_left (by simp)]
  rw [E2, L2]
  have est : ∀ fv : Value, stW 7 (h ++ [grow g, zview, zview]) (.pointer (some ⟨h.length + 2, 0, none⟩)) (viewV g g.nullL (.slice none 0 0)) = some (vwH h g g.nullL (.slice none 0 0) []) := fun _ => by
    rw [stW_agg, row_app]
    show (some (_, Md.exact)).bind _ = _
    rw [Option.bind_some, if_pos (by simp [okCell]), set_app]
    simp [vwH]
  rw [est .nilFunc, sW_some]
  refine vwH_gat.names ?_
  rw [lenN, oW_some]
  have zsum : ∀ i, tot ((List.range i).map (iniS g)) ≤ i := fun i => by
    have := tot_le (ss := (List.range i).map (iniS g)) (b := 1) fun s hs => by
      obtain ⟨j, _, rfl⟩ := List.mem_map.1 hs
      exact iniS_len
    simpa using this
  refine ⟨fun k vs H => ∃ (i : Nat) (fv : Value) (T : Heap) (ms : List Nat), vs = [.pointer (some ⟨h.length, 0, none⟩), .pointer (some ⟨h.length + 1, 0, none⟩), .pointer (some ⟨h.length + 2, 0, none⟩), .int .i64 (g.names.length : Int), .int .i64 (i : Int)] ∧ H = vwH h g g.nullL fv T ∧ k = g.n - i ∧ i ≤ g.n ∧
    SetsAt (h.length + 3) H fv ms ((List.range i).map (iniS g)), g.n, gcL_same ⟨0, _, [], [], rfl, rfl, by omega, by omega, ⟨Acc.nil, rfl, .nil, by simp, by simp, by simp⟩⟩, ?_⟩
  rintro k x18 x19 x20 x21 x22 h23 ⟨i, fv, T, ms, hv, rfl, hk, hi, sa⟩
  simp only [List.cons.injEq, and_true] at hv
  obtain ⟨rfl, rfl, rfl, rfl, rfl⟩ := hv
  have hml : ms.length = i := by rw [sa.len]; simp
  rw [n_lss, oW_some, bW_dec]
  constructor
  · intro hlt
    rw [letH_eq]
    refine GAt.terms vwH_gat.app ?_
    -- the new set, and one more in the row
    have hB := vwH_len (h := h) (g := g) (nl := g.nullL) (fv := fv)
    have push : ∀ (s : List Int), s = iniS g i → 
        oW (faW 6 1 (.pointer (some ⟨h.length + 2, 0, none⟩))) fun v30 => oW (ldW false 1 (vwH h g g.nullL fv T ++ [.map (encE (setE s))]) v30) fun v31 => hW (bslW (vwH h g g.nullL fv T ++ [.map (encE (setE s))]) 1 [(.map none)] [(0, 1, (.map (some (vwH h g g.nullL fv T).length)))]) fun v32 h33 =>
          hW (apW 1 8 h33 v31 v32) fun v34 h35 => oW (faW 6 1 (.pointer (some ⟨h.length + 2, 0, none⟩))) fun v36 => sW (stW 1 h35 v36 v34) fun h37 => oW (binN .add (.int .i64 (i : Int)) (.int .i64 1)) fun v38 =>
            ∃ m16, m16 < k ∧ gcL h ((fun k vs H => ∃ (i : Nat) (fv : Value) (T : Heap) (ms : List Nat), vs = [.pointer (some ⟨h.length, 0, none⟩), .pointer (some ⟨h.length + 1, 0, none⟩), .pointer (some ⟨h.length + 2, 0, none⟩), .int .i64 (g.names.length : Int), .int .i64 (i : Int)] ∧ H = vwH h g g.nullL fv T ∧ k = g.n - i ∧ i ≤ g.n ∧
              SetsAt (h.length + 3) H fv ms ((List.range i).map (iniS g))) m16) [.pointer (some ⟨h.length, 0, none⟩), .pointer (some ⟨h.length + 1, 0, none⟩), .pointer (some ⟨h.length + 2, 0, none⟩), .int .i64 (g.names.length : Int), v38] h37 := fun s hs => by
      refine vwH_at.app.first ?_
      have EA : vwH h g g.nullL fv T ++ [.map (encE (setE s))] = h ++ [grow g, zview, vrow g g.nullL fv] ++ (T ++ [.map (encE (setE s))]) := by unfold vwH; rw [List.append_assoc]
      have acA : Acc 1 (h.length + 3) (h ++ [grow g, zview, vrow g g.nullL fv] ++ (T ++ [.map (encE (setE s))])) fv (ms.map fun j => .map (some j)) := by rw [← EA]; exact sa.acc.app
      have gmA : getMap (h ++ [grow g, zview, vrow g g.nullL fv] ++ (T ++ [.map (encE (setE s))])) (vwH h g g.nullL fv T).length = some (encE (setE s)) := by rw [← EA, map_app0]; rfl
      have hvl : h.length + 3 ≤ (vwH h g g.nullL fv T).length := by unfold vwH; rw [List.length_append, vwH_len]; omega
      rw [EA]
      refine Acc.push hB acA (by omega) map_len (e := .map (some (vwH h g g.nullL fv T).length)) rfl rfl rfl rfl (by simp; unfold Gr.n at *; omega) (by simp; unfold Gr.n at *; omega) fun v' g' a2 q1 q2 q3 => ?_
      rw [fa_ptr, oW_some]
      have hrow : getRow (h ++ [grow g, zview, vrow g g.nullL fv] ++ g') (h.length + 2) = some (viewC g g.nullL fv, .exact) := by rw [List.append_assoc, row_app]; rfl
      have hv' : okVal v' = true ∧ cellsOf v' = [v'] ∧ okCell v' = true := by
        rcases a2 with ⟨rfl, _⟩ | ⟨q, cap, c, m, _, rfl, _⟩
        · exact ⟨rfl, rfl, rfl⟩
        · exact ⟨rfl, rfl, rfl⟩
      rw [st1 hrow (by simp) hv'.1 hv'.2.1 hv'.2.2 (by simp), sW_some, n_add (by unfold Gr.n at *; omega), oW_some]
      have eset : (h ++ [grow g, zview, vrow g g.nullL fv] ++ g').set (h.length + 2) (.row ((viewC g g.nullL fv).set (0 + 6) v') .exact) = vwH h g g.nullL v' g' := by
        rw [List.append_assoc, set_app]; simp [vwH]
      rw [eset]
      have old : ∀ j, h.length + 3 ≤ j → (vwH h g g.nullL v' g')[j]? = (h ++ [grow g, zview, vrow g g.nullL fv] ++ g')[j]? := fun j hj => by
        rw [← eset, List.getElem?_set_ne (by omega)]
      have hkeep : ∀ j es, h.length + 3 ≤ j → getMap (h ++ [grow g, zview, vrow g g.nullL fv] ++ (T ++ [.map (encE (setE s))])) j = some es → getMap (vwH h g g.nullL v' g') j = some es := fun j es hj he => by
        rw [getMap_same (old j hj), getMap_same (q1 j (getMap_lt he) (not_lies acA he)), he]
      refine ⟨g.n - (i + 1), by unfold Gr.n at *; omega, gcL_same ⟨i + 1, v', g', ms ++ [(vwH h g g.nullL fv T).length], by simp, rfl, rfl, by unfold Gr.n; omega, ?_⟩⟩
      rw [List.range_succ, List.map_append]
      refine ⟨?_, by simp [hml], ?_, fun j hj => ?_, fun j p q => ?_, fun z hz => ?_⟩
      · have := a2.congr (H' := vwH h g g.nullL v' g') fun j hj => old j (a2.ge hj)
        rw [List.map_append]; exact this
      · rw [List.nodup_append]
        refine ⟨sa.nd, by simp, fun a ha b hb e => ?_⟩
        have hb' := List.mem_singleton.1 hb
        obtain ⟨w, hw, rfl⟩ := List.mem_iff_getElem.1 ha
        have := getMap_lt (sa.mp w hw (by simp; omega))
        rw [e, hb'] at this
        omega
      · rcases List.mem_append.1 hj with z | z
        · exact sa.ge j z
        · rw [List.mem_singleton.1 z]; exact hvl
      · by_cases hj : j < ms.length
        · rw [List.getElem_append_left hj, List.getElem_append_left (by simp; omega)]
          refine hkeep _ _ (sa.ge _ (List.getElem_mem hj)) ?_
          rw [← EA]
          exact getMap_app (sa.mp j hj (by simp; omega))
        · have hje : j = ms.length := by simp at p; omega
          subst hje
          rw [List.getElem_append_right (by omega), List.getElem_append_right (by simp; omega)]
          simp only [Nat.sub_self, List.getElem_singleton, List.length_map, List.length_range, hml, List.map_cons, List.map_nil]
          rw [← hs]
          exact hkeep _ _ hvl gmA
      · rcases List.mem_append.1 hz with w | w
        · exact sa.sn z w
        · simp at w; subst w
          unfold iniS; split <;> simp
    rw [n_lss, oW_some, bW_dec]
    constructor
    · intro ht
      have up : upS (.int .i64) (vwH h g g.nullL fv T ++ [.map []]) (.map (some (vwH h g g.nullL fv T).length)) (.int .i64 (i : Int)) (.bool true) = some (vwH h g g.nullL fv T ++ [.map (encE (setE [(i : Int)]))]) := by
        rw [up_int (E := []) (by rw [map_app0]; rfl), set_app0]; rfl
      rw [up, sW_some]
      exact push _ (by unfold iniS; rw [if_pos ht])
    · intro ht
      exact push [] (by unfold iniS; rw [if_neg ht])
  · intro hge
    have hin : i = g.n := by unfold Gr.n at *; omega
    subst hin
    refine vwH_gat.rules ?_
    have at0 : ∀ a x, atS ((List.range g.n).map (iniS g)) a x ↔ (a : Int) = x ∧ (a : Int) < g.terms ∧ a < g.n := fun a x => by
      unfold atS
      by_cases ha : a < g.n
      · rw [List.getD_eq_getElem?_getD, List.getElem?_eq_getElem (by simpa using ha)]
        simp only [Option.getD_some, List.getElem_map, List.getElem_range]
        unfold iniS
        split
        · rename_i q; simp [q, ha, eq_comm]
        · rename_i q; simp [q]
      · rw [List.getD_eq_getElem?_getD, List.getElem?_eq_none (by simp; omega)]
        simp [ha]
    have so : SetsOk g.n (h.length + 3) (vwH h g g.nullL fv T) fv ms ((List.range g.n).map (iniS g)) (g.n * (g.n + 1) - tot ((List.range g.n).map (iniS g))) := by
      refine ⟨sa, by simp, fun s hs x hx => ?_, ?_⟩
      · obtain ⟨j, hj, rfl⟩ := List.mem_map.1 hs
        have := List.mem_range.1 hj
        unfold iniS at hx
        split at hx
        · simp at hx; omega
        · cases hx
      · have := zsum g.n
        have : g.n ≤ g.n * (g.n + 1) := Nat.le_mul_of_pos_right _ (by omega)
        omega
    have fo : FstOk g ((List.range g.n).map (iniS g)) := by
      refine ⟨fun t ht => (at0 _ _).2 ⟨rfl, ht, by have := ok.tn; omega⟩, fun a x hx => ?_⟩
      obtain ⟨h1, h2, h3⟩ := (at0 _ _).1 hx
      subst h1
      refine ⟨⟨by omega, by omega⟩, ?_⟩
      rw [Int.toNat_natCast]
      exact first_ini h2
    refine callW_plain.2 (untilR_spec (σ := Nat → Int → Prop) (fun S m H => ∃ ss, FvI h g ss m H ∧ S = atS ss) (fun S r => ∀ t, rowFS g.n S g.nullL (r.drop 1) t → S (lhs r) t) (by omega) ⟨_, ⟨fv, T, ms, rfl, so, fo⟩, rfl⟩ (fun S m H r hr ⟨ss, iv, hS⟩ K hK => ?_) fun S m H ⟨ss, ⟨fv', T', ms', hH, so', fo'⟩, hS⟩ st => ?_)
    · subst hS
      refine viewedD_spec ok iv hr fun b ss' m' H' iv' b1 b2 => hK b _ m' H' ⟨ss', iv', rfl⟩ b1 fun q => ?_
      obtain ⟨_, e2, e3, e4⟩ := b2 q
      have : atS ss' = atS ss := by funext i x; exact propext (e2 i x)
      exact ⟨this, e3, e4⟩
    · subst hS
      subst hH
      rw [vwH_at.ld, oW_some]
      have hz : getRow (vwH h g g.nullL fv' T') (h.length + 1) = some ([(.slice none 0 0), (.int .i64 0), (.slice none 0 0), (.slice none 0 0), (.int .i64 0), (.slice none 0 0), (.slice none 0 0)], .exact) := by unfold vwH; rw [List.append_assoc, row_app]; rfl
      have hfvk : okCell fv' = true := by
        rcases so'.at_.acc with ⟨rfl, _⟩ | ⟨q, cap, c, m, _, rfl, _⟩ <;> rfl
      have est2 : stW 7 (vwH h g g.nullL fv' T') (.pointer (some ⟨h.length + 1, 0, none⟩)) (viewV g g.nullL fv') = some (h ++ ([grow g, vrow g g.nullL fv', vrow g g.nullL fv'] ++ T')) := by
        rw [stW_agg, hz, Option.bind_some, if_pos (by simp [hfvk])]
        unfold vwH
        rw [List.append_assoc, set_app]
        simp
      rw [est2, sW_some]
      have hz2 : getRow (h ++ ([grow g, vrow g g.nullL fv', vrow g g.nullL fv'] ++ T')) (h.length + 1) = some (viewC g g.nullL fv', .exact) := by rw [row_app]; rfl
      rw [ldP_agg, hz2]
      show oW (some (viewV g g.nullL fv')) _
      rw [oW_some]
      refine gcV_same (hq fv' ms' ss _ ⟨(so'.at_.congr fun j hj hj2 => ?_).low (by omega), so'.num, so'.inn, fun i t hi => ⟨fun q => ?_, fun q => ?_⟩⟩)
      · unfold vwH
        rw [← List.append_assoc, List.getElem?_append_right (by simp; omega), List.getElem?_append_right (by simp; omega)]
        simp
      · have := (fo'.snd i t q).2
        simpa using this
      · refine first_all ok (S := fun s t => atS ss s t) fo'.ini (fun r hr t a x b e ha hx => ?_) q
        have fit := ok.fit r hr
        refine st r hr t ?_
        rw [e]
        have hmem : ∀ y ∈ a ++ x :: b, inR g.n y := fun y hy => fit.2.2.2 y (by rw [e]; exact hy)
        refine rowFS_at (fun y hy => ?_) (hmem x (by simp)) hx
        have h1 := hmem y (by simp [hy])
        refine ⟨h1, setL_on.2 ⟨?_, ha y hy⟩⟩
        unfold inR at h1; omega

end Go.Ax

namespace Go.Ax
open Go Go.Proofs Go.RowKit

theorem ints_len1 {l : List (List Int)} : ∀ x ∈ l.map ints, (cellsOf x).length = 1 := fun x hx => by
  obtain ⟨n, _, rfl⟩ := List.mem_map.1 hx; rfl
theorem ints_cl {l : List (List Int)} : ∀ e ∈ l.map ints, ∀ x ∈ cellsOf e, Cl x := fun e he x hx => by
  obtain ⟨n, _, rfl⟩ := List.mem_map.1 he
  simp at hx; subst hx; exact cl_il
theorem cl_rows {l : List (List Int)} : Cl (lit (l.map ints)) := Cl.lit' ints_cl

/-- slices.Sorted of maps.Keys, at calls. -/
theorem sortedKeysW {H : Heap} {j : Nat} {s : List Int} {K : Value → Heap → Prop} (hm : getMap H j = some (encE (setE s))) (hn : s.Nodup) (hi : ∀ k ∈ s, inI k) (hl : s.length ≤ 1000000000000)
    (k : ∀ l : List Int, l.Pairwise (· < ·) → (∀ x, x ∈ l ↔ x ∈ s) → ∀ t, K (ints l) (H ++ t)) :
    callW Try.prog (fn F_maps_Keys_sets_set_int_bool) [.map (some j)] H fun v h => callW Try.prog (fn F_slices_Sorted_int) [v] h K :=
  callW_plain.2 ((sortedKeysB_spec hm (by simp [setE, Function.comp_def]) hn hi hl k).mono fun v h q => callW_plain.2 q)
/-- Rows are the sets' numbers, rising. -/
def RowsOf (ss rows : List (List Int)) : Prop := rows.length = ss.length ∧ ∀ i (p : i < rows.length) (q : i < ss.length), rows[i].Pairwise (· < ·) ∧ ∀ x, x ∈ rows[i] ↔ x ∈ ss[i]
theorem rising_spec17 {n0 : Nat} {H : Heap} {fv : Value} {ms : List Nat} {ss : List (List Int)} (a : SetsAt n0 H fv ms ss) (hl : ss.length ≤ 1000000000) (hb : ∀ s ∈ ss, s.length ≤ 1000000000 ∧ ∀ x ∈ s, inI x) {Q : Value → Heap → Prop}
    (hq : ∀ rows, RowsOf ss rows → Q (lit (rows.map ints)) H) : acall Try.prog F_sets_rising [fv] H Q := by
  have hml := a.len
  apply W_sets_rising_ok
  unfold W_sets_rising
  rw [a.acc.len, oW_some]
  simp only [List.length_map]
  refine ⟨fun k vs G => ∃ (i : Nat) (v : Value) (T : Heap) (rows : List (List Int)), vs = [v, fv, .int .i64 (ms.length : Int), .int .i64 (i : Int)] ∧ G = H ++ T ∧ k = ms.length - i ∧ i ≤ ms.length ∧ Acc 1 H.length (H ++ T) v (rows.map ints) ∧ RowsOf (ss.take i) rows, ms.length,
    gcL_same ⟨0, _, [], [], rfl, by simp, by omega, by omega, Acc.nil, by simp [RowsOf]⟩, ?_⟩
  rintro k x6 x7 x8 x9 G ⟨i, v, T, rows, hv, rfl, hk, hi, ac, hr⟩
  simp only [List.cons.injEq, and_true] at hv
  obtain ⟨rfl, rfl, rfl, rfl⟩ := hv
  have hrl := hr.1
  rw [List.length_take] at hrl
  rw [n_lss, oW_some, bW_dec]
  constructor
  · intro hlt
    have hlt' : i < ms.length := by omega
    have hls : i < ss.length := by omega
    have hbs := hb _ (List.getElem_mem hls)
    refine a.app.get (x := (i : Int)) ⟨by omega, by omega⟩ fun q o _ => ?_
    simp only [Int.toNat_natCast]
    refine sortedKeysW (a.app.mp i hlt' hls) (a.sn _ (List.getElem_mem hls)) hbs.2 (by omega) fun l hl1 hl2 t => ?_
    rw [List.append_assoc]
    refine Acc.push rfl (by rw [← List.append_assoc]; exact ac.app) (by omega) ints_len1 (e := ints l) rfl rfl rfl rfl (by simp; omega) (by simp; omega) fun v' g' a2 _ _ _ => ?_
    rw [n_add (by omega), oW_some]
    refine ⟨ms.length - (i + 1), by omega, gcL_same ⟨i + 1, v', g', rows ++ [l], by simp, rfl, rfl, by omega, by rw [List.map_append]; exact a2, by simp; omega, fun j p q => ?_⟩⟩
    have hri : rows.length = i := by omega
    by_cases hj : j < i
    · rw [List.getElem_append_left (by omega)]
      have := hr.2 j (by omega) (by simp; omega)
      simpa using this
    · have hje : j = i := by simp at p; omega
      subst hje
      rw [List.getElem_append_right (by omega)]
      simp only [hri, Nat.sub_self, List.getElem_singleton, List.getElem_take]
      exact ⟨hl1, hl2⟩
  · intro hge
    have hil : i = ms.length := by omega
    subst hil
    rw [List.take_of_length_le (by omega)] at hr
    exact ac.done rfl ⟨[], by simp⟩ (by omega) ints_len1 ints_cl (hq rows hr)

theorem Viewed.rows {h H : Heap} {g : Gr} {fv : Value} {ms : List Nat} {ss : List (List Int)} (v : Viewed h H g fv ms ss) {rows : List (List Int)} (hr : RowsOf ss rows) : rows = g.firstL := by
  unfold Gr.firstL
  have hl := hr.1
  have hn := v.num
  apply List.ext_getElem (by simp; omega)
  intro i h1 h2
  obtain ⟨q1, q2⟩ := hr.2 i h1 (by omega)
  simp only [List.getElem_map, List.getElem_range]
  refine eq_riseL q1 fun x => ?_
  rw [q2]
  have hi : i < g.n := by omega
  have hin := v.inn _ (List.getElem_mem (l := ss) (n := i) (by omega))
  constructor
  · intro hx
    have := hin x hx
    refine ⟨⟨by omega, by omega⟩, (v.sem i x.toNat hi).1 ?_⟩
    rw [Int.toNat_of_nonneg (by omega)]
    exact (atS_iff (by omega)).2 hx
  · rintro ⟨h3, h4⟩
    unfold inR at h3
    have := (v.sem i x.toNat hi).2 h4
    rw [Int.toNat_of_nonneg (by omega)] at this
    exact (atS_iff (by omega)).1 this
theorem Viewed.snd {h H : Heap} {g : Gr} {fv : Value} {ms : List Nat} {ss : List (List Int)} (v : Viewed h H g fv ms ss) : ∀ i x, atS ss i x → inR (g.n + 1) x ∧ g.first i x.toNat := fun i x hx => by
  have hn := v.num
  by_cases hi : i < g.n
  · have hx2 := (atS_iff (by omega)).1 hx
    have := v.inn _ (List.getElem_mem (l := ss) (n := i) (by omega)) x hx2
    refine ⟨⟨by omega, by omega⟩, (v.sem i x.toNat hi).1 ?_⟩
    rwa [Int.toNat_of_nonneg (by omega)]
  · unfold atS at hx
    rw [List.getD_eq_getElem?_getD, List.getElem?_eq_none (by omega)] at hx
    cases hx
theorem Viewed.rowF {h H : Heap} {g : Gr} {fv : Value} {ms : List Nat} {ss : List (List Int)} (v : Viewed h H g fv ms ss) {l : List Int} {t : Int} : rowFS g.n (atS ss) g.nullL l t ↔ inR (g.n + 1) t ∧ g.rowF l t.toNat := by
  constructor
  · exact rowFS_snd v.snd
  · rintro ⟨h1, h2⟩
    have := rowFS_all (S := atS ss) (fun i t hi q => (v.sem i t hi).2 q) h2
    unfold inR at h1
    rwa [Int.toNat_of_nonneg h1.1] at this
theorem Viewed.app {h H : Heap} {g : Gr} {fv : Value} {ms : List Nat} {ss : List (List Int)} (v : Viewed h H g fv ms ss) {t : Heap} : Viewed h (H ++ t) g fv ms ss := ⟨v.at_.app, v.num, v.inn, v.sem⟩
theorem Viewed.low {h h' H : Heap} {g : Gr} {fv : Value} {ms : List Nat} {ss : List (List Int)} (v : Viewed h H g fv ms ss) (hh : h'.length ≤ h.length) : Viewed h' H g fv ms ss := ⟨v.at_.low hh, v.num, v.inn, v.sem⟩
theorem Viewed.small {h H : Heap} {g : Gr} {fv : Value} {ms : List Nat} {ss : List (List Int)} (v : Viewed h H g fv ms ss) (hn : g.n ≤ 128) : ∀ s ∈ ss, s.length ≤ 1000000000 ∧ ∀ x ∈ s, inI x := fun s hs =>
  ⟨by have := nodupN_le (v.at_.sn s hs) (v.inn s hs); omega, fun x hx => by have := v.inn s hs x hx; omega⟩

open Classical in
noncomputable def Gr.resF (g : Gr) (l : List (List Int)) : Value := if g.ok then lit (l.map ints) else .slice none 0 0
open Classical in
noncomputable def Gr.resR (g : Gr) (l : List Int) : Value := if g.ok then .tuple #[ints (g.rowL l), .bool (decide (g.rowE l))] else .tuple #[.slice none 0 0, .bool false]
theorem resF_cl {g : Gr} {l : List (List Int)} : Cl (g.resF l) := by unfold Gr.resF; split <;> first | exact cl_rows | exact .nilS
theorem cl_pair {a b : Value} (ha : Cl a) (hb : Cl b) : Cl (.tuple #[a, b]) := .tuple _ (by simp) fun x hx => by
  simp at hx
  rcases hx with rfl | rfl
  · exact ha
  · exact hb

theorem first_spec {g : Gr} (hf : g.Fin) {h : Heap} {Q : Value → Heap → Prop} (hq : Q (g.resF g.firstL) h) : acall Try.prog F_sets_First [g.enc] h Q := by
  apply W_sets_First_ok
  unfold W_sets_First
  rw [box_gr, hW_some, GAt.ld .box, oW_some]
  refine callW_plain.2 (right_spec hf ?_)
  rw [u_not, oW_some, bW_bool]
  refine ⟨fun q => ?_, fun q => ?_⟩
  · have hn : ¬ g.ok := by simpa using q
    unfold Gr.resF at hq
    rw [if_neg hn] at hq
    exact gcV_box .nilS hq
  have ok : g.ok := by simpa using q
  have hn := ok.nn
  unfold Gr.resF at hq
  rw [if_pos ok] at hq
  rw [GAt.ld .box, oW_some]
  refine callW_plain.2 (viewed_spec ok fun fv ms ss t v => ?_)
  rw [show fldW false 6 1 (viewV g g.nullL fv) = some fv from rfl, oW_some]
  refine callW_plain.2 (rising_spec17 v.at_ (by have := v.num; omega) (v.small hn) fun rows hr => ?_)
  rw [v.rows hr, List.append_assoc]
  exact gcV_box cl_rows hq

open Classical in
theorem row_spec17 {g : Gr} (hf : g.Fin) {l : List Int} (hl : l.length ≤ 1000000000) {h : Heap} {Q : Value → Heap → Prop} (hq : Q (g.resR l) h) : acall Try.prog F_sets_Row [g.enc, ints l] h Q := by
  apply W_sets_Row_ok
  unfold W_sets_Row
  rw [box_gr, hW_some, GAt.ld .box, oW_some]
  refine callW_plain.2 (right_spec hf ?_)
  rw [u_not, oW_some, bW_bool]
  refine ⟨fun q => ?_, fun q => ?_⟩
  · have hn : ¬ g.ok := by simpa using q
    unfold Gr.resR at hq
    rw [if_neg hn] at hq
    exact gcV_box (cl_pair .nilS (.bool _)) hq
  have ok : g.ok := by simpa using q
  have hn := ok.nn
  unfold Gr.resR at hq
  rw [if_pos ok] at hq
  rw [GAt.ld .box, oW_some]
  refine callW_plain.2 (viewed_spec ok fun fv ms ss t v => ?_)
  refine callW_plain.2 (vrow_spec hn v.at_ (by unfold Gr.nullL; simp) v.num v.inn hl fun s hs hsb hsem => ?_)
  rw [extract_tuple, extract_tuple]
  show oW (some _) _
  rw [oW_some]
  show oW (some _) _
  rw [oW_some]
  refine sortedKeysW (s := s) (by rw [map_app]; rfl) hs (fun x hx => by have := hsb x hx; omega) (by have := nodupN_le hs hsb; omega) fun r hr1 hr2 t2 => ?_
  have e1 : r = g.rowL l := eq_riseL hr1 fun x => by rw [hr2, hsem, v.rowF]
  have e2 : decide (rowES g.n g.nullL l) = decide (g.rowE l) := by rw [decide_eq_decide]; exact rowES_iff
  rw [e1, e2, List.append_assoc, List.append_assoc, List.append_assoc]
  exact gcV_box (cl_pair cl_il (.bool _)) hq

end Go.Ax

namespace Go.Ax
open Go Go.Proofs Go.RowKit

/-- Behind what is known of a grammar: the view, the row of sets, the variable that holds it. -/
noncomputable abbrev flX (p : Nat) (g : Gr) (fv : Value) (os : List Value) : Heap := [vrow g g.nullL fv, .row os .exact, .row [.slice (some ⟨p + 1, 0, none⟩) g.n g.n] .exact]
abbrev flV (p : Nat) (g : Gr) : Value := .slice (some ⟨p + 1, 0, none⟩) g.n g.n
section
variable {H9 T : Heap} {g : Gr} {fv : Value} {os : List Value}
theorem flX_view : VAt (H9 ++ flX H9.length g fv os ++ T) H9.length g g.nullL fv := ⟨.exact, by rw [List.append_assoc, row_app0]; rfl⟩
theorem flX_var : ldW false 1 (H9 ++ flX H9.length g fv os ++ T) (.pointer (some ⟨H9.length + 2, 0, none⟩)) = some (flV H9.length g) := by
  rw [ldW_one, List.append_assoc, row_app]; rfl
theorem flX_row : getRow (H9 ++ flX H9.length g fv os ++ T) (H9.length + 1) = some (os, .exact) := by rw [List.append_assoc, row_app]; rfl
theorem flX_len : (H9 ++ flX H9.length g fv os).length = H9.length + 3 := by simp
theorem flX_tail {q : Nat} (hq : H9.length + 3 ≤ q) : (H9 ++ flX H9.length g fv os ++ T)[q]? = T[q - (H9.length + 3)]? := by
  rw [List.getElem?_append_right (by rw [flX_len]; exact hq), flX_len]
theorem flX_set {j : Nat} (hj : H9.length + 3 ≤ j) {o : AObj} : ∃ T', (H9 ++ flX H9.length g fv os ++ T).set j o = H9 ++ flX H9.length g fv os ++ T' :=
  ⟨T.set (j - (H9.length + 3)) o, by rw [List.set_append_right _ _ (by rw [flX_len]; exact hj), flX_len]⟩
end

/-- The state of the sets: sound, with the end behind the start. -/
structure FolOk (g : Gr) (S : Nat → Int → Prop) : Prop where
  ini : S g.start.toNat g.n
  snd : ∀ i x, S i x → inR (g.n + 1) x ∧ g.follow i x.toNat
def FolS (g : Gr) (S : Nat → Int → Prop) (r : List Int) (i : Nat) : Prop :=
  ∀ a x b, r.drop 1 = a ++ x :: b → a.length < i → (∀ t, inR (g.n + 1) t → g.rowF b t.toNat → S x.toNat t) ∧ (g.rowE b → ∀ t, S (lhs r) t → S x.toNat t)

def FlI (h H9 : Heap) (g : Gr) (fv : Value) (fms : List Nat) (fss : List (List Int)) (S : Nat → Int → Prop) (m : Nat) (H : Heap) : Prop :=
  ∃ (os : List Value) (T : Heap) (ms : List Nat) (ss : List (List Int)), H = H9 ++ flX H9.length g fv os ++ T ∧ SetsOk g.n (H9.length + 1) H (flV H9.length g) ms ss m ∧ (∀ j ∈ ms, H9.length + 3 ≤ j) ∧ Viewed h H9 g fv fms fss ∧ S = atS ss ∧ FolOk g S

section
variable {h H9 H : Heap} {g : Gr} {fv : Value} {fms : List Nat} {fss : List (List Int)} {S : Nat → Int → Prop} {m : Nat}
theorem FlI.var (iv : FlI h H9 g fv fms fss S m H) : ldW false 1 H (.pointer (some ⟨H9.length + 2, 0, none⟩)) = some (flV H9.length g) := by
  obtain ⟨os, T, ms, ss, rfl, _⟩ := iv; exact flX_var
theorem FlI.lt (iv : FlI h H9 g fv fms fss S m H) : H9.length + 3 ≤ H.length := by
  obtain ⟨os, T, ms, ss, rfl, _⟩ := iv; rw [List.length_append, flX_len]; omega
/-- A set gets more. -/
theorem FlI.add (iv : FlI h H9 g fv fms fss S m H) (ok : g.ok) {t : Heap} {x : Int} (hx : inR g.n x) {s : List Int} {T : Int → Prop} (hT : ∀ y, y ∈ s ↔ T y) (hsb : ∀ y ∈ s, inI y) (hsl : s.length ≤ 1000000000000)
    (hsnd : ∀ y, T y → inR (g.n + 1) y ∧ g.follow x.toNat y.toNat) :
    ∃ j, H9.length + 3 ≤ j ∧ (∀ K2 : Value → Value → Prop, (∀ q o, q = H9.length + 1 → K2 (.pointer (some ⟨q, o, none⟩)) (.map (some j))) → oW (iaS 1 (flV H9.length g) (.int .i64 x)) fun v => oW (ldW false 1 (H ++ t) v) fun w => K2 v w) ∧
      (∀ (K : Value → Heap → Prop) k, getMap (H ++ t) k = some (encE (setE s)) → (∀ (b : Bool) S' m' H', FlI h H9 g fv fms fss S' m' H' → (∀ i y, S' i y ↔ S i y ∨ i = x.toNat ∧ T y) → m' ≤ m → (b = true → m' < m) → (b = false → S' = S ∧ m' = m) → (∀ q, q < H9.length + 3 → H'[q]? = (H ++ t)[q]?) → K (.bool b) H') →
        acall Try.prog F_sets_set_add [.map (some j), .map (some k)] (H ++ t) K) := by
  obtain ⟨os, T0, ms, ss, rfl, so, hms, vw, rfl, fo⟩ := iv
  have hn := ok.nn
  have hmn := so.mlen
  have hx0 := hx
  unfold inR at hx
  have hx1 : x.toNat < ms.length := by omega
  have hx2 : x.toNat < ss.length := by rw [so.num]; omega
  have sa : SetsOk g.n (H9.length + 1) (H9 ++ flX H9.length g fv os ++ T0 ++ t) (flV H9.length g) ms ss m := ⟨so.at_.app, so.num, so.inn, so.lack⟩
  refine ⟨ms[x.toNat], hms _ (List.getElem_mem hx1), fun K2 hK2 => ?_, fun K k hk hK => ?_⟩
  · exact sa.at_.get (by rw [hmn]; exact hx0) fun q o hq => hK2 q o (by obtain ⟨_, _, _, e⟩ := hq; cases e; rfl)
  · have hl1 := so.le _ (List.getElem_mem hx2)
    have hb2 := so.inn _ (List.getElem_mem hx2)
    refine add_spec (sa.at_.mp _ hx1 hx2) hk (fun t ht => by have := hb2 t ht; omega) hsb (by omega) hsl (so.at_.sn _ (List.getElem_mem hx2)) fun s' h1 h2 => ?_
    obtain ⟨m', so', hm1, hm2, hm3, hsem'⟩ := sa.turn hx1 hx2 (T := T) h1 (fun y => by rw [h2, hT]) (fun y hy => inR_of (hsnd y hy).1)
    have hge := hms _ (List.getElem_mem hx1)
    obtain ⟨T', hT'⟩ := flX_set (H9 := H9) (T := T0 ++ t) (g := g) (fv := fv) (os := os) hge (o := .map (encE (setE s')))
    refine hK _ _ m' _ ⟨os, T', ms, _, by rw [List.append_assoc, hT'], so', hms, vw, rfl, ⟨(hsem' _ _).2 (.inl fo.ini), fun i y hy => ?_⟩⟩ hsem' hm1 (fun q => hm2 (by simpa using q)) (fun q => ?_) fun q hq => by rw [List.getElem?_set_ne (by omega)]
    · rcases (hsem' _ _).1 hy with z | ⟨rfl, z⟩
      · exact fo.snd i y z
      · exact hsnd y z
    · obtain ⟨e1, e2⟩ := hm3 (by simpa using q)
      refine ⟨?_, e1⟩
      funext i y
      refine propext ((hsem' i y).trans ⟨?_, .inl⟩)
      rintro (z | ⟨rfl, z⟩)
      · exact z
      · exact (atS_iff hx2).2 (e2 y z)
end

theorem follow_lt {g : Gr} {i : Nat} {t : Nat} (h : g.follow i t) : t ≤ g.n := h.1
/-- What a rule tells of a symbol of its right side. -/
theorem follow_1 {g : Gr} {r : List Int} (hr : r ∈ g.rules) {a b : List Int} {x : Int} (e : r.drop 1 = a ++ x :: b) {t : Nat} (ht : t ≤ g.n) (h : g.rowF b t) : g.follow x.toNat t :=
  ⟨ht, .mk (ps := []) (.inr ⟨r, hr, a, x, b, e, .inl ⟨h, rfl⟩⟩) (by simp)⟩
theorem follow_2 {g : Gr} {r : List Int} (hr : r ∈ g.rules) {a b : List Int} {x : Int} (e : r.drop 1 = a ++ x :: b) (hb : g.rowE b) {t : Nat} (h : g.follow (lhs r) t) : g.follow x.toNat t :=
  ⟨h.1, .mk (ps := [lhs r]) (.inr ⟨r, hr, a, x, b, e, .inr ⟨hb, rfl⟩⟩) (by simpa using h.2)⟩
theorem follow_all {g : Gr} {S : Nat → Int → Prop} (hi : S g.start.toNat g.n) (hst : ∀ r ∈ g.rules, FolS g S r r.length) {s t : Nat} (h : g.follow s t) : S s t := by
  obtain ⟨ht, hd⟩ := h
  refine hd.least (S := fun s => S s t) fun x ps hc hp => ?_
  rcases hc with ⟨e, hc⟩ | ⟨r, hr, a, y, b, e, hc⟩
  · cases hc; rw [e]; exact hi
  · have hl := congrArg List.length e
    simp at hl
    have := hst r hr a y b e (by omega)
    rcases hc with ⟨h1, hc⟩ | ⟨h1, hc⟩
    · cases hc; exact this.1 t ⟨by omega, by omega⟩ (by simpa using h1)
    · cases hc; exact this.2 h1 t (hp _ (by simp))

/-- The second half of a step: what follows the rule's symbol follows this one. -/
theorem fol_second {h H9 H : Heap} {g : Gr} (ok : g.ok) {fv : Value} {fms : List Nat} {fss : List (List Int)} {S : Nat → Int → Prop} {m : Nat} (iv : FlI h H9 g fv fms fss S m H) {r a b : List Int} {x : Int} (hr : r ∈ g.rules) (e : r.drop 1 = a ++ x :: b) (he : g.rowE b) {i : Nat} (hia : i = a.length) {K : Value → Heap → Prop}
    (k : ∀ (b2 : Bool) S' m' H', FlI h H9 g fv fms fss S' m' H' → (∀ i y, S i y → S' i y) → m' ≤ m → (b2 = true → m' < m) → (b2 = false → S' = S ∧ m' = m ∧ ∀ t, S (lhs r) t → S x.toNat t) → K (.bool b2) H') :
    oW (ldW false 1 H (.pointer (some ⟨H9.length + 2, 0, none⟩))) fun v46 => oW (some (.int .i64 ((i + 1 : Nat) : Int))) fun v47 => oW (iaS 1 (ints r) v47) fun v48 => oW (ldW false 1 H v48) fun v49 => oW (iaS 1 v46 v49) fun v50 => oW (ldW false 1 H v50) fun v51 =>
      oW (ldW false 1 H (.pointer (some ⟨H9.length + 2, 0, none⟩))) fun v52 => oW (iaS 1 (ints r) (.int .i64 0)) fun v53 => oW (ldW false 1 H v53) fun v54 => oW (iaS 1 v52 v54) fun v55 => oW (ldW false 1 H v55) fun v56 =>
      callW Try.prog (fn F_sets_set_add) [v51, v56] H fun v57 h58 => keptW [v55, v53, .pointer (some ⟨H9.length + 2, 0, none⟩), v50, v48, .pointer (some ⟨H9.length + 2, 0, none⟩)] H h58 ∧ K v57 h58 := by
  have fit := ok.fit r hr
  have hlen := congrArg List.length e
  simp at hlen
  have hfl := fit.2.1
  have hx0 : x = r[a.length + 1]'(by omega) := by
    have h1 : (r.drop 1)[a.length]? = some x := by rw [e]; simp
    rw [List.getElem?_drop, show 1 + a.length = a.length + 1 by omega, List.getElem?_eq_getElem (by omega)] at h1
    exact (Option.some.inj h1).symm
  have hxr : inR g.n x := fit.2.2.2 x (by rw [e]; simp)
  subst hia
  rw [iv.var, oW_some, oW_some]
  refine ixK (n := a.length + 1) (by omega) ?_
  rw [← hx0]
  -- the sets of both symbols
  obtain ⟨os, T, ms, ss, hH, so, hms, vw, hS, fo⟩ := id iv
  subst hS
  have hl0 := fit.2.2.1.2
  have hmn := so.mlen
  have hl1 : (r.getD 0 0).toNat < ms.length := by unfold inR at hl0; omega
  have hl2 : (r.getD 0 0).toNat < ss.length := by rw [so.num]; unfold inR at hl0; omega
  have hbl := so.inn _ (List.getElem_mem hl2)
  have hll := so.le _ (List.getElem_mem hl2)
  have hn := ok.nn
  obtain ⟨j, hj, hget, hadd⟩ := iv.add ok (t := []) hxr (s := ss[(r.getD 0 0).toNat]) (T := fun y => atS ss (lhs r) y) (fun y => (atS_iff hl2).symm) (fun y hy => by have := hbl y hy; omega) (by omega) (fun y hy => ⟨(fo.snd _ _ hy).1, follow_2 hr e he (fo.snd _ _ hy).2⟩)
  rw [List.append_nil] at hget hadd
  refine hget _ fun q o hq => ?_
  rw [oW_some]
  refine ix0 fit.1 (so.at_.get (by rw [hmn]; exact hl0) fun q2 o2 hq2 => ?_)
  have hq2' : q2 = H9.length + 1 := by obtain ⟨_, _, _, e⟩ := hq2; cases e; rfl
  refine callW_plain.2 (hadd _ _ (so.at_.mp _ hl1 hl2) fun b2 S' m' H' iv' h1 h2 h3 h4 h5 => ⟨?_, k b2 S' m' H' iv' (fun i y q => (h1 i y).2 (.inl q)) h2 h3 fun q => ⟨(h4 q).1, (h4 q).2, fun t ht => ?_⟩⟩)
  · intro v hv w hw
    have hw' : w < H9.length + 3 := by
      simp only [List.mem_cons, List.not_mem_nil, or_false] at hv
      rcases hv with rfl | rfl | rfl | rfl | rfl | rfl <;> first | (cases hw; omega) | cases hw
    rw [h5 w hw']
  · have : S' = atS ss := (h4 q).1
    rw [← this]
    exact (h1 _ _).2 (.inr ⟨rfl, ht⟩)

theorem exA {a b : Value} : extractA (.tuple #[a, b]) 0 = some a := rfl
theorem exB {a b : Value} : extractA (.tuple #[a, b]) 1 = some b := rfl
def FdI (h H9 : Heap) (g : Gr) (fv : Value) (fms : List Nat) (fss : List (List Int)) (r : List Int) (S0 : Nat → Int → Prop) (m0 : Nat) (k : Nat) (vs : List Value) (H : Heap) : Prop :=
  ∃ (i : Nat) (more : Bool) (S : Nat → Int → Prop) (m : Nat), vs = [ints r, .pointer (some ⟨H9.length, 0, none⟩), .pointer (some ⟨H9.length + 2, 0, none⟩), .bool more, .int .i64 ((r.length - 1 : Nat) : Int), .int .i64 (i : Int)] ∧ FlI h H9 g fv fms fss S m H ∧ k = r.length - 1 - i ∧ i ≤ r.length - 1 ∧
    m ≤ m0 ∧ (more = true → m < m0) ∧ (more = false → S = S0 ∧ m = m0 ∧ FolS g S r i)

theorem followD_spec {h H9 H : Heap} {g : Gr} (ok : g.ok) {fv : Value} {fms : List Nat} {fss : List (List Int)} {S : Nat → Int → Prop} {m : Nat} (iv : FlI h H9 g fv fms fss S m H) {r : List Int} (hr : r ∈ g.rules) {K : Value → Heap → Prop}
    (k : ∀ (b : Bool) S' m' H', FlI h H9 g fv fms fss S' m' H' → (b = true → m' < m) → (b = false → S' = S ∧ m' = m ∧ FolS g S r r.length) → K (.bool b) H') :
    callW Try.prog (.func (.func F_sets_Follow_D1) #[] #[.pointer (some ⟨H9.length, 0, none⟩), .pointer (some ⟨H9.length + 2, 0, none⟩)]) [ints r] H K := by
  have fit := ok.fit r hr
  have hfl := fit.2.1
  have hn := ok.nn
  rw [callW_known]
  apply W_sets_Follow_D1_ok
  unfold W_sets_Follow_D1
  rw [sl1 fit.1, oW_some, lenI, oW_some, List.length_drop]
  refine ⟨FdI h H9 g fv fms fss r S m, r.length - 1, gcL_same ⟨0, false, S, m, rfl, iv, by omega, by omega, Nat.le_refl _, (fun q => by cases q), fun _ => ⟨rfl, rfl, fun a x b _ hl => by omega⟩⟩, ?_⟩
  clear iv
  rintro k2 x7 x8 x9 x10 x11 x12 h13 ⟨i, more, S1, m1, hv, iv, hk, hi, t0, t1, t2⟩
  simp only [List.cons.injEq, and_true] at hv
  obtain ⟨rfl, rfl, rfl, rfl, rfl, rfl⟩ := hv
  rw [n_lss, oW_some, bW_dec]
  constructor
  · intro hlt
    have hlt' : i + 1 < r.length := by omega
    -- the symbol, and what is behind it
    have e : r.drop 1 = (r.drop 1).take i ++ r[i + 1] :: r.drop (i + 2) := by
      conv => lhs; rw [← List.take_append_drop i (r.drop 1)]
      congr 1
      rw [List.drop_drop, show 1 + i = i + 1 by omega]
      exact (List.getElem_cons_drop (h := hlt')).symm
    have hal : ((r.drop 1).take i).length = i := by simp; omega
    generalize ha : (r.drop 1).take i = a at e hal
    generalize hx : r[i + 1] = x at e
    generalize hb : r.drop (i + 2) = b at e
    have hxr : inR g.n x := fit.2.2.2 x (by rw [e]; simp)
    obtain ⟨os, T, ms, ss, hH, so, hms, vw, hS, fo⟩ := id iv
    have vat : ldW true 7 h13 (.pointer (some ⟨H9.length, 0, none⟩)) = some (viewV g g.nullL fv) := by rw [hH]; exact flX_view.ld
    have vw' : Viewed h h13 g fv fms fss := by rw [hH, List.append_assoc]; exact vw.app
    have hlt13 := iv.lt
    rw [vat, oW_some, n_add (by omega), oW_some, show ((i : Int) + 2) = ((i + 2 : Nat) : Int) by omega, sl_ints (by omega), oW_some, hb]
    refine callW_plain.2 (vrow_spec hn vw'.at_ (by unfold Gr.nullL; simp) vw'.num vw'.inn (by rw [← hb]; simp; omega) fun s hs hsb hsem => ?_)
    refine ⟨fun v hv q hq => ?_, ?_⟩
    · rcases List.mem_cons.1 hv with rfl | hv
      · cases hq
      · simp at hv; subst hv; cases hq
        rw [List.getElem?_append_left (by omega)]
    rw [exA, exB, oW_some, oW_some]
    generalize ht : [vrow g g.nullL fv, AObj.map (encE (setE s))] = tt
    have gm : getMap (h13 ++ tt) (h13.length + 1) = some (encE (setE s)) := by rw [← ht, map_app]; rfl
    have hvar : ldW false 1 (h13 ++ tt) (.pointer (some ⟨H9.length + 2, 0, none⟩)) = some (flV H9.length g) := by
      rw [hH, List.append_assoc]; exact flX_var
    rw [hvar, oW_some, n_add (by omega), oW_some, show ((i : Int) + 1) = ((i + 1 : Nat) : Int) by omega]
    refine ixK (n := i + 1) hlt' ?_
    rw [hx]
    have hsem' : ∀ y, y ∈ s ↔ inR (g.n + 1) y ∧ g.rowF b y.toNat := fun y => by rw [hsem, vw'.rowF]
    obtain ⟨j, hj, hget, hadd⟩ := iv.add ok (t := tt) hxr (s := s) (T := fun y => inR (g.n + 1) y ∧ g.rowF b y.toNat) hsem' (fun y hy => by have := hsb y hy; omega) (by have := nodupN_le hs hsb; omega) (fun y hy => ⟨hy.1, follow_1 hr e (by have := inR_of hy.1; omega) hy.2⟩)
    refine hget _ fun q o hq => ?_
    refine callW_plain.2 (hadd _ _ gm fun b1 S2 m2 H2 iv2 h1 h2 h3 h4 h5 => ⟨?_, ?_⟩)
    · intro v hv w hw
      have hw' : w < H9.length + 3 := by
        simp only [List.mem_cons, List.not_mem_nil, or_false] at hv
        rcases hv with rfl | rfl | rfl <;> first | (cases hw; omega) | cases hw
      rw [h5 w hw']
    have he2 : decide (rowES g.n g.nullL b) = true ↔ g.rowE b := by rw [decide_eq_true_eq]; exact rowES_iff
    have next : ∀ (c : Bool) S3 m3 H3, FlI h H9 g fv fms fss S3 m3 H3 → m3 ≤ m → (c = true → m3 < m) → (c = false → S3 = S ∧ m3 = m ∧ FolS g S3 r (i + 1)) →
        oW (some (.int .i64 ((i + 1 : Nat) : Int))) fun v43 => ∃ m5, m5 < k2 ∧ gcL H (FdI h H9 g fv fms fss r S m m5) [ints r, .pointer (some ⟨H9.length, 0, none⟩), .pointer (some ⟨H9.length + 2, 0, none⟩), .bool c, .int .i64 ((r.length - 1 : Nat) : Int), v43] H3 := fun c S3 m3 H3 iv3 q1 q2 q3 => by
      rw [oW_some]
      exact ⟨r.length - 1 - (i + 1), by omega, gcL_same ⟨i + 1, c, S3, m3, rfl, iv3, rfl, by omega, q1, q2, q3⟩⟩
    -- what is settled behind this step
    have settle : ∀ S3 : Nat → Int → Prop, FolS g S3 r i → (∀ t, inR (g.n + 1) t → g.rowF b t.toNat → S3 x.toNat t) → (g.rowE b → ∀ t, S3 (lhs r) t → S3 x.toNat t) → FolS g S3 r (i + 1) := fun S3 q0 q1 q2 a' x' b' e' hl' => by
      by_cases hlt : a'.length < i
      · exact q0 a' x' b' e' hlt
      · have hla : a'.length = a.length := by omega
        rw [e] at e'
        obtain ⟨e1, e2⟩ := List.append_inj e' (by rw [hla])
        cases e2
        exact ⟨q1, q2⟩
    have S2le : ∀ i y, S1 i y → S2 i y := fun i y q => (h1 i y).2 (.inl q)
    have hS2 : ∀ t, inR (g.n + 1) t → g.rowF b t.toNat → S2 x.toNat t := fun t q1 q2 => (h1 _ _).2 (.inr ⟨rfl, q1, q2⟩)
    rw [bW_bool]
    constructor
    · intro hb1
      have hm2 := h3 hb1
      rw [bW_bool]
      constructor
      · intro hE
        have hE' := he2.1 hE
        refine fol_second ok iv2 hr e hE' hal.symm fun b2 S3 m3 H3 iv3 g1 g2 g3 g4 => ?_
        rw [bW_bool]
        exact ⟨fun _ => next true S3 m3 H3 iv3 (by omega) (fun _ => by omega) (fun q => by cases q), fun _ => next true S3 m3 H3 iv3 (by omega) (fun _ => by omega) (fun q => by cases q)⟩
      · intro hE
        exact next true S2 m2 H2 iv2 (by omega) (fun _ => by omega) (fun q => by cases q)
    · intro hb1
      obtain ⟨eS, em⟩ := h4 hb1
      rw [bW_bool]
      constructor
      · intro hE
        have hE' := he2.1 hE
        refine fol_second ok iv2 hr e hE' hal.symm fun b2 S3 m3 H3 iv3 g1 g2 g3 g4 => ?_
        rw [bW_bool]
        constructor
        · intro hb2
          have := g3 hb2
          exact next true S3 m3 H3 iv3 (by omega) (fun _ => by omega) (fun q => by cases q)
        · intro hb2
          obtain ⟨g5, g6, g7⟩ := g4 hb2
          refine next more S3 m3 H3 iv3 (by omega) (fun q => by have := t1 q; omega) fun q => ?_
          obtain ⟨z1, z2, z3⟩ := t2 q
          refine ⟨by rw [g5, eS, z1], by omega, ?_⟩
          rw [g5]
          refine settle S2 (by rw [eS]; exact z3) hS2 fun _ => g7
      · intro hE
        have hE' : ¬ g.rowE b := fun q => by rw [he2.2 q] at hE; cases hE
        refine next more S2 m2 H2 iv2 (by omega) (fun q => by have := t1 q; omega) fun q => ?_
        obtain ⟨z1, z2, z3⟩ := t2 q
        exact ⟨by rw [eS, z1], by omega, settle S2 (by rw [eS]; exact z3) hS2 fun q => absurd q hE'⟩
  · intro hge
    have hil : i = r.length - 1 := by omega
    subst hil
    refine gcV_same (k more S1 m1 h13 iv t1 fun q => ?_)
    obtain ⟨z1, z2, z3⟩ := t2 q
    refine ⟨z1, z2, fun a x b e _ => ?_⟩
    rw [← z1]
    refine z3 a x b e ?_
    have := congrArg List.length e
    simp at this
    omega

theorem fl_set {ms : List Nat} {n j : Nat} (h : ms.length < n) : (ms.map (fun j => Value.map (some j)) ++ List.replicate (n - ms.length) (Value.map none)).set ms.length (.map (some j)) = (ms ++ [j]).map (fun j => Value.map (some j)) ++ List.replicate (n - (ms.length + 1)) (Value.map none) := by
  rw [List.set_append_right _ _ (by simp)]
  simp only [List.length_map, Nat.sub_self]
  obtain ⟨k, hk⟩ : ∃ k, n - ms.length = k + 1 := ⟨n - ms.length - 1, by omega⟩
  rw [hk, show n - (ms.length + 1) = k by omega, List.replicate_succ, List.set_cons_zero, List.map_append, List.append_assoc]; rfl
theorem tot_nil {n : Nat} : tot (List.replicate n []) = 0 := by unfold tot; simp
theorem atS_nil {n i : Nat} {x : Int} : ¬ atS (List.replicate n []) i x := by
  unfold atS
  rw [List.getD_eq_getElem?_getD, List.getElem?_replicate]
  split <;> simp

theorem follow_spec17 {g : Gr} (hf : g.Fin) {h : Heap} {Q : Value → Heap → Prop} (hq : Q (g.resF g.followL) h) : acall Try.prog F_sets_Follow [g.enc] h Q := by
  apply W_sets_Follow_ok
  unfold W_sets_Follow
  rw [box_gr, hW_some, GAt.ld .box, oW_some]
  refine callW_plain.2 (right_spec hf ?_)
  rw [u_not, oW_some, bW_bool]
  refine ⟨fun q => ?_, fun q => ?_⟩
  · have hn : ¬ g.ok := by simpa using q
    unfold Gr.resF at hq
    rw [if_neg hn] at hq
    exact gcV_box .nilS hq
  have ok : g.ok := by simpa using q
  have hn := ok.nn
  have hrr := ok.rr
  unfold Gr.resF at hq
  rw [if_pos ok] at hq
  rw [GAt.ld .box, oW_some]
  refine callW_plain.2 (viewed_spec ok fun fv fms fss t vw => ?_)
  have ga : GAt (h ++ [grow g] ++ t) h.length g := GAt.box.app
  have hfin : ∃ t', h ++ [grow g] ++ t = h ++ t' := ⟨_, List.append_assoc _ _ _⟩
  generalize h ++ [grow g] ++ t = H9 at vw ga hfin
  have hfvk : okCell fv = true := by
    rcases vw.at_.acc with ⟨rfl, _⟩ | ⟨q, cap, c, m, _, rfl, _⟩ <;> rfl
  have est : stW 7 (H9 ++ [zview]) (.pointer (some ⟨H9.length, 0, none⟩)) (viewV g g.nullL fv) = some (H9 ++ [vrow g g.nullL fv]) := by
    rw [stW_agg, row_app0]
    show (some (_, Md.exact)).bind _ = _
    rw [Option.bind_some, if_pos (by simp [hfvk]), set_app0]
    simp
  rw [letH_eq, est, sW_some]
  refine ga.app.names ?_
  rw [lenN, oW_some]
  have L1 : (H9 ++ [vrow g g.nullL fv]).length = H9.length + 1 := by simp
  have hrep : repA [Value.map none] g.names.length = List.replicate g.names.length (.map none) := repA_one _ _
  refine ⟨_, _, by
    simp only [mksW]
    rw [if_pos (by unfold Gr.n at hn; omega)], ?_⟩
  simp only [Int.toNat_natCast]
  rw [hrep, L1, letH_eq]
  have L2 : (H9 ++ [vrow g g.nullL fv] ++ [AObj.row (List.replicate g.names.length (.map none)) .exact]).length = H9.length + 2 := by simp
  rw [L2]
  have est2 : stW 1 (H9 ++ [vrow g g.nullL fv] ++ [AObj.row (List.replicate g.names.length (.map none)) .exact] ++ [AObj.row [.slice none 0 0] .exact]) (.pointer (some ⟨H9.length + 2, 0, none⟩)) (.slice (some ⟨H9.length + 1, 0, none⟩) g.names.length g.names.length) =
      some (H9 ++ flX H9.length g fv (([] : List Nat).map (fun j => Value.map (some j)) ++ List.replicate (g.n - 0) (.map none)) ++ []) := by
    rw [st1 (c := [.slice none 0 0]) (m := .exact) (by rw [← L2, row_app0]; rfl) (by simp) rfl rfl rfl (by simp), ← L2, set_app0]
    simp
  rw [est2, sW_some, flX_var, oW_some, lenS_slice, oW_some]
  refine ⟨fun k vs H => ∃ (T : Heap) (ms : List Nat), vs = [.pointer (some ⟨h.length, 0, none⟩), .pointer (some ⟨H9.length, 0, none⟩), .pointer (some ⟨H9.length + 2, 0, none⟩), .int .i64 (g.n : Int), .int .i64 (ms.length : Int)] ∧
    H = H9 ++ flX H9.length g fv (ms.map (fun j => Value.map (some j)) ++ List.replicate (g.n - ms.length) (.map none)) ++ T ∧ k = g.n - ms.length ∧ ms.length ≤ g.n ∧ ms.Nodup ∧ (∀ j ∈ ms, H9.length + 3 ≤ j) ∧ ∀ j (p : j < ms.length), getMap H ms[j] = some (encE (setE [])),
    g.n, gcL_same ⟨[], [], rfl, rfl, by simp, by simp, .nil, by simp, by simp⟩, ?_⟩
  rintro k x25 x26 x27 x28 x29 h30 ⟨T, ms, hv, rfl, hk, hi, hnd, hge, hmp⟩
  simp only [List.cons.injEq, and_true] at hv
  obtain ⟨rfl, rfl, rfl, rfl, rfl⟩ := hv
  rw [n_lss, oW_some, bW_dec]
  constructor
  · intro hlt
    have hlt' : ms.length < g.n := by omega
    rw [flX_var, oW_some, letH_eq, iaS_slice hlt', oW_some]
    generalize hos : ms.map (fun j => Value.map (some j)) ++ List.replicate (g.n - ms.length) (.map none) = os at *
    have hol : os.length = g.n := by rw [← hos]; simp; omega
    have hHl : H9.length + 3 ≤ (H9 ++ flX H9.length g fv os ++ T).length := by rw [List.length_append, flX_len]; omega
    generalize hid : (H9 ++ flX H9.length g fv os ++ T).length = id at *
    have est3 : stW 1 (H9 ++ flX H9.length g fv os ++ T ++ [.map []]) (.pointer (some ⟨H9.length + 1, 0 + ms.length * 1, none⟩)) (.map (some id)) = some (H9 ++ flX H9.length g fv (os.set ms.length (.map (some id))) ++ (T ++ [.map []])) := by
      rw [List.append_assoc, st1 (c := os) (m := .exact) flX_row (by simp) rfl rfl rfl (by omega)]
      rw [List.append_assoc, set_app]
      simp
    rw [est3, sW_some, n_add (by omega), oW_some]
    refine ⟨g.n - (ms.length + 1), by omega, gcL_same ⟨T ++ [.map []], ms ++ [id], by simp, ?_, by simp, by simp; omega, ?_, fun j hj => ?_, fun j p => ?_⟩⟩
    · rw [← hos, fl_set hlt', List.length_append]; rfl
    · rw [List.nodup_append]
      refine ⟨hnd, by simp, fun a ha b hb e => ?_⟩
      have hb' := List.mem_singleton.1 hb
      obtain ⟨w, hw, rfl⟩ := List.mem_iff_getElem.1 ha
      have := getMap_lt (hmp w hw)
      omega
    · rcases List.mem_append.1 hj with z | z
      · exact hge j z
      · rw [List.mem_singleton.1 z]; exact hHl
    · have up : ∀ q es, H9.length + 3 ≤ q → getMap (H9 ++ flX H9.length g fv os ++ (T ++ [.map []])) q = some es → getMap (H9 ++ flX H9.length g fv (os.set ms.length (.map (some id))) ++ (T ++ [.map []])) q = some es := fun q es hq he => by
        rw [getMap_same (h := H9 ++ flX H9.length g fv os ++ (T ++ [.map []]))]
        · exact he
        · rw [flX_tail hq, flX_tail hq]
      by_cases hj : j < ms.length
      · rw [List.getElem_append_left hj]
        refine up _ _ (hge _ (List.getElem_mem hj)) ?_
        rw [← List.append_assoc]
        exact getMap_app (hmp j hj)
      · have hje : j = ms.length := by simp at p; omega
        subst hje
        rw [List.getElem_append_right (by omega)]
        simp only [Nat.sub_self, List.getElem_singleton]
        refine up _ _ hHl ?_
        rw [← List.append_assoc, ← hid, map_app0]; rfl
  · intro hge2
    have hml : ms.length = g.n := by omega
    have eos : (ms.map fun j => Value.map (some j)) ++ List.replicate (g.n - ms.length) (Value.map none) = ms.map fun j => Value.map (some j) := by rw [hml, Nat.sub_self]; simp
    rw [eos] at hmp ⊢
    have ga2 : GAt (H9 ++ flX H9.length g fv (ms.map fun j => .map (some j)) ++ T) h.length g := ga.app.app
    have hrow : getRow (H9 ++ flX H9.length g fv (ms.map fun j => .map (some j)) ++ T) (H9.length + 1) = some (ms.map fun j => .map (some j), .exact) := flX_row
    have sa : SetsAt (H9.length + 1) (H9 ++ flX H9.length g fv (ms.map fun j => .map (some j)) ++ T) (flV H9.length g) ms (List.replicate g.n []) := by
      refine ⟨.inr ⟨H9.length + 1, g.n, _, .exact, Nat.le_refl _, by simp [hml], hrow, .inr rfl, by simp [hml], by simp [hml], ?_⟩, by simp [hml], hnd, fun j hj => by have := hge j hj; omega, fun i p q => ?_, fun s hs => by rw [List.eq_of_mem_replicate hs]; exact .nil⟩
      · have hfl : (ms.map fun j => Value.map (some j)).flatMap cellsOf = ms.map fun j => Value.map (some j) := flat_one fun e he => by obtain ⟨n, _, rfl⟩ := List.mem_map.1 he; rfl
        rw [hfl, List.take_of_length_le (by simp)]
      · rw [List.getElem_replicate]; exact hmp i p
    have so : SetsOk g.n (H9.length + 1) (H9 ++ flX H9.length g fv (ms.map fun j => .map (some j)) ++ T) (flV H9.length g) ms (List.replicate g.n []) (g.n * (g.n + 1)) :=
      ⟨sa, by simp, fun s hs => by rw [List.eq_of_mem_replicate hs]; simp, by rw [tot_nil]; omega⟩
    rw [flX_var, oW_some]
    refine ga2.start (sa.get (by rw [hml]; exact ok.st.2) fun q o _ => ga2.names ?_)
    rw [lenN, oW_some]
    have hs1 : g.start.toNat < ms.length := by rw [hml]; exact start_lt ok
    rw [up_int (hmp _ hs1), sW_some]
    obtain ⟨m', so', _, _, _, hsem⟩ := so.turn hs1 (by simp; exact start_lt ok) (T := fun x => x = (g.n : Int)) (s' := [(g.n : Int)]) (by simp) (fun x => by simp) (fun x hx => by omega)
    obtain ⟨T', hT'⟩ := flX_set (H9 := H9) (T := T) (g := g) (fv := fv) (os := ms.map fun j => .map (some j)) (hge _ (List.getElem_mem hs1)) (o := .map (encE (setE [(g.n : Int)])))
    rw [hT'] at so'
    rw [show aset (setE []) (g.names.length : Int) (.bool true) = setE [(g.n : Int)] from rfl, hT']
    have ga3 : GAt (H9 ++ flX H9.length g fv (ms.map fun j => .map (some j)) ++ T') h.length g := ga.app.app
    refine ga3.rules ?_
    have hfo : FolOk g (atS ((List.replicate g.n []).set g.start.toNat [(g.n : Int)])) := by
      refine ⟨(hsem _ _).2 (.inr ⟨rfl, rfl⟩), fun i x hx => ?_⟩
      rcases (hsem _ _).1 hx with z | ⟨rfl, rfl⟩
      · exact absurd z atS_nil
      · refine ⟨⟨by omega, by omega⟩, ?_⟩
        rw [Int.toNat_natCast]
        exact ⟨Nat.le_refl _, .mk (ps := []) (.inl ⟨rfl, rfl⟩) (by simp)⟩
    refine callW_plain.2 (untilR_spec (fun S m H => FlI (h ++ [grow g]) H9 g fv fms fss S m H) (fun S r => FolS g S r r.length) (by omega) ⟨_, T', ms, _, rfl, so', hge, vw, rfl, hfo⟩ (fun S m H r hr iv K hK => followD_spec ok iv hr hK) fun S m H ⟨os, T2, ms2, ss, hH, so2, _, _, hS, fo⟩ st => ?_)
    subst hS hH
    rw [flX_var, oW_some]
    refine callW_plain.2 (rising_spec17 so2.at_ (by have := so2.num; omega) (fun s hs => ⟨by have := so2.le s hs; omega, fun x hx => by have := so2.inn s hs x hx; omega⟩) fun rows hr => ?_)
    have e : rows = g.followL := by
      unfold Gr.followL
      have hl := hr.1
      have hn2 := so2.num
      apply List.ext_getElem (by simp; omega)
      intro i h1 h2
      obtain ⟨q1, q2⟩ := hr.2 i h1 (by omega)
      simp only [List.getElem_map, List.getElem_range]
      refine eq_riseL q1 fun x => ?_
      rw [q2, ← atS_iff (by omega)]
      constructor
      · exact fo.snd i x
      · rintro ⟨h3, h4⟩
        have := follow_all fo.ini st h4
        unfold inR at h3
        rwa [Int.toNat_of_nonneg h3.1] at this
    rw [e]
    obtain ⟨t', ht'⟩ := hfin
    rw [ht', List.append_assoc, List.append_assoc]
    exact gcV_box cl_rows hq

end Go.Ax

namespace Go.Ax
open Go Go.Proofs Go.RowKit

def onT (T : List (List Bool)) (s t : Nat) : Prop := onL (T.getD s []) t
instance (T : List (List Bool)) (s t : Nat) : Decidable (onT T s t) := by unfold onT; infer_instance
theorem onT_iff {T : List (List Bool)} {s t : Nat} (h : s < T.length) : onT T s t ↔ onL T[s] t := by unfold onT; rw [List.getD_eq_getElem?_getD, List.getElem?_eq_getElem h]; rfl
theorem onT_lt {T : List (List Bool)} {s t : Nat} (h : onT T s t) : s < T.length := by
  apply Classical.byContradiction
  intro hn
  unfold onT at h
  rw [List.getD_eq_getElem?_getD, List.getElem?_eq_none (by omega)] at h
  have := on_lt h
  simp at this
abbrev rowV (c j : Nat) : Value := .slice (some ⟨j, 0, none⟩) c c

/-- A table of bools: a row of rows, all of one length. -/
structure TabAt (c n0 : Nat) (H : Heap) (v : Value) (ms : List Nat) (T : List (List Bool)) : Prop where
  acc : Acc 1 n0 H v (ms.map (rowV c))
  len : ms.length = T.length
  nd : ms.Nodup
  ge : ∀ j ∈ ms, n0 ≤ j ∧ ¬ lies v j
  row : ∀ i (p : i < ms.length) (q : i < T.length), getRow H ms[i] = some (T[i].map .bool, .exact)
  wid : ∀ r ∈ T, r.length = c
theorem rowV_len {c : Nat} {l : List Nat} : ∀ x ∈ l.map (rowV c), (cellsOf x).length = 1 := fun x hx => by
  obtain ⟨n, _, rfl⟩ := List.mem_map.1 hx; rfl
theorem rowV_flat {c : Nat} {ms : List Nat} : (ms.map (rowV c)).flatMap cellsOf = ms.map (rowV c) := flat_one fun e he => by obtain ⟨n, _, rfl⟩ := List.mem_map.1 he; rfl
theorem TabAt.nil {c n0 : Nat} {H : Heap} : TabAt c n0 H (.slice none 0 0) [] [] := ⟨Acc.nil, rfl, .nil, by simp, by simp, by simp⟩
section
variable {c n0 : Nat} {H : Heap} {v : Value} {ms : List Nat} {T : List (List Bool)} (a : TabAt c n0 H v ms T)
include a
theorem TabAt.app {t : Heap} : TabAt c n0 (H ++ t) v ms T := ⟨a.acc.app, a.len, a.nd, a.ge, fun i p q => getRow_app (a.row i p q), a.wid⟩
theorem TabAt.congr {H' : Heap} (e : ∀ j, n0 ≤ j → j < H.length → H'[j]? = H[j]?) : TabAt c n0 H' v ms T :=
  ⟨a.acc.congr fun j hj => e j (a.acc.ge hj) (a.acc.lt hj), a.len, a.nd, a.ge, fun i p q => by
    have h := a.row i p q
    rw [getRow_same (e _ (a.ge _ (List.getElem_mem p)).1 (getRow_lt h))]; exact h, a.wid⟩
/-- A row is loaded. -/
theorem TabAt.get {x : Int} (hx : inR T.length x) {K : Value → Value → Prop} (k : ∀ p, K p (rowV c (ms[x.toNat]'(by rw [a.len]; unfold inR at hx; omega)))) : oW (iaS 1 v (.int .i64 x)) fun p => oW (ldW false 1 H p) fun w => K p w := by
  unfold inR at hx
  have hl : x.toNat < ms.length := by rw [a.len]; omega
  rcases a.acc with ⟨rfl, e⟩ | ⟨q, cap, cc, m, h1, rfl, h3, h4, h5, h6, h7⟩
  · have := congrArg List.length e; simp at this; subst this; simp at hl
  · rw [iaS_slice' hx.1 (by rw [List.length_map, a.len]; exact hx.2), oW_some]
    refine ⟨rowV c ms[x.toNat], ?_, k _⟩
    rw [ldW_one, h3, Option.bind_some]
    rw [rowV_flat] at h7
    simp only [List.length_map, Nat.mul_one] at h7
    have := get_take h7 hl
    rw [Nat.zero_add, Nat.mul_one, this]
    simp [hl]
/-- A cell is loaded. -/
theorem TabAt.cell {i : Nat} (p : i < ms.length) {t : Int} (ht : inR c t) {K : Value → Prop} (k : K (.bool (decide (onT T i t.toNat)))) : oW (iaS 1 (rowV c ms[i]) (.int .i64 t)) fun q => oW (ldW false 1 H q) K := by
  unfold inR at ht
  have q : i < T.length := by rw [← a.len]; exact p
  have hw := a.wid _ (List.getElem_mem q)
  have hl : t.toNat < T[i].length := by omega
  rw [iaS_slice' ht.1 ht.2, oW_some]
  refine ⟨.bool T[i][t.toNat], by rw [ldW_one, a.row i p q, Option.bind_some, Nat.zero_add, Nat.mul_one, List.getElem?_map, List.getElem?_eq_getElem hl]; rfl, ?_⟩
  have : decide (onT T i t.toNat) = T[i][t.toNat] := by rw [Bool.eq_iff_iff, decide_eq_true_eq, onT_iff q, on_iff hl]
  rwa [this] at k
/-- A cell is stored. -/
theorem TabAt.put {i : Nat} (p : i < ms.length) {t : Int} (ht : inR c t) {b : Bool} {K : Heap → Prop}
    (k : ∀ H' T', TabAt c n0 H' v ms T' → T'.length = T.length → (∀ s u, onT T' s u ↔ if s = i ∧ u = t.toNat then b = true else onT T s u) → (∀ j, j < n0 → H'[j]? = H[j]?) → H'.length = H.length → K H') :
    oW (iaS 1 (rowV c ms[i]) (.int .i64 t)) fun q => sW (stW 1 H q (.bool b)) K := by
  unfold inR at ht
  have q : i < T.length := by rw [← a.len]; exact p
  have hw := a.wid _ (List.getElem_mem q)
  have hl : t.toNat < T[i].length := by omega
  have hr := a.row i p q
  have hge := a.ge _ (List.getElem_mem p)
  rw [iaS_slice' ht.1 ht.2, oW_some, st1 hr (by simp) rfl rfl rfl (by simp; omega), sW_some]
  have hon : ∀ u, onL (T[i].set t.toNat b) u ↔ if u = t.toNat then b = true else onL T[i] u := fun u => by
    unfold onL
    rw [List.getD_eq_getElem?_getD, List.getD_eq_getElem?_getD, List.getElem?_set]
    by_cases e : t.toNat = u
    · subst e; simp [hl]
    · rw [if_neg e, if_neg (Ne.symm e)]
  refine k _ (T.set i (T[i].set t.toNat b)) ⟨a.acc.congr fun j hj => ?_, by simp [a.len], a.nd, a.ge, fun j pj qj => ?_, fun r hr2 => ?_⟩ (by simp) (fun s u => ?_) (fun j hj => ?_) (by simp)
  · rw [List.getElem?_set_ne fun e => hge.2 (by rw [e]; exact hj)]
  · by_cases e : j = i
    · subst e
      rw [List.getElem_set_self, getRow_set hr]
      simp [List.map_set]
    · have qj' : j < T.length := by simpa using qj
      rw [List.getElem_set_ne (Ne.symm e), getRow_same (List.getElem?_set_ne fun z => e ((List.getElem_inj a.nd).1 z).symm)]
      exact a.row j pj qj'
  · rcases List.mem_or_eq_of_mem_set hr2 with z | rfl
    · exact a.wid r z
    · rw [List.length_set]; exact hw
  · by_cases e : s = i
    · subst e
      rw [onT_iff (by simpa using q), List.getElem_set_self, hon, onT_iff q]
      by_cases eu : u = t.toNat <;> simp [eu]
    · unfold onT
      rw [List.getD_eq_getElem?_getD, List.getElem?_set_ne (Ne.symm e), ← List.getD_eq_getElem?_getD]
      simp [e]
  · rw [List.getElem?_set_ne (by omega)]
end
/-- One row more. -/
theorem TabAt.push {c n0 : Nat} {B g : Heap} {v : Value} {ms : List Nat} {T : List (List Bool)} (hB : B.length = n0) (a : TabAt c n0 (B ++ g) v ms T) {j : Nat} {r : List Bool} (hr : getRow (B ++ g) j = some (r.map .bool, .exact)) (hw : r.length = c) (hj : n0 ≤ j) (hnew : j ∉ ms) (hnl : ¬ lies v j) (hbig : T.length ≤ 1000000)
    {K : Value → Heap → Prop} (k : ∀ v' g', TabAt c n0 (B ++ g') v' (ms ++ [j]) (T ++ [r]) → K v' (B ++ g')) :
    hW (bslW (B ++ g) 1 [(.slice none 0 0)] [(0, 1, rowV c j)]) fun v1 h1 => hW (apW 1 24 h1 v v1) K := by
  have hl := a.len
  refine Acc.push hB a.acc (by omega) rowV_len (e := rowV c j) rfl rfl rfl rfl (by simp; omega) (by simp; omega) fun v' g' a2 q1 q2 q3 => k v' g' ?_
  have keep : ∀ q cc, ¬ lies v q → getRow (B ++ g) q = some cc → getRow (B ++ g') q = some cc := fun q cc hq he => by
    rw [getRow_same (q1 q (getRow_lt he) hq)]; exact he
  refine ⟨by rw [List.map_append]; exact a2, by simp [hl], ?_, fun q hq => ?_, fun i p q => ?_, fun x hx => ?_⟩
  · rw [List.nodup_append]
    exact ⟨a.nd, by simp, fun x hx y hy e => hnew (by rw [List.mem_singleton.1 hy] at e; rw [← e]; exact hx)⟩
  · rcases List.mem_append.1 hq with z | z
    · refine ⟨(a.ge q z).1, fun w => ?_⟩
      rcases q2 q w with w | w
      · exact (a.ge q z).2 w
      · obtain ⟨i, hi, rfl⟩ := List.mem_iff_getElem.1 z
        have := getRow_lt (a.row i hi (by rw [← hl]; exact hi))
        omega
    · have := List.mem_singleton.1 z
      subst this
      refine ⟨hj, fun w => ?_⟩
      rcases q2 q w with w | w
      · exact hnl w
      · have := getRow_lt hr
        omega
  · by_cases hi : i < ms.length
    · rw [List.getElem_append_left hi, List.getElem_append_left (by omega)]
      exact keep _ _ (a.ge _ (List.getElem_mem hi)).2 (a.row i hi (by omega))
    · have hie : i = ms.length := by simp at p; omega
      subst hie
      rw [List.getElem_append_right (by omega), List.getElem_append_right (by omega)]
      simp only [hl, Nat.sub_self, List.getElem_singleton]
      exact keep _ _ hnl hr
  · rcases List.mem_append.1 hx with z | z
    · exact a.wid x z
    · rw [List.mem_singleton.1 z]; exact hw
/-- A new row, all false. -/
theorem mks_row {H : Heap} {n : Nat} (hn : n ≤ 1000000) {K : Value → Heap → Prop} (k : K (rowV n H.length) (H ++ [brow (List.replicate n false)])) :
    hW (mksW [.bool false] 1 H (.int .i64 (n : Int)) (.int .i64 (n : Int))) K := by
  have hrep : repA [Value.bool false] n = (List.replicate n false).map fun x => Value.bool x := by rw [repA_one, List.map_replicate]
  refine ⟨_, _, by
    simp only [mksW]
    rw [if_pos (by omega)], ?_⟩
  simp only [Int.toNat_natCast]
  rw [hrep]
  exact k
/-- A table that is frozen with all else. -/
theorem TabAt.gv {c n0 : Nat} {h0 H : Heap} {v : Value} {ms : List Nat} {T : List (List Bool)} (hn : h0.length ≤ n0) (a : TabAt c n0 H v ms T) : Gv (frOf h0.length []) (rOf h0.length []) H (lit (T.map bools)) v := by
  have hl := a.len
  have hge := a.ge
  have hrow := a.row
  have hwid := a.wid
  have hacc := a.acc
  rcases hacc with ⟨rfl, e⟩ | ⟨q, cap, cc, m, h1, rfl, h3, h4, h5, h6, h7⟩
  · have : T = [] := by
      have := congrArg List.length e
      simp at this
      subst this
      exact List.eq_nil_of_length_eq_zero hl.symm
    subst this
    exact .lit0 _ _
  · rw [rowV_flat] at h7
    simp only [List.length_map, Nat.mul_one] at h7 h6 h5 ⊢
    have hfr : ∀ j, n0 ≤ j → frOf h0.length [] j := fun j hj => ⟨by omega, by simp⟩
    have := Gv.frzS (fr := frOf h0.length []) (r := rOf h0.length []) (h := H) (T.map bools).toArray q 0 1 cap cc m (hfr q h1) (getRow_eq h3) (by omega) (fun k p => by simp) (by simp; omega) fun k j p p2 p3 => ?_
    · simpa [hl] using this
    · have hk : k < T.length := by simpa using p
      have hkm : k < ms.length := by omega
      have hj0 : j = 0 := by simp at p2; exact p2
      subst hj0
      have hc : cc[0 + (k * 1 + 0)] = rowV c ms[k] := by
        have h8 := get_take h7 hkm
        rw [List.getElem?_map, List.getElem?_eq_getElem hkm] at h8
        have h9 := List.getElem?_eq_getElem p3
        have e0 : 0 + (k * 1 + 0) = k := by omega
        have h10 : cc[0 + (k * 1 + 0)]? = some (rowV c ms[k]) := by rw [e0]; exact h8
        exact Option.some.inj (h9.symm.trans h10)
      rw [hc]
      have e2 : (cellsOf (T.map bools).toArray[k])[0]'p2 = bools T[k] := by simp
      rw [e2]
      have hw := hwid _ (List.getElem_mem hk)
      exact Gv.frz1 (fr := frOf h0.length []) (r := rOf h0.length []) (h := H) (es := T[k].map .bool) (i := ms[k]) (cap := c) (len := c) (m := .exact) (hfr _ (hge _ (List.getElem_mem hkm)).1) (getRow_eq (hrow k hkm hk)) (by simp [hw]) (fun e he => by obtain ⟨b, _, rfl⟩ := List.mem_map.1 he; exact ⟨rfl, .bool _⟩)
/-- At the end of a call: frozen. -/
theorem TabAt.done {c n0 : Nat} {h0 B g : Heap} {v : Value} {ms : List Nat} {T : List (List Bool)} {Q : Value → Heap → Prop} (hB : B.length = n0) (hB0 : ∃ t, B = h0 ++ t) (a : TabAt c n0 (B ++ g) v ms T) (hq : Q (lit (T.map bools)) h0) : gcV h0 Q v (B ++ g) := by
  obtain ⟨t, rfl⟩ := hB0
  have hn : h0.length ≤ n0 := by rw [← hB]; simp
  have := a.gv hn
  rw [List.append_assoc] at this ⊢
  exact gcV_end this hq
theorem boolsT_len {T : List (List Bool)} : ∀ x ∈ T.map bools, (cellsOf x).length = 1 := fun x hx => by
  obtain ⟨n, _, rfl⟩ := List.mem_map.1 hx; rfl
theorem cl_tab {T : List (List Bool)} : Cl (lit (T.map bools)) := Cl.lit' fun e he x hx => by
  obtain ⟨n, _, rfl⟩ := List.mem_map.1 he
  simp at hx; subst hx; exact cl_bl
/-- A frozen table's row. -/
theorem ix_tab {T : List (List Bool)} {i : Nat} {h : Heap} {K : Value → Prop} (hi : i < T.length) (k : K (bools T[i])) : oW (iaS 1 (lit (T.map bools)) (.int .i64 (i : Int))) fun v => oW (ldW false 1 h v) K :=
  ix_lit hi rfl (by rw [cellsOf_func, ld_plit1, oW_some]; exact k)

/-- The reference's rising. -/
theorem refRising_spec {c : List Bool} {h : Heap} {Q : Value → Heap → Prop} (hc : c.length ≤ 1000000000) (hq : Q (ints (marked c c.length)) h) : acall Try.prog F_homographref17_rising [bools c] h Q := by
  apply W_homographref17_rising_ok
  refine ⟨fun k vs H => ∃ (i : Nat) (v : Value) (g : Heap), vs = [bools c, v, .int .i64 (i : Int)] ∧ H = h ++ g ∧ k = c.length - i ∧ i ≤ c.length ∧ Acc 1 h.length H v ((marked c i).map fun x => .int .i64 x), c.length, gcL_same ⟨0, _, [], rfl, by simp, by omega, by omega, Acc.nil⟩, ?_⟩
  rintro k x5 x6 x7 H ⟨i, v, g, hv, rfl, hk, hi, ac⟩
  simp only [List.cons.injEq, and_true] at hv
  obtain ⟨rfl, rfl, rfl⟩ := hv
  rw [lenB, oW_some, n_lss, oW_some, bW_dec]
  have hml := marked_len c i
  constructor
  · intro hlt
    have hlt' : i < c.length := by omega
    refine ix_bools hlt' ?_
    have hms := marked_succ c i
    have hg : c.getD i false = c[i] := by simp [hlt']
    rw [hg] at hms
    rw [bW_bool]
    constructor
    · intro hp
      refine Acc.push rfl ac (by omega) int_len rfl rfl rfl rfl (by simp; omega) (by simp; omega) fun v' g' a2 _ _ _ => ?_
      rw [n_add (by omega), oW_some]
      exact ⟨c.length - (i + 1), by omega, gcL_same ⟨i + 1, v', g', by simp, rfl, rfl, by omega, by rw [hms, if_pos hp, List.map_append]; exact a2⟩⟩
    · intro hp
      rw [n_add (by omega), oW_some]
      exact ⟨c.length - (i + 1), by omega, gcL_same ⟨i + 1, x6, g, by simp, rfl, rfl, by omega, by rw [hms, if_neg (by simp [hp])]; exact ac⟩⟩
  · intro hge
    have : i = c.length := by omega
    subst this
    exact ac.done rfl ⟨[], by simp⟩ (by omega) int_len int_cl hq
theorem marked_setL {n : Nat} {S : Nat → Prop} : marked (setL n S) n = riseL n S := eq_riseL (marked_sorted _ _) fun x => by
  rw [mem_marked]
  constructor
  · rintro ⟨h1, h2⟩; exact ⟨h1, (setL_on.1 h2).2⟩
  · rintro ⟨h1, h2⟩
    refine ⟨h1, setL_on.2 ⟨?_, h2⟩⟩
    unfold inR at h1; omega

end Go.Ax

namespace Go.Ax
open Go Go.Proofs Go.RowKit

/-- Of one token: a symbol that begins with it makes another one do so. -/
def cs1 (x h : Nat) (l : List Bool) : List Bool := if onL l x then markL l h else l
theorem cs1_grows (x h : Nat) : Grows fun l => cs1 x h l := ⟨fun l => by unfold cs1; split <;> simp, fun l i q => by
  unfold cs1; split
  · exact (mark_grows h).up l i q
  · exact q⟩
theorem cs1_on {x h s : Nat} {l : List Bool} (hh : h < l.length) : onL (cs1 x h l) s ↔ onL l s ∨ s = h ∧ onL l x := by
  unfold cs1
  split
  · rename_i e
    rw [mark_on hh]
    constructor
    · rintro (q | q)
      · exact .inr ⟨q, e⟩
      · exact .inl q
    · rintro (q | q)
      · exact .inr q
      · exact .inl q.1
  · rename_i e
    exact ⟨.inl, fun q => q.elim id fun z => absurd z.2 e⟩
/-- A rule's symbols one by one, as long as all ahead may be nothing. -/
def fstA (nl : List Bool) (h : Nat) (p : Bool × List Bool) (x : Nat) : Bool × List Bool := (p.1 && decide (onL nl x), if p.1 = true then cs1 x h p.2 else p.2)
def colR (nl : List Bool) (h : Nat) (xs : List Nat) (l : List Bool) : Bool × List Bool := xs.foldl (fstA nl h) (true, l)
theorem fstA_len {nl : List Bool} {h : Nat} : ∀ {xs : List Nat} {p : Bool × List Bool}, (xs.foldl (fstA nl h) p).2.length = p.2.length
  | [], _ => rfl
  | x :: xs, p => by
    rw [List.foldl_cons, fstA_len]
    unfold fstA
    dsimp only
    split
    · exact (cs1_grows _ _).len _
    · rfl
theorem fstA_up {nl : List Bool} {h : Nat} : ∀ {xs : List Nat} {p : Bool × List Bool} {i : Nat}, onL p.2 i → onL (xs.foldl (fstA nl h) p).2 i
  | [], _, _, q => q
  | x :: xs, p, i, q => by
    rw [List.foldl_cons]
    refine fstA_up ?_
    unfold fstA
    dsimp only
    split
    · exact (cs1_grows _ _).up _ _ q
    · exact q
theorem fstA_flag {nl : List Bool} {h : Nat} : ∀ {xs : List Nat} {p : Bool × List Bool}, (xs.foldl (fstA nl h) p).1 = (p.1 && xs.all fun x => decide (onL nl x))
  | [], p => by simp
  | x :: xs, p => by
    rw [List.foldl_cons, fstA_flag, List.all_cons, ← Bool.and_assoc]; rfl
theorem fstA_fix {nl : List Bool} {h : Nat} : ∀ {xs : List Nat} {o : Bool} {l : List Bool}, (xs.foldl (fstA nl h) (o, l)).2 = l → ∀ {a : List Nat} {x : Nat} {b : List Nat}, xs = a ++ x :: b → o = true → (∀ y ∈ a, onL nl y) → cs1 x h l = l
  | [], _, _, _, a, x, b, es, _, _ => by simp at es
  | y :: xs, o, l, e, a, x, b, es, ho, ha => by
    rw [List.foldl_cons] at e
    have e0 : (fstA nl h (o, l) y).2 = cs1 y h l := if_pos ho
    have e1 : (fstA nl h (o, l) y).2 = l := by
      refine on_ext ?_ fun i _ => ⟨fun q => by rw [← e]; exact fstA_up q, fun q => ?_⟩
      · rw [e0]; exact (cs1_grows _ _).len _
      · rw [e0]; exact (cs1_grows _ _).up _ _ q
    cases a with
    | nil =>
      cases es
      unfold fstA at e1
      dsimp only at e1
      rwa [if_pos ho] at e1
    | cons z a =>
      cases es
      have e2 : fstA nl h (o, l) y = (o && decide (onL nl y), l) := by
        refine Prod.ext rfl e1
      rw [e2] at e
      exact fstA_fix e rfl (by rw [ho]; simpa using ha y (by simp)) fun w hw => ha w (by simp [hw])
noncomputable def cround (g : Gr) (l : List Bool) : List Bool := g.rules.foldl (fun l r => (colR g.nullL (lhs r) (rhs r) l).2) l
theorem colR_grows (nl : List Bool) (h : Nat) (xs : List Nat) : Grows fun l => (colR nl h xs l).2 := ⟨fun l => fstA_len, fun l i q => fstA_up q⟩
theorem cround_grows (g : Gr) : Grows (cround g) := fold_grows (f := fun l r => (colR g.nullL (lhs r) (rhs r) l).2) (fun r => colR_grows _ _ _) g.rules
theorem colR_snd {g : Gr} (ok : g.ok) {t : Nat} {r : List Int} (hr : r ∈ g.rules) : ∀ {xs a : List Nat} {p : Bool × List Bool}, p.2.length = g.n → rhs r = a ++ xs → (p.1 = true → ∀ y ∈ a, onL g.nullL y) → (∀ i, onL p.2 i → Dl (firstC g t) i) → ∀ i, onL (xs.foldl (fstA g.nullL (lhs r)) p).2 i → Dl (firstC g t) i
  | [], a, p, _, _, _, h => h
  | x :: xs, a, p, hl, e, ho, h => by
    rw [List.foldl_cons]
    refine colR_snd ok hr (a := a ++ [x]) ?_ (by rw [e]; simp) (fun q y hy => ?_) fun i hi => ?_
    · unfold fstA; dsimp only; split
      · rw [(cs1_grows _ _).len, hl]
      · exact hl
    · unfold fstA at q
      simp at q
      rcases List.mem_append.1 hy with z | z
      · exact ho q.1 y z
      · simp at z; subst z; exact q.2
    · unfold fstA at hi
      dsimp only at hi
      split at hi
      · rename_i q
        rw [cs1_on (by rw [hl]; exact lhs_lt ok hr)] at hi
        rcases hi with z | ⟨rfl, z⟩
        · exact h i z
        · refine .mk (ps := [x]) (.inr ⟨r, hr, a, x, xs, e, fun y hy => (setL_on.1 (ho q y hy)).2, rfl⟩) fun p hp => ?_
          simp at hp; subst hp; exact h _ z
      · exact h i hi
theorem cround_dl {g : Gr} (ok : g.ok) {t : Nat} (ht : t < g.n) {k : Nat} (hk : g.n < k) : itr (cround g) k (markL (List.replicate g.n false) t) = setL g.n (Dl (firstC g t)) := by
  have hst : ∀ i, onL (markL (List.replicate g.n false) t) i ↔ i = t := fun i => by
    rw [mark_on (by simpa using ht)]
    exact ⟨fun q => q.elim id fun z => absurd z on_fls, .inl⟩
  refine itr_dl (cround_grows g) (by simp) (fun i q => ?_) (fun l hl q => ?_) (fun l hl q e x ps hc hp => ?_) hk
  · rw [hst] at q; subst q
    exact .mk (ps := []) (.inl rfl) (by simp)
  · have : (cround g l).length = g.n ∧ ∀ i, onL (cround g l) i → Dl (firstC g t) i := by
      refine fold_keep (f := fun l r => (colR g.nullL (lhs r) (rhs r) l).2) (P := fun l => l.length = g.n ∧ ∀ i, onL l i → Dl (firstC g t) i) (fun l ⟨hl, q⟩ r hr => ⟨by rw [(colR_grows _ _ _).len, hl], ?_⟩) ⟨hl, q⟩
      exact colR_snd ok hr (a := []) hl rfl (by simp) q
    exact this.2
  · rcases hc with hc | ⟨r, hr, a, y, b, es, ha, hc⟩
    · cases hc; exact q _ ((hst _).2 rfl)
    · cases hc
      have e1 := fold_fix (f := fun l r => (colR g.nullL (lhs r) (rhs r) l).2) (fun r => colR_grows _ _ _) e r hr
      have hlt : ∀ z ∈ rhs r, z < g.n := fun z hz => rhs_lt ok hr hz
      have e2 := fstA_fix e1 es rfl fun z hz => setL_on.2 ⟨hlt z (by rw [es]; simp [hz]), ha z hz⟩
      rw [← e2, cs1_on (by rw [hl]; exact lhs_lt ok hr)]
      exact .inr ⟨rfl, hp _ (by simp)⟩

/-- A table by its columns. -/
structure TabOf (n tm : Nat) (T : List (List Bool)) (F : Nat → List Bool) : Prop where
  num : T.length = n
  wid : ∀ t, (F t).length = n
  on : ∀ s t, onT T s t ↔ t < tm ∧ onL (F t) s
noncomputable def Gr.firstT (g : Gr) : List (List Bool) := (List.range g.n).map fun s => setL (g.n + 1) (g.first s)
theorem firstT_of {g : Gr} (ok : g.ok) {T : List (List Bool)} {k : Nat} (hk : g.n < k) (hT : TabOf g.n g.terms.toNat T fun t => itr (cround g) k (markL (List.replicate g.n false) t)) (hw : ∀ r ∈ T, r.length = g.n + 1) : T = g.firstT := by
  have h0 := ok.t0
  have h1 := ok.tn
  unfold Gr.firstT
  apply List.ext_getElem (by simp [hT.num])
  intro s p q
  simp only [List.getElem_map, List.getElem_range]
  refine eq_setL (hw _ (List.getElem_mem p)) fun t _ => ?_
  rw [← onT_iff p, hT.on]
  have hs : s < g.n := by rw [← hT.num]; exact p
  constructor
  · rintro ⟨ht, h2⟩
    rw [cround_dl ok (by omega) hk] at h2
    exact ⟨by omega, (setL_on.1 h2).2⟩
  · rintro ⟨ht, h2⟩
    refine ⟨by omega, ?_⟩
    rw [cround_dl ok (by omega) hk]
    exact setL_on.2 ⟨hs, h2⟩

def Fi1 (h : Heap) (g : Gr) (F : Nat → Nat → List Bool) (e : Nat) (k : Nat) (vs : List Value) (H : Heap) : Prop :=
  ∃ (i : Nat) (v : Value) (U : Heap) (ms : List Nat) (T : List (List Bool)), vs = [.pointer (some ⟨h.length, 0, none⟩), bools g.nullL, v, .int .i64 (i : Int)] ∧ H = h ++ [grow g] ++ U ∧ TabAt (g.n + 1) (h.length + 1) H v ms T ∧ TabOf g.n g.terms.toNat T (F i) ∧ k = e - i ∧ i ≤ e
def Fi2 (h : Heap) (g : Gr) (F0 : Nat → List Bool) (i : Nat) (k : Nat) (vs : List Value) (H : Heap) : Prop :=
  ∃ (j : Nat) (v : Value) (U : Heap) (ms : List Nat) (T : List (List Bool)), vs = [.pointer (some ⟨h.length, 0, none⟩), bools g.nullL, v, .int .i64 (i : Int), .int .i64 (j : Int)] ∧ H = h ++ [grow g] ++ U ∧ TabAt (g.n + 1) (h.length + 1) H v ms T ∧
    TabOf g.n g.terms.toNat T (fun t => (g.rules.take j).foldl (fun l r => (colR g.nullL (lhs r) (rhs r) l).2) (F0 t)) ∧ k = g.rules.length - j ∧ j ≤ g.rules.length
def Fi3 (h : Heap) (g : Gr) (F0 : Nat → List Bool) (i j : Nat) (r : List Int) (k : Nat) (vs : List Value) (H : Heap) : Prop :=
  ∃ (q : Nat) (v : Value) (U : Heap) (ms : List Nat) (T : List (List Bool)), vs = [.pointer (some ⟨h.length, 0, none⟩), bools g.nullL, v, .int .i64 (i : Int), .int .i64 (j : Int), ints r, .bool (((rhs r).take (q - 1)).all fun x => decide (onL g.nullL x)), .int .i64 (q : Int)] ∧ H = h ++ [grow g] ++ U ∧
    TabAt (g.n + 1) (h.length + 1) H v ms T ∧ TabOf g.n g.terms.toNat T (fun t => (colR g.nullL (lhs r) ((rhs r).take (q - 1)) (F0 t)).2) ∧ k = r.length - q ∧ 1 ≤ q ∧ q ≤ r.length
def Fi4 (h : Heap) (g : Gr) (F0 : Nat → List Bool) (i j : Nat) (r : List Int) (q x : Nat) (k : Nat) (vs : List Value) (H : Heap) : Prop :=
  ∃ (u : Nat) (v : Value) (U : Heap) (ms : List Nat) (T : List (List Bool)), vs = [.pointer (some ⟨h.length, 0, none⟩), bools g.nullL, v, .int .i64 (i : Int), .int .i64 (j : Int), ints r, .bool (((rhs r).take (q - 1)).all fun x => decide (onL g.nullL x)), .int .i64 (q : Int), .int .i64 (u : Int)] ∧ H = h ++ [grow g] ++ U ∧
    TabAt (g.n + 1) (h.length + 1) H v ms T ∧ TabOf g.n g.terms.toNat T (fun t => if t < u then cs1 x (lhs r) (F0 t) else F0 t) ∧ k = g.terms.toNat - u ∧ u ≤ g.terms.toNat ∧ (0 < u → (((rhs r).take (q - 1)).all fun x => decide (onL g.nullL x)) = true)

theorem firsts_spec {g : Gr} (ok : g.ok) {h : Heap} {Q : Value → Heap → Prop} (hq : Q (lit (g.firstT.map bools)) h) : acall Try.prog F_homographref17_firsts [g.enc] h Q := by
  have hn := ok.nn
  have hrr := ok.rr
  have h0 := ok.t0
  have h1 := ok.tn
  obtain ⟨tm, htm⟩ := Int.eq_ofNat_of_zero_le h0
  have etm : g.terms.toNat = tm := by omega
  have hB : (h ++ [grow g]).length = h.length + 1 := by simp
  have ga : ∀ U, GAt (h ++ [grow g] ++ U) h.length g := fun U => GAt.box.app
  apply W_homographref17_firsts_ok
  unfold W_homographref17_firsts
  rw [box_gr, hW_some, GAt.ld .box, oW_some]
  refine callW_plain.2 (refNullable_spec ok.fin ?_)
  have er : g.res g.nullL = bools g.nullL := by unfold Gr.res; rw [if_pos ok]
  rw [er]
  -- the rows to begin with
  refine ⟨fun k vs H => ∃ (i : Nat) (v : Value) (U : Heap) (ms : List Nat) (T : List (List Bool)), vs = [.pointer (some ⟨h.length, 0, none⟩), bools g.nullL, v, .int .i64 (i : Int)] ∧ H = h ++ [grow g] ++ U ∧ TabAt (g.n + 1) (h.length + 1) H v ms T ∧ T.length = i ∧ (∀ s t, onT T s t ↔ s < i ∧ s = t ∧ s < tm) ∧ k = g.n - i ∧ i ≤ g.n,
    g.n, gcL_same ⟨0, _, [], [], [], rfl, by simp, .nil, rfl, fun s t => ⟨fun q => by have := onT_lt q; simp at this, fun q => by omega⟩, by omega, by omega⟩, ?_⟩
  rintro k x10 x11 x12 x13 h14 ⟨i, v, U, ms, T, hv, rfl, ta, hTl, hon, hk, hi⟩
  simp only [List.cons.injEq, and_true] at hv
  obtain ⟨rfl, rfl, rfl, rfl⟩ := hv
  refine (ga U).names ?_
  rw [lenN, oW_some, n_lss, oW_some, bW_dec]
  constructor
  · intro hlt
    have hlt' : i < g.n := by unfold Gr.n; omega
    refine (ga U).names ?_
    rw [lenN, oW_some, n_add (by unfold Gr.n at hn; omega), oW_some, show ((g.names.length : Int) + 1) = ((g.n + 1 : Nat) : Int) by unfold Gr.n; omega]
    refine mks_row (by omega) ?_
    generalize hid : (h ++ [grow g] ++ U).length = id
    have hge : h.length + 1 ≤ id := by rw [← hid, List.length_append, hB]; omega
    have hnew : ∀ o : AObj, h ++ [grow g] ++ U ++ [o] = h ++ [grow g] ++ (U ++ [o]) := fun o => List.append_assoc _ _ _
    have fin : ∀ r : List Bool, r.length = g.n + 1 → (∀ t, onL r t ↔ i = t ∧ i < tm) →
        hW (bslW (h ++ [grow g] ++ U ++ [brow r]) 1 [(.slice none 0 0)] [(0, 1, rowV (g.n + 1) id)]) fun v35 h36 => hW (apW 1 24 h36 x12 v35) fun v37 h38 => oW (binN .add (.int .i64 (i : Int)) (.int .i64 1)) fun v39 => ∃ m8, m8 < k ∧ gcL h
          ((fun k vs H => ∃ (i : Nat) (v : Value) (U : Heap) (ms : List Nat) (T : List (List Bool)), vs = [.pointer (some ⟨h.length, 0, none⟩), bools g.nullL, v, .int .i64 (i : Int)] ∧ H = h ++ [grow g] ++ U ∧ TabAt (g.n + 1) (h.length + 1) H v ms T ∧ T.length = i ∧ (∀ s t, onT T s t ↔ s < i ∧ s = t ∧ s < tm) ∧ k = g.n - i ∧ i ≤ g.n) m8)
          [.pointer (some ⟨h.length, 0, none⟩), bools g.nullL, v37, v39] h38 := fun r hrl hron => by
      have hgr : getRow (h ++ [grow g] ++ U ++ [brow r]) id = some (r.map .bool, .exact) := by rw [← hid, row_app0]; rfl
      have ta' : TabAt (g.n + 1) (h.length + 1) (h ++ [grow g] ++ U ++ [brow r]) x12 ms T := ta.app
      rw [hnew] at hgr ta' ⊢
      refine TabAt.push hB ta' hgr hrl hge (fun z => ?_) (fun z => ?_) (by omega) fun v' g' ta2 => ?_
      · obtain ⟨w, hw, e⟩ := List.mem_iff_getElem.1 z
        have := getRow_lt (ta.row w hw (by rw [← ta.len]; exact hw))
        omega
      · have := ta.acc.lt z
        omega
      rw [n_add (by omega), oW_some]
      refine ⟨g.n - (i + 1), by omega, gcL_same ⟨i + 1, v', g', ms ++ [id], T ++ [r], by simp, rfl, ta2, by simp [hTl], fun s t => ?_, rfl, by omega⟩⟩
      by_cases hs : s < i
      · have : onT (T ++ [r]) s t ↔ onT T s t := by unfold onT; rw [List.getD_eq_getElem?_getD, List.getElem?_append_left (by omega), ← List.getD_eq_getElem?_getD]
        rw [this, hon]
        constructor <;> rintro ⟨a, b⟩ <;> exact ⟨by omega, b⟩
      · by_cases hse : s = i
        · subst hse
          have : onT (T ++ [r]) s t ↔ onL r t := by unfold onT; rw [List.getD_eq_getElem?_getD, List.getElem?_append_right (by omega), hTl, Nat.sub_self]; rfl
          rw [this, hron]
          constructor
          · rintro ⟨a, b⟩; exact ⟨by omega, a, b⟩
          · rintro ⟨_, a, b⟩; exact ⟨a, b⟩
        · constructor
          · intro q; have := onT_lt q; simp at this; omega
          · intro q; omega
    refine ((ga U).app).terms ?_
    rw [n_lss, oW_some, bW_dec]
    constructor
    · intro ht
      have hgr : getRow (h ++ [grow g] ++ U ++ [brow (List.replicate (g.n + 1) false)]) id = some ((List.replicate (g.n + 1) false).map .bool, .exact) := by rw [← hid, row_app0]; rfl
      have hgl : (h ++ [grow g] ++ U ++ [brow (List.replicate (g.n + 1) false)]).set id (.row ((markL (List.replicate (g.n + 1) false) i).map .bool) .exact) = h ++ [grow g] ++ U ++ [brow (markL (List.replicate (g.n + 1) false) i)] := by rw [← hid, set_app0]; rfl
      rw [iaS_slice (by omega), oW_some, st1 hgr (by simp) rfl rfl rfl (by simp; omega), sW_some, Nat.zero_add, Nat.mul_one, set_brow, hgl]
      refine fin _ (by simp) fun t => ?_
      rw [mark_on (by simp; omega)]
      constructor
      · rintro (q | q)
        · exact ⟨q.symm, by omega⟩
        · exact absurd q on_fls
      · rintro ⟨q, _⟩; exact .inl q.symm
    · intro ht
      refine fin _ (by simp) fun t => ⟨fun q => absurd q on_fls, fun q => by omega⟩
  · intro hge
    have hin : i = g.n := by unfold Gr.n at *; omega
    subst hin
    have tof : TabOf g.n g.terms.toNat T fun t => itr (cround g) 0 (markL (List.replicate g.n false) t) := by
      refine ⟨hTl, fun t => by simp [itr], fun s t => ?_⟩
      rw [hon, etm]
      show _ ↔ t < tm ∧ onL (markL (List.replicate g.n false) t) s
      constructor
      · rintro ⟨a, b, c⟩
        subst b
        exact ⟨c, (mark_on (by simpa using a)).2 (.inl rfl)⟩
      · rintro ⟨a, b⟩
        rw [mark_on (by simp; omega)] at b
        rcases b with b | b
        · exact ⟨by omega, b, by omega⟩
        · exact absurd b on_fls
    refine ⟨Fi1 h g (fun i t => itr (cround g) i (markL (List.replicate g.n false) t)) (g.n + 1), g.n + 1, gcL_same ⟨0, _, U, ms, T, rfl, rfl, ta, tof, by omega, by omega⟩, ?_⟩
    clear ta tof hon hTl
    rintro k x44 x45 x46 x47 h48 ⟨i, v, U, ms, T, hv, rfl, ta, tof, hk, hi⟩
    simp only [List.cons.injEq, and_true] at hv
    obtain ⟨rfl, rfl, rfl, rfl⟩ := hv
    refine (ga U).names ?_
    rw [lenN, oW_some, n_leq, oW_some, bW_dec]
    constructor
    · intro hle
      refine ⟨Fi2 h g (fun t => itr (cround g) i (markL (List.replicate g.n false) t)) i, g.rules.length, gcL_same ⟨0, _, U, ms, T, rfl, rfl, ta, tof, by omega, by omega⟩, ?_⟩
      clear ta tof
      rintro k2 x57 x58 x59 x60 x61 h62 ⟨j, v, U, ms, T, hv, rfl, ta, tof, hk2, hj⟩
      simp only [List.cons.injEq, and_true] at hv
      obtain ⟨rfl, rfl, rfl, rfl, rfl⟩ := hv
      refine (ga U).rules ?_
      rw [lenR, oW_some, n_lss, oW_some, bW_dec]
      constructor
      · intro hlt
        have hlt' : j < g.rules.length := by omega
        have hrm := List.getElem_mem hlt'
        have fit := ok.fit _ hrm
        have hstep : ∀ t, (g.rules.take (j + 1)).foldl (fun l r => (colR g.nullL (lhs r) (rhs r) l).2) (itr (cround g) i (markL (List.replicate g.n false) t)) = (colR g.nullL (lhs g.rules[j]) (rhs g.rules[j]) ((g.rules.take j).foldl (fun l r => (colR g.nullL (lhs r) (rhs r) l).2) (itr (cround g) i (markL (List.replicate g.n false) t)))).2 := fun t => by
          rw [take_succ' hlt', List.foldl_append]; rfl
        generalize hF : (fun t => (g.rules.take j).foldl (fun l r => (colR g.nullL (lhs r) (rhs r) l).2) (itr (cround g) i (markL (List.replicate g.n false) t))) = F0 at tof
        have hF' : ∀ t, (g.rules.take j).foldl (fun l r => (colR g.nullL (lhs r) (rhs r) l).2) (itr (cround g) i (markL (List.replicate g.n false) t)) = F0 t := fun t => congrFun hF t
        refine (ga U).rules (ix_rules hlt' ?_)
        generalize hr : g.rules[j] = r at *
        have hfl := fit.2.1
        have hlh := lhs_lt ok hrm
        refine ⟨Fi3 h g F0 i j r, r.length - 1, gcL_same ⟨1, _, U, ms, T, rfl, rfl, ta, tof, by omega, by omega, by have := fit.1; omega⟩, ?_⟩
        clear ta tof
        rintro k3 x75 x76 x77 x78 x79 x80 x81 x82 h83 ⟨q, v, U, ms, T, hv, rfl, ta, tof, hk3, hq1, hq2⟩
        simp only [List.cons.injEq, and_true] at hv
        obtain ⟨rfl, rfl, rfl, rfl, rfl, rfl, rfl, rfl⟩ := hv
        rw [lenI, oW_some, n_lss, oW_some, bW_dec]
        constructor
        · intro hltq
          have hltq' : q < r.length := by omega
          have hg := rhs_get hq1 hltq'
          have hxd : r[q] ∈ r.drop 1 := by
            rw [List.mem_iff_getElem?]
            exact ⟨q - 1, by rw [List.getElem?_drop, show 1 + (q - 1) = q by omega, List.getElem?_eq_getElem hltq']⟩
          have hxr := fit.2.2.2 _ hxd
          generalize hx : r[q] = x at *
          have hxn : x.toNat < g.n := by unfold inR at hxr; omega
          -- one symbol
          have hcol : ∀ t, (colR g.nullL (lhs r) ((rhs r).take (q + 1 - 1)) (F0 t)).2 = if (((rhs r).take (q - 1)).all fun x => decide (onL g.nullL x)) = true then cs1 x.toNat (lhs r) (colR g.nullL (lhs r) ((rhs r).take (q - 1)) (F0 t)).2 else (colR g.nullL (lhs r) ((rhs r).take (q - 1)) (F0 t)).2 := fun t => by
            rw [hg]
            unfold colR
            rw [List.foldl_append]
            show (fstA g.nullL (lhs r) _ x.toNat).2 = _
            unfold fstA
            dsimp only
            have := fstA_flag (nl := g.nullL) (h := lhs r) (xs := (rhs r).take (q - 1)) (p := (true, F0 t))
            rw [Bool.true_and] at this
            unfold fstA at this
            rw [this]
          have hall : (((rhs r).take (q + 1 - 1)).all fun x => decide (onL g.nullL x)) = ((((rhs r).take (q - 1)).all fun x => decide (onL g.nullL x)) && decide (onL g.nullL x.toNat)) := by rw [hg, List.all_append]; simp
          generalize hF1 : (fun t => (colR g.nullL (lhs r) ((rhs r).take (q - 1)) (F0 t)).2) = F1 at *
          have hF1' : ∀ t, (colR g.nullL (lhs r) ((rhs r).take (q - 1)) (F0 t)).2 = F1 t := fun t => congrFun hF1 t
          simp only [hF1'] at hcol
          refine ⟨Fi4 h g F1 i j r q x.toNat, g.terms.toNat, gcL_same ⟨0, _, U, ms, T, rfl, rfl, ta, by simpa using tof, by omega, by omega, fun z => by omega⟩, ?_⟩
          clear ta tof
          rintro k4 x90 x91 x92 x93 x94 x95 x96 x97 x98 h99 ⟨u, v, U, ms, T, hv, rfl, ta, tof, hk4, hu, hop⟩
          simp only [List.cons.injEq, and_true] at hv
          obtain ⟨rfl, rfl, rfl, rfl, rfl, rfl, rfl, rfl, rfl⟩ := hv
          -- behind the tokens
          have out : ((((rhs r).take (q - 1)).all fun x => decide (onL g.nullL x)) = true → g.terms.toNat ≤ u) →
              (bW (.bool (((rhs r).take (q - 1)).all fun x => decide (onL g.nullL x)))
                (oW (iaS 1 (ints r) (.int .i64 (q : Int))) fun v125 => oW (ldW false 1 (h ++ [grow g] ++ U) v125) fun v126 => oW (iaS 1 (bools g.nullL) v126) fun v127 => oW (ldW false 1 (h ++ [grow g] ++ U) v127) fun v128 => oW (binN .add (.int .i64 (q : Int)) (.int .i64 1)) fun v129 =>
                  ∃ m73, m73 < k3 ∧ gcL h (Fi3 h g F0 i j r m73) [.pointer (some ⟨h.length, 0, none⟩), bools g.nullL, x92, .int .i64 (i : Int), .int .i64 (j : Int), ints r, v128, v129] (h ++ [grow g] ++ U))
                (oW (binN .add (.int .i64 (q : Int)) (.int .i64 1)) fun v130 => ∃ m73, m73 < k3 ∧ gcL h (Fi3 h g F0 i j r m73) [.pointer (some ⟨h.length, 0, none⟩), bools g.nullL, x92, .int .i64 (i : Int), .int .i64 (j : Int), ints r, .bool false, v130] (h ++ [grow g] ++ U))) := fun hdone => by
            have adv : ∀ b : Bool, b = (((rhs r).take (q + 1 - 1)).all fun x => decide (onL g.nullL x)) → oW (binN .add (.int .i64 (q : Int)) (.int .i64 1)) fun v130 => ∃ m73, m73 < k3 ∧ gcL h (Fi3 h g F0 i j r m73) [.pointer (some ⟨h.length, 0, none⟩), bools g.nullL, x92, .int .i64 (i : Int), .int .i64 (j : Int), ints r, .bool b, v130] (h ++ [grow g] ++ U) := fun b hb => by
              rw [n_add (by omega), oW_some]
              refine ⟨r.length - (q + 1), by omega, gcL_same ⟨q + 1, x92, U, ms, T, by rw [hb]; simp, rfl, ta, ⟨tof.num, fun t => ?_, fun s t => ?_⟩, rfl, by omega, by omega⟩⟩
              · show ((colR g.nullL (lhs r) ((rhs r).take (q + 1 - 1)) (F0 t)).2).length = g.n
                rw [hcol t]
                have := tof.wid t
                try dsimp only at this
                split at this <;> split <;> first | exact this | (rw [(cs1_grows _ _).len] at this; exact this) | (rw [(cs1_grows _ _).len]; exact this)
              · rw [tof.on s t]
                show _ ↔ t < g.terms.toNat ∧ onL (colR g.nullL (lhs r) ((rhs r).take (q + 1 - 1)) (F0 t)).2 s
                rw [hcol t]
                by_cases ho : (((rhs r).take (q - 1)).all fun x => decide (onL g.nullL x)) = true
                · have := hdone ho
                  rw [if_pos ho]
                  constructor
                  · rintro ⟨a, b⟩; rw [if_pos (by omega)] at b; exact ⟨a, b⟩
                  · rintro ⟨a, b⟩; rw [if_pos (by omega)]; exact ⟨a, b⟩
                · have hu0 : u = 0 := by
                    apply Classical.byContradiction
                    intro z
                    exact ho (hop (by omega))
                  rw [if_neg ho, hu0]
                  simp
            rw [bW_bool]
            constructor
            · intro ho
              refine ixK hltq' ?_
              rw [hx]
              refine ix_bool (by unfold Gr.nullL; simp) hxr (adv _ ?_)
              rw [hall, ho]; simp
            · intro ho
              exact adv false (by rw [hall, ho]; simp)
          refine (ga U).terms ?_
          rw [htm, n_lss, oW_some, bW_dec]
          constructor
          · intro hlt4
            have hlt4' : u < tm := by omega
            by_cases ho : (((rhs r).take (q - 1)).all fun x => decide (onL g.nullL x)) = true
            · have hls : inR T.length (r.getD 0 0) := by rw [tof.num]; exact fit.2.2.1.2
              have hxs : inR T.length x := by rw [tof.num]; exact hxr
              have hur : inR (g.n + 1) (u : Int) := ⟨by omega, by omega⟩
              have hlm : (r.getD 0 0).toNat < ms.length := by rw [ta.len, tof.num]; exact hlh
              have hxm : x.toNat < ms.length := by rw [ta.len, tof.num]; exact hxn
              rw [ho, bW_true]
              refine ix0 fit.1 (ta.get hls fun p1 => ix0 fit.1 (ta.get hls fun p2 => ta.cell hlm hur ?_))
              rw [Int.toNat_natCast]
              have w1 := tof.wid u
              simp only [Nat.lt_irrefl, if_false] at w1
              have e1 : ∀ s, onT T s u ↔ onL (F1 u) s := fun s => by
                rw [tof.on s u]
                try dsimp only
                rw [if_neg (Nat.lt_irrefl u)]
                exact ⟨fun z => z.2, fun z => ⟨by omega, z⟩⟩
              have store : ∀ b : Bool, (b = true ↔ onL (F1 u) (lhs r) ∨ onL (F1 u) x.toNat) → oW (iaS 1 (rowV (g.n + 1) ms[(r.getD 0 0).toNat]) (.int .i64 (u : Int))) fun v122 => sW (stW 1 (h ++ [grow g] ++ U) v122 (.bool b)) fun h123 => oW (binN .add (.int .i64 (u : Int)) (.int .i64 1)) fun v124 =>
                  ∃ m88, m88 < k4 ∧ gcL h (Fi4 h g F1 i j r q x.toNat m88) [.pointer (some ⟨h.length, 0, none⟩), bools g.nullL, x92, .int .i64 (i : Int), .int .i64 (j : Int), ints r, .bool true, .int .i64 (q : Int), v124] h123 := fun b hb => by
                refine ta.put hlm hur fun H' T' ta' hl' hon' hlow hlen => ?_
                rw [n_add (by omega), oW_some]
                have hH' : ∃ U', H' = h ++ [grow g] ++ U' := by
                  refine ⟨H'.drop (h.length + 1), ?_⟩
                  have : H'.take (h.length + 1) = h ++ [grow g] := by
                    apply List.ext_getElem?
                    intro w
                    rw [List.getElem?_take]
                    split
                    · rename_i hw
                      rw [hlow w hw, List.getElem?_append_left (by rw [hB]; exact hw)]
                    · rw [List.getElem?_eq_none (by rw [hB]; omega)]
                  conv => lhs; rw [← List.take_append_drop (h.length + 1) H', this]
                obtain ⟨U', rfl⟩ := hH'
                refine ⟨g.terms.toNat - (u + 1), by omega, gcL_same ⟨u + 1, x92, U', ms, T', by rw [ho]; simp, rfl, ta', ⟨by rw [hl', tof.num], fun t => ?_, fun s t => ?_⟩, rfl, by omega, fun _ => ho⟩⟩
                · have := tof.wid t
                  try dsimp only at this ⊢
                  split <;> split at this <;> first | exact this | (rw [(cs1_grows _ _).len] at this; exact this) | (rw [(cs1_grows _ _).len]; exact this) | (rw [(cs1_grows _ _).len] at this ⊢; exact this)
                · rw [hon', Int.toNat_natCast]
                  try dsimp only
                  by_cases htu : t = u
                  · subst htu
                    rw [if_pos (show t < t + 1 by omega), cs1_on (by rw [w1]; exact hlh)]
                    by_cases hs : s = (r.getD 0 0).toNat
                    · rw [if_pos ⟨hs, rfl⟩, hb, hs]
                      show onL (F1 t) (lhs r) ∨ onL (F1 t) x.toNat ↔ t < g.terms.toNat ∧ (onL (F1 t) (lhs r) ∨ lhs r = lhs r ∧ onL (F1 t) x.toNat)
                      simp
                      intro _; omega
                    · rw [if_neg (fun z => hs z.1), e1]
                      constructor
                      · intro z; exact ⟨by omega, .inl z⟩
                      · rintro ⟨_, z | z⟩
                        · exact z
                        · exact absurd z.1 hs
                  · rw [if_neg (fun z => htu z.2), tof.on s t]
                    try dsimp only
                    by_cases hlt5 : t < u
                    · rw [if_pos hlt5, if_pos (by omega)]
                    · rw [if_neg hlt5, if_neg (by omega)]
              rw [bW_dec]
              constructor
              · intro hz
                exact store true ⟨fun _ => .inl ((e1 _).1 hz), fun _ => rfl⟩
              · intro hz
                refine ixK hltq' ?_
                rw [hx]
                refine ta.get hxs fun p3 => ta.cell hxm hur ?_
                rw [Int.toNat_natCast]
                refine store _ ?_
                rw [decide_eq_true_eq, e1]
                constructor
                · exact .inr
                · rintro (z | z)
                  · exact absurd ((e1 _).2 z) hz
                  · exact z
            · have ho' := Bool.eq_false_iff.2 ho
              have := out fun z => absurd z ho
              rw [ho'] at this ⊢
              rw [bW_false]
              exact this
          · intro hge4
            rw [bW_false]
            exact out fun _ => by omega
        · intro hgeq
          have hql : q = r.length := by omega
          have htk : (rhs r).take (q - 1) = rhs r := by
            rw [List.take_of_length_le]
            unfold rhs; simp; omega
          rw [htk] at tof
          rw [n_add (by omega), oW_some]
          refine ⟨g.rules.length - (j + 1), by omega, gcL_same ⟨j + 1, x77, U, ms, T, by simp, rfl, ta, ?_, rfl, by omega⟩⟩
          have : (fun t => (g.rules.take (j + 1)).foldl (fun l r => (colR g.nullL (lhs r) (rhs r) l).2) (itr (cround g) i (markL (List.replicate g.n false) t))) = fun t => (colR g.nullL (lhs r) (rhs r) (F0 t)).2 := by
            funext t
            rw [hstep t, hF']
          rw [this]
          exact tof
      · intro hge
        have hjl : j = g.rules.length := by omega
        rw [hjl, List.take_length] at tof
        rw [n_add (by omega), oW_some]
        refine ⟨g.n + 1 - (i + 1), by unfold Gr.n at *; omega, gcL_same ⟨i + 1, x59, U, ms, T, by simp, rfl, ta, ?_, rfl, by unfold Gr.n; omega⟩⟩
        have : (fun t => itr (cround g) (i + 1) (markL (List.replicate g.n false) t)) = fun t => g.rules.foldl (fun l r => (colR g.nullL (lhs r) (rhs r) l).2) (itr (cround g) i (markL (List.replicate g.n false) t)) := by
          funext t
          rw [itr_succ]; rfl
        show TabOf g.n g.terms.toNat T (fun t => itr (cround g) (i + 1) (markL (List.replicate g.n false) t))
        rw [this]
        exact tof
    · intro hgt
      have hie : i = g.n + 1 := by unfold Gr.n at *; omega
      rw [hie] at tof
      have := firstT_of ok (by omega) tof ta.wid
      subst this
      exact ta.done hB ⟨_, rfl⟩ hq

end Go.Ax

namespace Go.Ax
open Go Go.Proofs Go.RowKit

section
variable {H : Heap} {j c : Nat} {l : List Bool} (hr : getRow H j = some (l.map .bool, .exact)) (hl : l.length = c)
include hr hl
theorem row_cell {t : Int} (ht : inR c t) {K : Value → Prop} (k : K (.bool (decide (onL l t.toNat)))) : oW (iaS 1 (rowV c j) (.int .i64 t)) fun q => oW (ldW false 1 H q) K := by
  unfold inR at ht
  have hlt : t.toNat < l.length := by omega
  rw [iaS_slice' ht.1 ht.2, oW_some]
  refine ⟨.bool l[t.toNat], by rw [ldW_one, hr, Option.bind_some, Nat.zero_add, Nat.mul_one, List.getElem?_map, List.getElem?_eq_getElem hlt]; rfl, ?_⟩
  have : decide (onL l t.toNat) = l[t.toNat] := by rw [Bool.eq_iff_iff, decide_eq_true_eq, on_iff hlt]
  rwa [this] at k
theorem row_put {t : Int} (ht : inR c t) {b : Bool} {K : Heap → Prop} (k : K (H.set j (brow (l.set t.toNat b)))) : oW (iaS 1 (rowV c j) (.int .i64 t)) fun q => sW (stW 1 H q (.bool b)) K := by
  unfold inR at ht
  rw [iaS_slice' ht.1 ht.2, oW_some, st1 hr (by simp) rfl rfl rfl (by simp; omega), sW_some]
  rw [Nat.zero_add, Nat.mul_one, ← List.map_set]
  exact k
end
theorem on_set {l : List Bool} {i : Nat} (hi : i < l.length) {b : Bool} {s : Nat} : onL (l.set i b) s ↔ if s = i then b = true else onL l s := by
  unfold onL
  rw [List.getD_eq_getElem?_getD, List.getD_eq_getElem?_getD, List.getElem?_set]
  by_cases e : i = s
  · subst e; simp [hi]
  · rw [if_neg e, if_neg (Ne.symm e)]

theorem firstT_on {g : Gr} {s t : Nat} (hs : s < g.n) : onT g.firstT s t ↔ t < g.n + 1 ∧ g.first s t := by
  have hl : s < g.firstT.length := by unfold Gr.firstT; simpa using hs
  have e : g.firstT[s] = setL (g.n + 1) (g.first s) := by simp [Gr.firstT]
  rw [onT_iff hl, e]
  exact setL_on
theorem firstT_len {g : Gr} : g.firstT.length = g.n := by unfold Gr.firstT; simp
theorem firstT_wid {g : Gr} : ∀ r ∈ g.firstT, r.length = g.n + 1 := fun r hr => by
  unfold Gr.firstT at hr
  obtain ⟨s, _, rfl⟩ := List.mem_map.1 hr
  simp
theorem gv_pair {fr : Nat → Prop} {r : Nat → Option Nat} {h : Heap} {a b a' b' : Value} (h1 : Gv fr r h a a') (h2 : Gv fr r h b b') : Gv fr r h (.tuple #[a, b]) (.tuple #[a', b']) := by
  refine .tuple _ _ (by simp) rfl fun i p q => ?_
  match i, p with
  | 0, _ => exact h1
  | 1, _ => exact h2

/-- The heap of a row under way. -/
abbrev rwH (h : Heap) (g : Gr) (o : List Bool) : Heap := h ++ [grow g, brow o]
def Rw1 (h : Heap) (g : Gr) (l : List Int) (k : Nat) (vs : List Value) (H : Heap) : Prop :=
  ∃ (i : Nat) (o : List Bool), vs = [lit (g.firstT.map bools), bools g.nullL, ints l, .pointer (some ⟨h.length, 0, none⟩), rowV (g.n + 1) (h.length + 1), .int .i64 (i : Int)] ∧ H = rwH h g o ∧ k = l.length - i ∧ i ≤ l.length ∧ o.length = g.n + 1 ∧ g.rowE (l.take i) ∧
    ∀ t, t < g.n + 1 → (g.rowF l t ↔ onL o t ∨ g.rowF (l.drop i) t)
def Rw2 (h : Heap) (g : Gr) (l : List Int) (i x : Nat) (o0 : List Bool) (k : Nat) (vs : List Value) (H : Heap) : Prop :=
  ∃ (u : Nat) (o : List Bool), vs = [lit (g.firstT.map bools), bools g.nullL, ints l, .pointer (some ⟨h.length, 0, none⟩), rowV (g.n + 1) (h.length + 1), .int .i64 (i : Int), .int .i64 (u : Int)] ∧ H = rwH h g o ∧ k = g.terms.toNat - u ∧ u ≤ g.terms.toNat ∧ o.length = g.n + 1 ∧
    ∀ t, onL o t ↔ onL o0 t ∨ t < u ∧ g.first x t

open Classical in
theorem refRow_spec {g : Gr} (ok : g.ok) {l : List Int} (hl : l.length ≤ 1000000000) {h : Heap} {Q : Value → Heap → Prop} (hq : Q (.tuple #[bools (setL (g.n + 1) (g.rowF l)), .bool (decide (g.rowE l))]) h) :
    acall Try.prog F_homographref17_row [g.enc, lit (g.firstT.map bools), bools g.nullL, ints l] h Q := by
  have hn := ok.nn
  have h0 := ok.t0
  have h1 := ok.tn
  obtain ⟨tm, htm⟩ := Int.eq_ofNat_of_zero_le h0
  have etm : g.terms.toNat = tm := by omega
  have ga : ∀ o, GAt (rwH h g o) h.length g := fun o => .at0
  have hrow : ∀ o : List Bool, getRow (rwH h g o) (h.length + 1) = some (o.map .bool, .exact) := fun o => by rw [row_app]; rfl
  have hset : ∀ o o' : List Bool, (rwH h g o).set (h.length + 1) (brow o') = rwH h g o' := fun o o' => by rw [set_app]; rfl
  have done : ∀ (o : List Bool) (b : Bool), o.length = g.n + 1 → (∀ t, t < g.n + 1 → (g.rowF l t ↔ onL o t)) → (b = true ↔ g.rowE l) → gcV h Q (.tuple #[rowV (g.n + 1) (h.length + 1), .bool b]) (rwH h g o) := fun o b ho hs hb => by
    have e1 : o = setL (g.n + 1) (g.rowF l) := eq_setL ho fun t ht => (hs t ht).symm
    have e2 : b = decide (g.rowE l) := by rw [Bool.eq_iff_iff, decide_eq_true_eq]; exact hb
    rw [← e1, ← e2] at hq
    refine gcV_end (gv_pair (Gv.frz1 (i := h.length + 1) (m := .exact) ⟨by omega, by simp⟩ (getRow_eq (hrow o)) (by simp [ho]) (fun e he => by obtain ⟨b, _, rfl⟩ := List.mem_map.1 he; exact ⟨rfl, .bool _⟩)) (.cl (.bool _))) hq
  apply W_homographref17_row_ok
  unfold W_homographref17_row
  rw [box_gr, hW_some]
  refine GAt.names .box ?_
  rw [lenN, oW_some, n_add (by unfold Gr.n at hn; omega), oW_some, show ((g.names.length : Int) + 1) = ((g.n + 1 : Nat) : Int) by unfold Gr.n; omega]
  refine mks_row (by omega) ?_
  have L1 : (h ++ [grow g]).length = h.length + 1 := by simp
  have E1 : ∀ o : List Bool, h ++ [grow g] ++ [brow o] = rwH h g o := fun o => by simp [rwH]
  rw [L1, E1]
  refine ⟨Rw1 h g l, l.length, gcL_same ⟨0, _, rfl, rfl, by omega, by omega, by simp, by simp [Gr.rowE], fun t _ => by simp [on_fls]⟩, ?_⟩
  rintro k x13 x14 x15 x16 x17 x18 h19 ⟨i, o, hv, rfl, hk, hi, hol, hE, hs⟩
  simp only [List.cons.injEq, and_true] at hv
  obtain ⟨rfl, rfl, rfl, rfl, rfl, rfl⟩ := hv
  rw [lenI, oW_some, n_lss, oW_some, bW_dec]
  constructor
  · intro hlt
    have hlt' : i < l.length := by omega
    have hdrop : l.drop i = l[i] :: l.drop (i + 1) := (List.getElem_cons_drop (h := hlt')).symm
    rw [hdrop] at hs
    have hxm := List.getElem_mem hlt'
    have stop : ¬ inR g.n l[i] → gcV h Q (.tuple #[rowV (g.n + 1) (h.length + 1), .bool false]) (rwH h g o) := fun hno => by
      refine done o false hol (fun t ht => ?_) ⟨(fun z => by cases z), fun z => absurd (z _ hxm).1 hno⟩
      rw [hs t ht]
      simp only [Gr.rowF, hno, false_and, or_false]
    refine ix_ints hlt' ?_
    rw [n_lss, oW_some, bW_dec]
    constructor
    · intro hneg
      rw [bW_true]
      exact stop fun z => by unfold inR at z; omega
    · intro hpos
      refine ix_ints hlt' ((ga o).names ?_)
      rw [lenN, oW_some, n_geq, oW_some, bW_dec]
      constructor
      · intro hge
        exact stop fun z => by unfold inR Gr.n at z; omega
      · intro hlt2
        have hin : inR g.n l[i] := by unfold inR Gr.n; omega
        generalize hx : l[i] = x at *
        have hxn : x.toNat < g.n := by unfold inR at hin; omega
        have hcx : ((x.toNat : Nat) : Int) = x := by unfold inR at hin; omega
        refine ⟨Rw2 h g l i x.toNat o, tm, gcL_same ⟨0, o, rfl, rfl, by omega, by omega, hol, fun t => by simp⟩, ?_⟩
        rintro k2 x70 x71 x72 x73 x74 x75 x76 h77 ⟨u, o2, hv, rfl, hk2, hu, ho2, hon⟩
        simp only [List.cons.injEq, and_true] at hv
        obtain ⟨rfl, rfl, rfl, rfl, rfl, rfl, rfl⟩ := hv
        refine (ga o2).terms ?_
        rw [htm, n_lss, oW_some, bW_dec]
        constructor
        · intro hltu
          have hur : inR (g.n + 1) (u : Int) := ⟨by omega, by omega⟩
          have hul : u < o2.length := by omega
          have next : ∀ b : Bool, (b = true ↔ onL o2 u ∨ g.first x.toNat u) → oW (iaS 1 (rowV (g.n + 1) (h.length + 1)) (.int .i64 (u : Int))) fun v83 => sW (stW 1 (rwH h g o2) v83 (.bool b)) fun h84 => oW (binN .add (.int .i64 (u : Int)) (.int .i64 1)) fun v85 =>
              ∃ m68, m68 < k2 ∧ gcL h (Rw2 h g l i x.toNat o m68) [lit (g.firstT.map bools), bools g.nullL, ints l, .pointer (some ⟨h.length, 0, none⟩), rowV (g.n + 1) (h.length + 1), .int .i64 (i : Int), v85] h84 := fun b hb => by
            refine row_put (hrow o2) ho2 hur ?_
            rw [hset, Int.toNat_natCast, n_add (by omega), oW_some]
            refine ⟨g.terms.toNat - (u + 1), by omega, gcL_same ⟨u + 1, _, by simp, rfl, rfl, by omega, by simp [ho2], fun t => ?_⟩⟩
            rw [on_set hul]
            split
            · rename_i e; subst e
              rw [hb, hon]
              constructor
              · rintro ((q | q) | q)
                · exact .inl q
                · exact .inr ⟨by omega, q.2⟩
                · exact .inr ⟨by omega, q⟩
              · rintro (q | q)
                · exact .inl (.inl q)
                · exact .inr q.2
            · rename_i e
              rw [hon]
              constructor
              · rintro (q | q)
                · exact .inl q
                · exact .inr ⟨by omega, q.2⟩
              · rintro (q | q)
                · exact .inl q
                · exact .inr ⟨by omega, q.2⟩
          refine row_cell (hrow o2) ho2 hur ?_
          rw [Int.toNat_natCast, bW_dec]
          constructor
          · intro hp
            exact next true ⟨fun _ => .inl hp, fun _ => rfl⟩
          · intro hp
            refine ix_ints hlt' ?_
            rw [hx, ← hcx]
            have hlT : x.toNat < g.firstT.length := by rw [firstT_len]; exact hxn
            refine ix_tab hlT (ix_bool (firstT_wid _ (List.getElem_mem hlT)) hur (next _ ?_))
            rw [decide_eq_true_eq, Int.toNat_natCast, ← onT_iff hlT, firstT_on hxn]
            constructor
            · intro q; exact .inr q.2
            · rintro (q | q)
              · exact absurd q hp
              · exact ⟨by omega, q⟩
        · intro hgeu
          have hue : u = tm := by omega
          have hon' : ∀ t, t < g.n + 1 → (onL o2 t ↔ onL o t ∨ g.first x.toNat t) := fun t ht => by
            rw [hon]
            constructor
            · rintro (q | q)
              · exact .inl q
              · exact .inr q.2
            · rintro (q | q)
              · exact .inl q
              · exact .inr ⟨by have := q.1; omega, q⟩
          refine ix_ints hlt' ?_
          rw [hx]
          refine ix_bool (by unfold Gr.nullL; simp) hin ?_
          rw [u_not, oW_some, bW_bool]
          constructor
          · intro q
            have hoff : ¬ onL g.nullL x.toNat := by simpa using q
            have hoff' : ¬ g.null x.toNat := fun z => hoff (setL_on.2 ⟨hxn, z⟩)
            refine done o2 false ho2 (fun t ht => ?_) ⟨(fun z => by cases z), fun z => absurd (z _ hxm).2 hoff'⟩
            rw [hs t ht, hon' t ht]
            simp only [Gr.rowF, hin, true_and, hoff', false_and, or_false]
          · intro q
            have hon2 : onL g.nullL x.toNat := by simpa using q
            have hnull := (setL_on.1 hon2).2
            rw [n_add (by omega), oW_some]
            refine ⟨l.length - (i + 1), by omega, gcL_same ⟨i + 1, o2, by simp, rfl, rfl, by omega, ho2, fun y hy => ?_, fun t ht => ?_⟩⟩
            · rw [take_succ' hlt', hx] at hy
              rcases List.mem_append.1 hy with w | w
              · exact hE y w
              · simp at w; subst w; exact ⟨hin, hnull⟩
            · rw [hs t ht, hon' t ht]
              simp only [Gr.rowF, hin, true_and]
              constructor
              · rintro (z | z | z)
                · exact .inl (.inl z)
                · exact .inl (.inr z)
                · exact .inr z.2
              · rintro ((z | z) | z)
                · exact .inl z
                · exact .inr (.inl z)
                · exact .inr (.inr ⟨hnull, z⟩)
  · intro hge
    have hil : i = l.length := by omega
    subst hil
    rw [List.take_length] at hE
    rw [List.drop_length] at hs
    exact done o true hol (fun t ht => by rw [hs t ht]; simp [Gr.rowF]) ⟨fun _ => hE, fun _ => rfl⟩

open Classical in
theorem refRow17_spec {g : Gr} (hf : g.Fin) {l : List Int} (hl : l.length ≤ 1000000000) {h : Heap} {Q : Value → Heap → Prop} (hq : Q (g.resR l) h) : acall Try.prog F_homographref17_Row [g.enc, ints l] h Q := by
  apply W_homographref17_Row_ok
  unfold W_homographref17_Row
  rw [box_gr, hW_some, GAt.ld .box, oW_some]
  refine callW_plain.2 (refRight_spec hf ?_)
  rw [u_not, oW_some, bW_bool]
  refine ⟨fun q => ?_, fun q => ?_⟩
  · have hn : ¬ g.ok := by simpa using q
    unfold Gr.resR at hq
    rw [if_neg hn] at hq
    exact gcV_box (cl_pair .nilS (.bool _)) hq
  have ok : g.ok := by simpa using q
  have hn := ok.nn
  unfold Gr.resR at hq
  rw [if_pos ok] at hq
  have er : g.res g.nullL = bools g.nullL := by unfold Gr.res; rw [if_pos ok]
  rw [GAt.ld .box, oW_some, oW_some, oW_some]
  refine callW_plain.2 (firsts_spec ok ⟨kept_same, callW_plain.2 (refNullable_spec hf ⟨kept_same, ?_⟩)⟩)
  rw [er]
  refine callW_plain.2 (refRow_spec ok hl ⟨kept_same, ?_⟩)
  rw [exA, oW_some, exB, oW_some]
  refine callW_plain.2 (refRising_spec (by simp; omega) ?_)
  rw [setL_len, marked_setL]
  exact gcV_box (cl_pair cl_il (.bool _)) hq

theorem refFirst_spec {g : Gr} (hf : g.Fin) {h : Heap} {Q : Value → Heap → Prop} (hq : Q (g.resF g.firstL) h) : acall Try.prog F_homographref17_First [g.enc] h Q := by
  apply W_homographref17_First_ok
  unfold W_homographref17_First
  rw [box_gr, hW_some, GAt.ld .box, oW_some]
  refine callW_plain.2 (refRight_spec hf ?_)
  rw [u_not, oW_some, bW_bool]
  refine ⟨fun q => ?_, fun q => ?_⟩
  · have hn : ¬ g.ok := by simpa using q
    unfold Gr.resF at hq
    rw [if_neg hn] at hq
    exact gcV_box .nilS hq
  have ok : g.ok := by simpa using q
  have hn := ok.nn
  unfold Gr.resF at hq
  rw [if_pos ok] at hq
  rw [GAt.ld .box, oW_some]
  refine callW_plain.2 (firsts_spec ok ?_)
  have hB : (h ++ [grow g]).length = h.length + 1 := by simp
  have hlT : g.firstT.length = g.n := firstT_len
  have hll : g.firstL.length = g.n := by unfold Gr.firstL; simp
  refine ⟨fun k vs H => ∃ (i : Nat) (v : Value) (U : Heap), vs = [lit (g.firstT.map bools), v, .int .i64 (i : Int)] ∧ H = h ++ [grow g] ++ U ∧ k = g.n - i ∧ i ≤ g.n ∧ Acc 1 (h.length + 1) H v ((g.firstL.take i).map ints), g.n, gcL_same ⟨0, _, [], rfl, by simp, by omega, by omega, Acc.nil⟩, ?_⟩
  rintro k x14 x15 x16 H ⟨i, v, U, hv, rfl, hk, hi, ac⟩
  simp only [List.cons.injEq, and_true] at hv
  obtain ⟨rfl, rfl, rfl⟩ := hv
  rw [lenS_lit, List.length_map, hlT, oW_some, n_lss, oW_some, bW_dec]
  constructor
  · intro hlt
    have hlt' : i < g.firstT.length := by omega
    refine ix_tab hlt' (callW_plain.2 (refRising_spec (by rw [firstT_wid _ (List.getElem_mem hlt')]; omega) ?_))
    have e : marked g.firstT[i] g.firstT[i].length = g.firstL[i]'(by omega) := by
      have e1 : g.firstT[i] = setL (g.n + 1) (g.first i) := by simp [Gr.firstT]
      have e2 : g.firstL[i]'(by omega) = riseL (g.n + 1) (g.first i) := by simp [Gr.firstL]
      rw [e1, e2, setL_len]
      exact marked_setL
    rw [e]
    refine Acc.push hB ac (by omega) ints_len1 (e := ints (g.firstL[i]'(by omega))) rfl rfl rfl rfl (by simp; omega) (by simp; omega) fun v' g' a2 _ _ _ => ?_
    rw [n_add (by omega), oW_some]
    exact ⟨g.n - (i + 1), by omega, gcL_same ⟨i + 1, v', g', by simp, rfl, rfl, by omega, by rw [take_succ' (by omega), List.map_append]; exact a2⟩⟩
  · intro hge
    have hin : i = g.n := by omega
    rw [List.take_of_length_le (by omega)] at ac
    exact ac.done hB ⟨_, rfl⟩ (by omega) ints_len1 ints_cl hq

/-- The rows of a table, rising: as the words have it. -/
def RLoop (x47 x50 : Value) (h52 h : Heap) (Q : Value → Heap → Prop) : Prop :=
(∃ (I211 : Nat → List Value → Heap → Prop) (k212 : Nat), gcL h (I211 k212) [x47, x50, (.slice none 0 0), (.int .i64 0)] h52 ∧
∀ k214 : Nat, ∀ x215 : Value, ∀ x216 : Value, ∀ x217 : Value, ∀ x218 : Value, ∀ h219, I211 k214 [x215, x216, x217, x218] h219 →
(oW (binN .lss x218 x215) fun v220 =>
(bW v220
(oW (iaS 1 x216 x218) fun v221 =>
(oW (ldW false 1 h219 v221) fun v222 =>
(callW Try.prog (fn F_homographref17_rising) [v222] h219 fun v223 h224 =>
(hW (bslW h224 1 [(.slice none 0 0)] [(0, 1, v223)]) fun v225 h226 =>
(hW (apW 1 24 h226 x217 v225) fun v227 h228 =>
(oW (binN .add x218 (.int .i64 1)) fun v229 =>
(∃ m213, m213 < k214 ∧ gcL h (I211 m213) [x215, x216, v227, v229] h228)))))))
(gcV h Q x217 h219))))

theorem rloop_spec {c n0 : Nat} {h U : Heap} {v : Value} {ms : List Nat} {T : List (List Bool)} (hn0 : h.length ≤ n0) (ta : TabAt c n0 (h ++ U) v ms T) (hb : T.length ≤ 1000000) (hc : c ≤ 1000000) {Q : Value → Heap → Prop} (hq : Q (lit ((T.map fun r => marked r r.length).map ints)) h) :
    RLoop (.int .i64 (T.length : Int)) v (h ++ U) h Q := by
  unfold RLoop
  refine ⟨fun k vs H => ∃ (i : Nat) (v : Value) (U : Heap), vs = [.int .i64 (T.length : Int), lit (T.map bools), v, .int .i64 (i : Int)] ∧ H = h ++ U ∧ k = T.length - i ∧ i ≤ T.length ∧ Acc 1 h.length H v (((T.map fun r => marked r r.length).take i).map ints), T.length, ?_, ?_⟩
  · refine gcL_app [] [] .nil [.int .i64 (T.length : Int), lit (T.map bools), .slice none 0 0, .int .i64 0] trivial ⟨.cl (.int _ _), ta.gv hn0, .cl .nilS, .cl (.int _ _), trivial⟩ ⟨0, _, [], rfl, rfl, by omega, by omega, Acc.nil⟩
  rintro k x215 x216 x217 x218 H ⟨i, v, U, hv, rfl, hk, hi, ac⟩
  simp only [List.cons.injEq, and_true] at hv
  obtain ⟨rfl, rfl, rfl, rfl⟩ := hv
  rw [n_lss, oW_some, bW_dec]
  constructor
  · intro hlt
    have hlt' : i < T.length := by omega
    refine ix_tab hlt' (callW_plain.2 (refRising_spec (by rw [ta.wid _ (List.getElem_mem hlt')]; omega) ?_))
    refine Acc.push rfl ac (by omega) ints_len1 (e := ints (marked T[i] T[i].length)) rfl rfl rfl rfl (by simp; omega) (by simp; omega) fun v' g' a2 _ _ _ => ?_
    rw [n_add (by omega), oW_some]
    exact ⟨T.length - (i + 1), by omega, gcL_same ⟨i + 1, v', g', by simp, rfl, rfl, by omega, by rw [take_succ' (by simpa using hlt'), List.map_append, List.getElem_map]; exact a2⟩⟩
  · intro hge
    rw [List.take_of_length_le (by simp; omega)] at ac
    exact ac.done rfl ⟨[], by simp⟩ (by omega) ints_len1 ints_cl hq

end Go.Ax

namespace Go.Ax
open Go Go.Proofs Go.RowKit

open Classical in
/-- Of one token: what a rule tells of the symbol at a place of its right side. -/
noncomputable def pstep (g : Gr) (t : Nat) (r : List Int) (l : List Bool) (q : Nat) : List Bool :=
  if g.rowF (r.drop (q + 2)) t ∨ g.rowE (r.drop (q + 2)) ∧ onL l (lhs r) then markL l ((r.drop 1).getD q 0).toNat else l
theorem pstep_grows (g : Gr) (t : Nat) (r : List Int) (q : Nat) : Grows fun l => pstep g t r l q := ⟨fun l => by unfold pstep; split <;> simp, fun l i z => by
  unfold pstep; split
  · exact (mark_grows _).up l i z
  · exact z⟩
noncomputable def colF (g : Gr) (t : Nat) (r : List Int) (k : Nat) (l : List Bool) : List Bool := (List.range k).foldl (pstep g t r) l
theorem colF_grows (g : Gr) (t : Nat) (r : List Int) (k : Nat) : Grows fun l => colF g t r k l := fold_grows (f := pstep g t r) (pstep_grows g t r) (List.range k)
theorem colF_succ {g : Gr} {t : Nat} {r : List Int} {k : Nat} {l : List Bool} : colF g t r (k + 1) l = pstep g t r (colF g t r k l) k := by
  unfold colF
  rw [List.range_succ, List.foldl_append]; rfl
noncomputable def fround (g : Gr) (t : Nat) (l : List Bool) : List Bool := g.rules.foldl (fun l r => colF g t r (r.length - 1) l) l
theorem fround_grows (g : Gr) (t : Nat) : Grows (fround g t) := fold_grows (f := fun l r => colF g t r (r.length - 1) l) (fun r => colF_grows _ _ _ _) g.rules
def fstart (g : Gr) (t : Nat) : List Bool := if t = g.n then markL (List.replicate g.n false) g.start.toNat else List.replicate g.n false
theorem fstart_len {g : Gr} {t : Nat} : (fstart g t).length = g.n := by unfold fstart; split <;> simp
theorem fstart_on {g : Gr} (ok : g.ok) {t i : Nat} : onL (fstart g t) i ↔ t = g.n ∧ i = g.start.toNat := by
  unfold fstart
  split
  · rename_i e
    rw [mark_on (by simp; exact start_lt ok)]
    constructor
    · rintro (q | q)
      · exact ⟨e, q⟩
      · exact absurd q on_fls
    · intro q; exact .inl q.2
  · rename_i e
    exact ⟨fun q => absurd q on_fls, fun q => absurd q.1 e⟩
theorem drop_parts {r a b : List Int} {x : Int} (e : r.drop 1 = a ++ x :: b) : (r.drop 1).getD a.length 0 = x ∧ r.drop (a.length + 2) = b ∧ a.length < r.length - 1 := by
  refine ⟨by rw [e]; simp, ?_, ?_⟩
  · have : r.drop (a.length + 2) = (r.drop 1).drop (a.length + 1) := by rw [List.drop_drop]; congr 1; omega
    rw [this, e, List.drop_append]
    simp
  · have := congrArg List.length e
    simp at this; omega
theorem parts_drop {r : List Int} {q : Nat} (h : q < r.length - 1) : r.drop 1 = (r.drop 1).take q ++ (r.drop 1).getD q 0 :: r.drop (q + 2) := by
  have h1 : q < (r.drop 1).length := by simp; omega
  conv => lhs; rw [← List.take_append_drop q (r.drop 1), ← List.getElem_cons_drop (h := h1)]
  rw [List.drop_drop, show 1 + (q + 1) = q + 2 by omega, List.getD_eq_getElem?_getD, List.getElem?_eq_getElem h1]; rfl
theorem pstep_snd {g : Gr} (ok : g.ok) {t : Nat} (ht : t ≤ g.n) {r : List Int} (hr : r ∈ g.rules) {q : Nat} (hq : q < r.length - 1) {l : List Bool} (hl : l.length = g.n) (snd : ∀ i, onL l i → Dl (followC g t) i) : ∀ i, onL (pstep g t r l q) i → Dl (followC g t) i := fun i hi => by
  have e := parts_drop hq
  have fit := ok.fit r hr
  have hx : inR g.n ((r.drop 1).getD q 0) := fit.2.2.2 _ (by
    have h1 : q < (r.drop 1).length := by simp; omega
    rw [List.getD_eq_getElem?_getD, List.getElem?_eq_getElem h1]
    exact List.getElem_mem h1)
  unfold pstep at hi
  split at hi
  · rename_i hc
    rw [mark_on (by rw [hl]; unfold inR at hx; omega)] at hi
    rcases hi with rfl | hi
    · rcases hc with hc | ⟨hc, h2⟩
      · exact .mk (ps := []) (.inr ⟨r, hr, _, _, _, e, .inl ⟨hc, rfl⟩⟩) (by simp)
      · exact .mk (ps := [lhs r]) (.inr ⟨r, hr, _, _, _, e, .inr ⟨hc, rfl⟩⟩) fun p hp => by simp at hp; subst hp; exact snd _ h2
    · exact snd i hi
  · exact snd i hi
theorem fround_snd {g : Gr} (ok : g.ok) {t : Nat} (ht : t ≤ g.n) {l : List Bool} (hl : l.length = g.n) (snd : ∀ i, onL l i → Dl (followC g t) i) : ∀ i, onL (fround g t l) i → Dl (followC g t) i := by
  have : (fround g t l).length = g.n ∧ ∀ i, onL (fround g t l) i → Dl (followC g t) i := by
    refine fold_keep (f := fun l r => colF g t r (r.length - 1) l) (P := fun l => l.length = g.n ∧ ∀ i, onL l i → Dl (followC g t) i) (fun l ⟨hl, q⟩ r hr => ?_) ⟨hl, snd⟩
    exact fold_keep (f := pstep g t r) (P := fun l => l.length = g.n ∧ ∀ i, onL l i → Dl (followC g t) i) (fun l ⟨hl, q⟩ j hj => ⟨by rw [(pstep_grows g t r j).len, hl], pstep_snd ok ht hr (List.mem_range.1 hj) hl q⟩) ⟨hl, q⟩
  exact this.2
/-- What no round adds to is all that follows. -/
theorem fround_fix {g : Gr} (ok : g.ok) {t : Nat} {l : List Bool} (hl : l.length = g.n) (hst : ∀ i, onL (fstart g t) i → onL l i) (snd : ∀ i, onL l i → Dl (followC g t) i) (fix : fround g t l = l) : l = setL g.n (Dl (followC g t)) :=
  dl_eq hl snd fun y ps hc hp => by
    rcases hc with ⟨e, hc⟩ | ⟨r, hr, a, x, b, e, hc⟩
    · cases hc; exact hst _ ((fstart_on ok).2 ⟨e, rfl⟩)
    · have e1 := fold_fix (f := fun l r => colF g t r (r.length - 1) l) (fun r => colF_grows _ _ _ _) fix r hr
      obtain ⟨p1, p2, p3⟩ := drop_parts e
      have e2 := fold_fix (f := pstep g t r) (pstep_grows g t r) e1 a.length (List.mem_range.2 p3)
      have hxr := (ok.fit r hr).2.2.2 x (by rw [e]; simp)
      have hlt : x.toNat < l.length := by unfold inR at hxr; rw [hl]; omega
      unfold pstep at e2
      rw [p1, p2] at e2
      rcases hc with ⟨h1, hc⟩ | ⟨h1, hc⟩
      · cases hc
        rw [if_pos (.inl h1)] at e2
        rw [← e2]
        exact (mark_on hlt).2 (.inl rfl)
      · cases hc
        rw [if_pos (.inr ⟨h1, hp _ (by simp)⟩)] at e2
        rw [← e2]
        exact (mark_on hlt).2 (.inl rfl)
theorem itr_follow {g : Gr} (ok : g.ok) {t : Nat} (ht : t ≤ g.n) {k : Nat} (fix : fround g t (itr (fround g t) k (fstart g t)) = itr (fround g t) k (fstart g t)) : itr (fround g t) k (fstart g t) = setL g.n (Dl (followC g t)) := by
  have hg := fround_grows g t
  have : (itr (fround g t) k (fstart g t)).length = g.n ∧ ∀ i, onL (itr (fround g t) k (fstart g t)) i → Dl (followC g t) i :=
    itr_keep (P := fun l => l.length = g.n ∧ ∀ i, onL l i → Dl (followC g t) i) (fun x ⟨q1, q2⟩ => ⟨by rw [hg.len, q1], fround_snd ok ht q1 q2⟩) ⟨fstart_len, fun i q => by
      obtain ⟨e1, e2⟩ := (fstart_on ok).1 q
      subst e2
      exact .mk (ps := []) (.inl ⟨e1, rfl⟩) (by simp)⟩
  exact fround_fix ok this.1 (fun i q => itr_up hg q) this.2 fix
theorem followT_of {g : Gr} (ok : g.ok) {T : List (List Bool)} {F : Nat → List Bool} (hT : TabOf g.n (g.n + 1) T F) (hw : ∀ r ∈ T, r.length = g.n + 1) (hF : ∀ t, t ≤ g.n → F t = setL g.n (Dl (followC g t))) : (T.map fun r => marked r r.length) = g.followL := by
  unfold Gr.followL
  apply List.ext_getElem (by simp [hT.num])
  intro s p q
  have ps : s < T.length := by simpa using p
  simp only [List.getElem_map, List.getElem_range]
  have : T[s] = setL (g.n + 1) (g.follow s) := eq_setL (hw _ (List.getElem_mem ps)) fun t ht => by
    rw [← onT_iff ps, hT.on]
    have hs : s < g.n := by rw [← hT.num]; exact ps
    rw [hF t (by omega)]
    unfold Gr.follow
    constructor
    · rintro ⟨_, h2⟩; exact ⟨by omega, (setL_on.1 h2).2⟩
    · rintro ⟨_, h2⟩; exact ⟨ht, setL_on.2 ⟨hs, h2⟩⟩
  rw [this, setL_len, marked_setL]

noncomputable abbrev foV (h : Heap) (g : Gr) (v : Value) : List Value := [.pointer (some ⟨h.length, 0, none⟩), .int .i64 (g.n : Int), lit (g.firstT.map bools), bools g.nullL, v]
def Fo1 (h : Heap) (g : Gr) (k : Nat) (vs : List Value) (H : Heap) : Prop :=
  ∃ (i : Nat) (v : Value) (U : Heap) (ms : List Nat) (T : List (List Bool)), vs = foV h g v ++ [.int .i64 (i : Int)] ∧ H = h ++ [grow g] ++ U ∧ TabAt (g.n + 1) (h.length + 1) H v ms T ∧ TabOf g.n (g.n + 1) T (fun t => itr (fround g t) i (fstart g t)) ∧ k = g.n * g.n + 1 - i ∧ i ≤ g.n * g.n + 1
def Fo2 (h : Heap) (g : Gr) (F0 : Nat → List Bool) (i : Nat) (k : Nat) (vs : List Value) (H : Heap) : Prop :=
  ∃ (j : Nat) (more : Bool) (v : Value) (U : Heap) (ms : List Nat) (T : List (List Bool)) (F : Nat → List Bool), vs = foV h g v ++ [.int .i64 (i : Int), .bool more, .int .i64 (j : Int)] ∧ H = h ++ [grow g] ++ U ∧ TabAt (g.n + 1) (h.length + 1) H v ms T ∧ TabOf g.n (g.n + 1) T F ∧
    (∀ t, F t = (g.rules.take j).foldl (fun l r => colF g t r (r.length - 1) l) (F0 t)) ∧ (more = false → ∀ t, t ≤ g.n → F t = F0 t) ∧ k = g.rules.length - j ∧ j ≤ g.rules.length
def Fo3 (h : Heap) (g : Gr) (F0 F1 : Nat → List Bool) (i j : Nat) (r : List Int) (k : Nat) (vs : List Value) (H : Heap) : Prop :=
  ∃ (q : Nat) (more : Bool) (v : Value) (U : Heap) (ms : List Nat) (T : List (List Bool)) (F : Nat → List Bool), vs = foV h g v ++ [.int .i64 (i : Int), .bool more, .int .i64 (j : Int), ints r, .int .i64 (q : Int)] ∧ H = h ++ [grow g] ++ U ∧ TabAt (g.n + 1) (h.length + 1) H v ms T ∧ TabOf g.n (g.n + 1) T F ∧
    (∀ t, F t = colF g t r (q - 1) (F1 t)) ∧ (more = false → ∀ t, t ≤ g.n → F t = F0 t) ∧ k = r.length - q ∧ 1 ≤ q ∧ q ≤ r.length
open Classical in
def Fo4 (h : Heap) (g : Gr) (F0 F2 : Nat → List Bool) (i j : Nat) (r : List Int) (q : Nat) (k : Nat) (vs : List Value) (H : Heap) : Prop :=
  ∃ (u : Nat) (more : Bool) (v : Value) (U : Heap) (ms : List Nat) (T : List (List Bool)), vs = foV h g v ++ [.int .i64 (i : Int), .bool more, .int .i64 (j : Int), ints r, .int .i64 (q : Int), bools (setL (g.n + 1) (g.rowF (r.drop (q + 1)))), .bool (decide (g.rowE (r.drop (q + 1)))), .int .i64 (u : Int)] ∧ H = h ++ [grow g] ++ U ∧
    TabAt (g.n + 1) (h.length + 1) H v ms T ∧ TabOf g.n (g.n + 1) T (fun t => if t < u then pstep g t r (F2 t) (q - 1) else F2 t) ∧ (more = false → ∀ t, t ≤ g.n → (if t < u then pstep g t r (F2 t) (q - 1) else F2 t) = F0 t) ∧ k = g.n + 1 - u ∧ u ≤ g.n + 1

theorem low_app {h H' : Heap} {o : AObj} {H : Heap} (hH : ∃ U, H = h ++ [o] ++ U) (hlow : ∀ w, w < h.length + 1 → H'[w]? = H[w]?) : ∃ U', H' = h ++ [o] ++ U' := by
  obtain ⟨U, rfl⟩ := hH
  refine ⟨H'.drop (h.length + 1), ?_⟩
  have : H'.take (h.length + 1) = h ++ [o] := by
    apply List.ext_getElem?
    intro w
    rw [List.getElem?_take]
    split
    · rename_i hw
      rw [hlow w hw, List.getElem?_append_left (by simp; omega)]
    · rw [List.getElem?_eq_none (by simp; omega)]
  conv => lhs; rw [← List.take_append_drop (h.length + 1) H', this]

open Classical in
theorem refFollow_spec {g : Gr} (hf : g.Fin) {h : Heap} {Q : Value → Heap → Prop} (hq : Q (g.resF g.followL) h) : acall Try.prog F_homographref17_Follow [g.enc] h Q := by
  apply W_homographref17_Follow_ok
  unfold W_homographref17_Follow
  rw [box_gr, hW_some, GAt.ld .box, oW_some]
  refine callW_plain.2 (refRight_spec hf ?_)
  rw [u_not, oW_some, bW_bool]
  refine ⟨fun q => ?_, fun q => ?_⟩
  · have hn : ¬ g.ok := by simpa using q
    unfold Gr.resF at hq
    rw [if_neg hn] at hq
    exact gcV_box .nilS hq
  have ok : g.ok := by simpa using q
  have hn := ok.nn
  have hrr := ok.rr
  have hsr := ok.st.2
  unfold Gr.resF at hq
  rw [if_pos ok] at hq
  have er : g.res g.nullL = bools g.nullL := by unfold Gr.res; rw [if_pos ok]
  have hB : (h ++ [grow g]).length = h.length + 1 := by simp
  have ga : ∀ U, GAt (h ++ [grow g] ++ U) h.length g := fun U => GAt.box.app
  refine GAt.names .box ?_
  rw [lenN, oW_some, GAt.ld .box, oW_some]
  refine callW_plain.2 (firsts_spec ok ?_)
  rw [GAt.ld .box, oW_some]
  refine callW_plain.2 (refNullable_spec hf ?_)
  rw [er]
  -- the rows to begin with
  refine ⟨fun k vs H => ∃ (i : Nat) (v : Value) (U : Heap) (ms : List Nat) (T : List (List Bool)), vs = foV h g v ++ [.int .i64 (i : Int)] ∧ H = h ++ [grow g] ++ U ∧ TabAt (g.n + 1) (h.length + 1) H v ms T ∧ T = List.replicate i (List.replicate (g.n + 1) false) ∧ k = g.n - i ∧ i ≤ g.n,
    g.n, gcL_same ⟨0, _, [], [], [], rfl, by simp, .nil, rfl, by omega, by omega⟩, ?_⟩
  rintro k x20 x21 x22 x23 x24 x25 h26 ⟨i, v, U, ms, T, hv, rfl, ta, rfl, hk, hi⟩
  simp only [foV, List.cons_append, List.nil_append, List.cons.injEq, and_true] at hv
  obtain ⟨rfl, rfl, rfl, rfl, rfl, rfl⟩ := hv
  have addn : binN .add (.int .i64 (g.n : Int)) (.int .i64 1) = some (.int .i64 ((g.n + 1 : Nat) : Int)) := by rw [n_add (by omega)]; congr 2
  rw [n_lss, oW_some, bW_dec]
  constructor
  · intro hlt
    rw [addn, oW_some]
    refine mks_row (by omega) ?_
    generalize hid : (h ++ [grow g] ++ U).length = id
    have hge : h.length + 1 ≤ id := by rw [← hid, List.length_append, hB]; omega
    have hgr : getRow (h ++ [grow g] ++ U ++ [brow (List.replicate (g.n + 1) false)]) id = some ((List.replicate (g.n + 1) false).map .bool, .exact) := by rw [← hid, row_app0]; rfl
    have ta' : TabAt (g.n + 1) (h.length + 1) (h ++ [grow g] ++ U ++ [brow (List.replicate (g.n + 1) false)]) x24 ms (List.replicate i (List.replicate (g.n + 1) false)) := ta.app
    rw [List.append_assoc (h ++ [grow g])] at hgr ta' ⊢
    refine TabAt.push hB ta' hgr (by simp) hge (fun z => ?_) (fun z => ?_) (by simp; omega) fun v' g' ta2 => ?_
    · obtain ⟨w, hw, e⟩ := List.mem_iff_getElem.1 z
      have := getRow_lt (ta.row w hw (by rw [← ta.len]; exact hw))
      omega
    · have := ta.acc.lt z
      omega
    rw [n_add (by omega), oW_some]
    exact ⟨g.n - (i + 1), by omega, gcL_same ⟨i + 1, v', g', _, _, by simp, rfl, ta2, List.replicate_succ'.symm, rfl, by omega⟩⟩
  · intro hge
    have hin : i = g.n := by omega
    subst hin
    have hml : ms.length = g.n := by rw [ta.len]; simp
    refine (ga U).start (ta.get (by simpa using hsr) fun p1 => ?_)
    have hsl : g.start.toNat < ms.length := by rw [hml]; exact start_lt ok
    refine ta.put (p := hsl) (t := (g.n : Int)) ⟨by omega, by omega⟩ fun H' T' ta' hl' hon hlow hlen => ?_
    obtain ⟨U', rfl⟩ := low_app ⟨U, rfl⟩ hlow
    have tof : TabOf g.n (g.n + 1) T' fun t => itr (fround g t) 0 (fstart g t) := by
      refine ⟨by rw [hl']; simp, fun t => fstart_len, fun s t => ?_⟩
      rw [hon, Int.toNat_natCast]
      show _ ↔ t < g.n + 1 ∧ onL (fstart g t) s
      rw [fstart_on ok]
      have hno : ¬ onT (List.replicate g.n (List.replicate (g.n + 1) false)) s t := by
        unfold onT
        rw [List.getD_eq_getElem?_getD, List.getElem?_replicate]
        split
        · exact on_fls
        · simp [onL]
      split
      · rename_i e; simp [e]
      · rename_i e
        constructor
        · intro z; exact absurd z hno
        · rintro ⟨_, z1, z2⟩; exact absurd ⟨z2, z1⟩ e
    refine ⟨Fo1 h g, g.n * g.n + 1, gcL_same ⟨0, x24, U', ms, T', rfl, rfl, ta', tof, by omega, by omega⟩, ?_⟩
    clear ta ta' tof hon hlow hlen hl' p1 hml hsl
    rintro k x46 x47 x48 x49 x50 x51 h52 ⟨i, v, U, ms, T, hv, rfl, ta, tof, hk, hi⟩
    simp only [foV, List.cons_append, List.nil_append, List.cons.injEq, and_true] at hv
    obtain ⟨rfl, rfl, rfl, rfl, rfl, rfl⟩ := hv
    have hnn : g.n * g.n ≤ 128 * 128 := Nat.mul_le_mul hn hn
    have emul : binN .mul (.int .i64 (g.n : Int)) (.int .i64 (g.n : Int)) = some (.int .i64 ((g.n * g.n : Nat) : Int)) := by
      have : (g.n : Int) * (g.n : Int) = ((g.n * g.n : Nat) : Int) := by simp
      rw [n_mul (by rw [this]; omega), this]
    have fin : ∀ {v : Value} {U : Heap} {ms : List Nat} {T : List (List Bool)} {F : Nat → List Bool}, TabAt (g.n + 1) (h.length + 1) (h ++ [grow g] ++ U) v ms T → TabOf g.n (g.n + 1) T F → (∀ t, t ≤ g.n → F t = setL g.n (Dl (followC g t))) → RLoop (.int .i64 (g.n : Int)) v (h ++ [grow g] ++ U) h Q := fun {v U ms T F} ta tof hF => by
      have e := followT_of ok tof ta.wid hF
      have := rloop_spec (n0 := h.length + 1) (h := h) (U := [grow g] ++ U) (by omega) (by rw [← List.append_assoc]; exact ta) (by rw [tof.num]; omega) (by omega) (Q := Q) (by rw [e]; exact hq)
      rw [tof.num, ← List.append_assoc] at this
      exact this
    rw [emul, oW_some, n_leq, oW_some, bW_dec]
    constructor
    · intro hle
      refine ⟨Fo2 h g (fun t => itr (fround g t) i (fstart g t)) i, g.rules.length, gcL_same ⟨0, false, _, U, ms, T, _, rfl, rfl, ta, tof, fun t => rfl, fun _ _ _ => rfl, by omega, by omega⟩, ?_⟩
      clear ta tof
      rintro k2 x59 x60 x61 x62 x63 x64 x65 x66 h67 ⟨j, more, v, U, ms, T, F, hv, rfl, ta, tof, hF, hmr, hk2, hj⟩
      simp only [foV, List.cons_append, List.nil_append, List.cons.injEq, and_true] at hv
      obtain ⟨rfl, rfl, rfl, rfl, rfl, rfl, rfl, rfl⟩ := hv
      refine (ga U).rules ?_
      rw [lenR, oW_some, n_lss, oW_some, bW_dec]
      constructor
      · intro hlt
        have hlt' : j < g.rules.length := by omega
        have hrm := List.getElem_mem hlt'
        have fit := ok.fit _ hrm
        have hstep : ∀ F' : Nat → List Bool, (∀ t, F' t = colF g t g.rules[j] (g.rules[j].length - 1) (F t)) → ∀ t, F' t = (g.rules.take (j + 1)).foldl (fun l r => colF g t r (r.length - 1) l) (itr (fround g t) i (fstart g t)) := fun F' h' t => by
          rw [h' t, hF t, take_succ' hlt', List.foldl_append]; rfl
        refine (ga U).rules (ix_rules hlt' ?_)
        generalize hr : g.rules[j] = r at *
        have hfl := fit.2.1
        refine ⟨Fo3 h g (fun t => itr (fround g t) i (fstart g t)) F i j r, r.length - 1, gcL_same ⟨1, more, _, U, ms, T, F, rfl, rfl, ta, tof, fun t => rfl, hmr, by omega, by omega, by have := fit.1; omega⟩, ?_⟩
        clear ta hmr
        rintro k3 x80 x81 x82 x83 x84 x85 x86 x87 x88 x89 h90 ⟨q, more, v, U, ms, T, F2, hv, rfl, ta, tof2, hF2, hmr, hk3, hq1, hq2⟩
        simp only [foV, List.cons_append, List.nil_append, List.cons.injEq, and_true] at hv
        obtain ⟨rfl, rfl, rfl, rfl, rfl, rfl, rfl, rfl, rfl, rfl⟩ := hv
        rw [lenI, oW_some, n_lss, oW_some, bW_dec]
        constructor
        · intro hltq
          have hltq' : q < r.length := by omega
          rw [(ga U).ld, oW_some, n_add (by omega), oW_some, show ((q : Int) + 1) = ((q + 1 : Nat) : Int) by omega, sl_ints (by omega), oW_some]
          refine callW_plain.2 (refRow_spec ok (by simp; omega) ⟨kept_same, ?_⟩)
          rw [exA, oW_some, exB, oW_some]
          have hxd : r[q] ∈ r.drop 1 := by
            rw [List.mem_iff_getElem?]
            exact ⟨q - 1, by rw [List.getElem?_drop, show 1 + (q - 1) = q by omega, List.getElem?_eq_getElem hltq']⟩
          have hxr := fit.2.2.2 _ hxd
          have hgx : (r.drop 1).getD (q - 1) 0 = r[q] := by
            rw [List.getD_eq_getElem?_getD, List.getElem?_drop, show 1 + (q - 1) = q by omega, List.getElem?_eq_getElem hltq']; rfl
          have hbe : r.drop (q - 1 + 2) = r.drop (q + 1) := by congr 1; omega
          have hps : ∀ t l, pstep g t r l (q - 1) = if g.rowF (r.drop (q + 1)) t ∨ g.rowE (r.drop (q + 1)) ∧ onL l (lhs r) then markL l r[q].toNat else l := fun t l => by unfold pstep; rw [hbe, hgx]
          generalize hx : r[q] = x at *
          generalize hb : r.drop (q + 1) = b at *
          have hxn : x.toNat < g.n := by unfold inR at hxr; omega
          have hlh := lhs_lt ok hrm
          refine ⟨Fo4 h g (fun t => itr (fround g t) i (fstart g t)) F2 i j r q, g.n + 1, gcL_same ⟨0, more, _, U, ms, T, by rw [hb]; rfl, rfl, ta, by simpa using tof2, by simpa using hmr, by omega, by omega⟩, ?_⟩
          clear ta hmr
          rintro k4 x104 x105 x106 x107 x108 x109 x110 x111 x112 x113 x114 x115 x116 h117 ⟨u, more, v, U, ms, T, hv, rfl, ta, tof, hmr, hk4, hu⟩
          simp only [foV, List.cons_append, List.nil_append, List.cons.injEq, and_true] at hv
          obtain ⟨rfl, rfl, rfl, rfl, rfl, rfl, rfl, rfl, rfl, rfl, rfl, rfl, rfl⟩ := hv
          rw [hb]
          rw [n_leq, oW_some, bW_dec]
          constructor
          · intro hleu
            have hu' : u ≤ g.n := by omega
            have hur : inR (g.n + 1) (u : Int) := ⟨by omega, by omega⟩
            have hml : ms.length = g.n := by rw [ta.len, tof.num]
            have hxs : inR T.length x := by rw [tof.num]; exact hxr
            have hls : inR T.length (r.getD 0 0) := by rw [tof.num]; exact fit.2.2.1.2
            have hlm : (r.getD 0 0).toNat < ms.length := by rw [hml]; exact hlh
            have hxm : x.toNat < ms.length := by rw [hml]; exact hxn
            have w2 := tof2.wid u
            have e1 : ∀ s, onT T s u ↔ onL (F2 u) s := fun s => by
              rw [tof.on s u]
              try dsimp only
              rw [if_neg (Nat.lt_irrefl u)]
              exact ⟨fun z => z.2, fun z => ⟨by omega, z⟩⟩
            have wid' : ∀ t u', (if t < u' then pstep g t r (F2 t) (q - 1) else F2 t).length = g.n := fun t u' => by
              split
              · rw [(pstep_grows g t r (q - 1)).len]; exact tof2.wid t
              · exact tof2.wid t
            -- nothing is new
            have same : pstep g u r (F2 u) (q - 1) = F2 u → oW (binN .add (.int .i64 (u : Int)) (.int .i64 1)) fun v135 => ∃ m102, m102 < k4 ∧ gcL h (Fo4 h g (fun t => itr (fround g t) i (fstart g t)) F2 i j r q m102) [.pointer (some ⟨h.length, 0, none⟩), .int .i64 (g.n : Int), lit (g.firstT.map bools), bools g.nullL, x108, .int .i64 (i : Int), .bool more, .int .i64 (j : Int), ints r, .int .i64 (q : Int), bools (setL (g.n + 1) (g.rowF b)), .bool (decide (g.rowE b)), v135] (h ++ [grow g] ++ U) := fun he => by
              have eF : (fun t => if t < u + 1 then pstep g t r (F2 t) (q - 1) else F2 t) = fun t => if t < u then pstep g t r (F2 t) (q - 1) else F2 t := by
                funext t
                by_cases htu : t = u
                · subst htu; simp [he]
                · by_cases hlt5 : t < u
                  · rw [if_pos (by omega), if_pos hlt5]
                  · rw [if_neg (by omega), if_neg hlt5]
              rw [n_add (by omega), oW_some]
              refine ⟨g.n + 1 - (u + 1), by omega, gcL_same ⟨u + 1, more, x108, U, ms, T, by rw [hb]; simp, rfl, ta, by rw [eF]; exact tof, fun hm t ht => ?_, rfl, by omega⟩⟩
              have := congrFun eF t
              try dsimp only at this
              rw [this]
              exact hmr hm t ht
            -- it holds
            have hold : (g.rowF b u ∨ g.rowE b ∧ onL (F2 u) (lhs r)) →
                (oW (iaS 1 (ints r) (.int .i64 (q : Int))) fun v121 => oW (ldW false 1 (h ++ [grow g] ++ U) v121) fun v122 => oW (iaS 1 x108 v122) fun v123 => oW (ldW false 1 (h ++ [grow g] ++ U) v123) fun v124 => oW (iaS 1 v124 (.int .i64 (u : Int))) fun v125 => oW (ldW false 1 (h ++ [grow g] ++ U) v125) fun v126 => oW (unA .not v126) fun v127 =>
                  bW v127 (oW (iaS 1 (ints r) (.int .i64 (q : Int))) fun v128 => oW (ldW false 1 (h ++ [grow g] ++ U) v128) fun v129 => oW (iaS 1 x108 v129) fun v130 => oW (ldW false 1 (h ++ [grow g] ++ U) v130) fun v131 => oW (iaS 1 v131 (.int .i64 (u : Int))) fun v132 => sW (stW 1 (h ++ [grow g] ++ U) v132 (.bool true)) fun h133 => oW (binN .add (.int .i64 (u : Int)) (.int .i64 1)) fun v134 =>
                      ∃ m102, m102 < k4 ∧ gcL h (Fo4 h g (fun t => itr (fround g t) i (fstart g t)) F2 i j r q m102) [.pointer (some ⟨h.length, 0, none⟩), .int .i64 (g.n : Int), lit (g.firstT.map bools), bools g.nullL, x108, .int .i64 (i : Int), .bool true, .int .i64 (j : Int), ints r, .int .i64 (q : Int), bools (setL (g.n + 1) (g.rowF b)), .bool (decide (g.rowE b)), v134] h133)
                    (oW (binN .add (.int .i64 (u : Int)) (.int .i64 1)) fun v135 => ∃ m102, m102 < k4 ∧ gcL h (Fo4 h g (fun t => itr (fround g t) i (fstart g t)) F2 i j r q m102) [.pointer (some ⟨h.length, 0, none⟩), .int .i64 (g.n : Int), lit (g.firstT.map bools), bools g.nullL, x108, .int .i64 (i : Int), .bool more, .int .i64 (j : Int), ints r, .int .i64 (q : Int), bools (setL (g.n + 1) (g.rowF b)), .bool (decide (g.rowE b)), v135] (h ++ [grow g] ++ U))) := fun hc => by
              have hpe : pstep g u r (F2 u) (q - 1) = markL (F2 u) x.toNat := by rw [hps, if_pos hc]
              refine ixK hltq' ?_
              rw [hx]
              refine ta.get hxs fun p1 => ta.cell hxm hur ?_
              rw [Int.toNat_natCast, u_not, oW_some, bW_bool]
              constructor
              · intro z
                have hoff : ¬ onL (F2 u) x.toNat := by rw [← e1]; simpa using z
                refine ixK hltq' ?_
                rw [hx]
                refine ta.get hxs fun p2 => ta.put hxm hur fun H' T' ta' hl' hon hlow hlen => ?_
                obtain ⟨U', rfl⟩ := low_app ⟨U, rfl⟩ hlow
                rw [n_add (by omega), oW_some]
                refine ⟨g.n + 1 - (u + 1), by omega, gcL_same ⟨u + 1, true, x108, U', ms, T', by rw [hb]; simp, rfl, ta', ⟨by rw [hl', tof.num], fun t => wid' t _, fun s t => ?_⟩, (fun w => by cases w), rfl, by omega⟩⟩
                rw [hon, Int.toNat_natCast]
                try dsimp only
                by_cases htu : t = u
                · subst htu
                  rw [if_pos (show t < t + 1 by omega), hpe, mark_on (by rw [w2]; exact hxn)]
                  by_cases hs : s = x.toNat
                  · simp [hs]; omega
                  · rw [if_neg (fun w => hs w.1), e1]
                    constructor
                    · intro w; exact ⟨by omega, .inr w⟩
                    · rintro ⟨_, w | w⟩
                      · exact absurd w hs
                      · exact w
                · rw [if_neg (fun w => htu w.2), tof.on s t]
                  try dsimp only
                  by_cases hlt5 : t < u
                  · rw [if_pos hlt5, if_pos (by omega)]
                  · rw [if_neg hlt5, if_neg (by omega)]
              · intro z
                have hon2 : onL (F2 u) x.toNat := by rw [← e1]; simpa using z
                exact same (by rw [hpe, mark_same hon2])
            refine ix_bool (n := g.n + 1) (by simp) hur ?_
            rw [Int.toNat_natCast, bW_dec, setL_on]
            constructor
            · intro z
              exact hold (.inl z.2)
            · intro z
              have z' : ¬ g.rowF b u := fun w => z ⟨by omega, w⟩
              rw [bW_dec]
              constructor
              · intro hE
                refine ix0 fit.1 (ta.get hls fun p1 => ta.cell hlm hur ?_)
                rw [Int.toNat_natCast, bW_dec, e1]
                constructor
                · intro w
                  exact hold (.inr ⟨hE, w⟩)
                · intro w
                  rw [bW_false]
                  exact same (by rw [hps, if_neg]; rintro (y | y); exact z' y; exact w y.2)
              · intro hE
                rw [bW_false, bW_false]
                exact same (by rw [hps, if_neg]; rintro (y | y); exact z' y; exact hE y.1)
          · intro hgu
            have hue : u = g.n + 1 := by omega
            rw [n_add (by omega), oW_some]
            refine ⟨r.length - (q + 1), by omega, gcL_same ⟨q + 1, more, x108, U, ms, T, fun t => colF g t r (q + 1 - 1) (F t), by simp, rfl, ta, ⟨tof.num, fun t => ?_, fun s t => ?_⟩, fun t => rfl, fun hm t ht => ?_, rfl, by omega, by omega⟩⟩
            · show (colF g t r (q + 1 - 1) (F t)).length = g.n
              rw [show q + 1 - 1 = (q - 1) + 1 by omega, colF_succ, (pstep_grows g t r (q - 1)).len, ← hF2 t]
              exact tof2.wid t
            · rw [tof.on s t, hue]
              show _ ↔ t < g.n + 1 ∧ onL (colF g t r (q + 1 - 1) (F t)) s
              rw [show q + 1 - 1 = (q - 1) + 1 by omega, colF_succ, ← hF2 t]
              constructor
              · rintro ⟨w1, w2⟩; rw [if_pos w1] at w2; exact ⟨w1, w2⟩
              · rintro ⟨w1, w2⟩; rw [if_pos w1]; exact ⟨w1, w2⟩
            · have := hmr hm t ht
              rw [if_pos (by omega)] at this
              show colF g t r (q + 1 - 1) (F t) = _
              rw [show q + 1 - 1 = (q - 1) + 1 by omega, colF_succ, ← hF2 t]
              exact this
        · intro hgeq
          have hql : q = r.length := by omega
          rw [hql] at hF2
          rw [n_add (by omega), oW_some]
          exact ⟨g.rules.length - (j + 1), by omega, gcL_same ⟨j + 1, more, x84, U, ms, T, F2, by simp, rfl, ta, tof2, hstep F2 hF2, hmr, rfl, by omega⟩⟩
      · intro hge
        have hjl : j = g.rules.length := by omega
        have hFr : ∀ t, F t = fround g t (itr (fround g t) i (fstart g t)) := fun t => by rw [hF t, hjl, List.take_length]; rfl
        rw [u_not, oW_some, bW_bool]
        constructor
        · intro hm
          have hm' : more = false := by simpa using hm
          refine fin ta tof fun t ht => ?_
          have e := hmr hm' t ht
          rw [e]
          refine itr_follow ok ht ?_
          rw [← hFr t, e]
        · intro hm
          rw [n_add (by omega), oW_some]
          refine ⟨g.n * g.n + 1 - (i + 1), by omega, gcL_same ⟨i + 1, x63, U, ms, T, by simp, rfl, ta, ?_, rfl, by omega⟩⟩
          have : F = fun t => itr (fround g t) (i + 1) (fstart g t) := by funext t; rw [hFr t, itr_succ]
          rw [this] at tof
          exact tof
    · intro hgt
      have hie : i = g.n * g.n + 1 := by omega
      subst hie
      refine fin ta tof fun t ht => itr_follow ok ht (itr_stop (fround_grows g t) ?_)
      rw [fstart_len]
      have : g.n ≤ g.n * g.n := Nat.le_mul_self g.n
      omega

end Go.Ax

