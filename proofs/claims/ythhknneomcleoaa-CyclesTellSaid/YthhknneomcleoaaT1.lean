/- Contracts of the machines' closure and steps, as abstract calls. -/
import Derived.Test.YthhknneomcleoaaC2
import Derived.Test.YthhknneomcleoaaW1
import Derived.Test.YthhknneomcleoaaC3
import Derived.Test.YthhknneomcleoaaLay
namespace Go.Ax
open Go Go.Proofs Go.RowKit

/-- homographref06.has, and all of its kind. -/
theorem has_spec {l : List Int} {n : Int} {h : Heap} {Q : Value → Heap → Prop} (hl : l.length ≤ 1000000000) (hq : Q (.bool (decide (n ∈ l))) h) :
    acall Try.prog F_homographref06_has [ints l, .int .i64 n] h Q := by
  apply W_homographref06_has_ok
  refine ⟨fun k vs g => ∃ i : Nat, vs = [ints l, .int .i64 n, .int .i64 (i : Int)] ∧ g = h ∧ k = l.length - i ∧ i ≤ l.length ∧ ∀ j (p : j < l.length), j < i → l[j] ≠ n, l.length, gcL_same ⟨0, by simp⟩, ?_⟩
  rintro k x5 x6 x7 g ⟨i, hv, rfl, hk, hi, hno⟩
  simp only [List.cons.injEq, and_true] at hv
  obtain ⟨rfl, rfl, rfl⟩ := hv
  simp
  rw [bW_dec]
  constructor
  · intro hlt
    have hlt' : i < l.length := by omega
    refine ix_ints hlt' ?_
    simp
    rw [bW_dec]
    constructor
    · intro e
      refine gcV_same ?_
      have : decide (n ∈ l) = true := by rw [← e]; simp
      rwa [this] at hq
    · intro e
      rw [n_add (by omega)]
      simp
      refine ⟨l.length - (i + 1), by omega, gcL_same ⟨i + 1, by simp, rfl, rfl, by omega, fun j p q => ?_⟩⟩
      by_cases c : j = i
      · subst c; exact e
      · exact hno j p (by omega)
  · intro hge
    refine gcV_same ?_
    have : decide (n ∈ l) = false := by
      rw [decide_eq_false_iff_not]
      intro hm
      obtain ⟨j, p, e⟩ := List.mem_iff_getElem.1 hm
      exact hno j p (by omega) e
    rwa [this] at hq

/-- A set of bytes. -/
structure BS where
  a : BitVec 64
  b : BitVec 64
  c : BitVec 64
  d : BitVec 64
  deriving DecidableEq
def BS.get (s : BS) : Nat → BitVec 64
  | 0 => s.a
  | 1 => s.b
  | 2 => s.c
  | _ => s.d
def BS.put (s : BS) (w : BitVec 64) : Nat → BS
  | 0 => { s with a := w }
  | 1 => { s with b := w }
  | 2 => { s with c := w }
  | _ => { s with d := w }
def BS.has (s : BS) (x : Nat) : Bool := (s.get (x / 64)).getLsbD (x % 64)
def BS.with_ (s : BS) (x : Nat) : BS := s.put (s.get (x / 64) ||| BitVec.twoPow 64 (x % 64)) (x / 64)
def BS.none : BS := ⟨0, 0, 0, 0⟩
abbrev w64 (w : BitVec 64) : Value := .int .u64 (w.toNat : Int)
abbrev BS.cells (s : BS) : List Value := [w64 s.a, w64 s.b, w64 s.c, w64 s.d]
abbrev BS.enc (s : BS) : Value := .agg #[w64 s.a, w64 s.b, w64 s.c, w64 s.d]
abbrev byte (x : Nat) : Value := .int .u8 (x : Int)

theorem tdiv_nat (a b : Nat) : Int.tdiv (a : Int) (b : Int) = ((a / b : Nat) : Int) := by simp [Int.ofNat_tdiv]
theorem tmod_nat (a b : Nat) : Int.tmod (a : Int) (b : Int) = ((a % b : Nat) : Int) := rfl

theorem byte_quo {x : Nat} (hx : x < 256) : binN .quo (byte x) (.int .u8 64) = some (byte (x / 64)) := by
  have e := tdiv_nat x 64
  simp only [binN, intOp, if_true]
  rw [if_neg (by decide)]
  rw [show ((64 : Int)) = ((64 : Nat) : Int) from rfl, e, wrap_u8 (by omega)]
theorem byte_rem {x : Nat} : binN .rem (byte x) (.int .u8 64) = some (byte (x % 64)) := by
  have e := tmod_nat x 64
  simp only [binN, intOp, if_true]
  rw [if_neg (by decide), show ((64 : Int)) = ((64 : Nat) : Int) from rfl, e]
theorem byte_quo4 {x : Nat} (hx : x < 256) : x / 64 < 4 := by omega

theorem BS.at_ (s : BS) {i : Nat} (hi : i < 4) : ([w64 s.a, w64 s.b, w64 s.c, w64 s.d] : List Value)[i]? = some (w64 (s.get i)) := by
  match i, hi with
  | 0, _ => rfl
  | 1, _ => rfl
  | 2, _ => rfl
  | 3, _ => rfl

theorem ofInt_nat (w : BitVec 64) : BitVec.ofInt 64 (w.toNat : Int) = w := by
  apply BitVec.eq_of_toNat_eq
  rw [BitVec.toNat_ofInt]
  have := w.isLt
  omega
theorem w_and (x y : BitVec 64) : binN .and (w64 x) (w64 y) = some (w64 (x &&& y)) := by
  have h1 : binN .and (w64 x) (w64 y) = some (.int .u64 (IntKind.u64.wrap (BitVec.ofInt 64 (x.toNat : Int) &&& BitVec.ofInt 64 (y.toNat : Int)).toNat)) := rfl
  rw [h1, ofInt_nat, ofInt_nat, wrap_u64']
  have := (x &&& y).isLt
  congr 2; omega
theorem w_or (x y : BitVec 64) : binN .or (w64 x) (w64 y) = some (w64 (x ||| y)) := by
  have h1 : binN .or (w64 x) (w64 y) = some (.int .u64 (IntKind.u64.wrap (BitVec.ofInt 64 (x.toNat : Int) ||| BitVec.ofInt 64 (y.toNat : Int)).toNat)) := rfl
  rw [h1, ofInt_nat, ofInt_nat, wrap_u64']
  have := (x ||| y).isLt
  congr 2; omega
theorem w_shr (x : BitVec 64) {m : Nat} (hm : m < 64) : binN .shr (w64 x) (byte m) = some (w64 (x >>> m)) := by
  simp only [binN]
  rw [if_neg (by omega)]
  have e : min (m : Int).toNat IntKind.u64.bits = m := by
    have : IntKind.u64.bits = 64 := rfl
    omega
  rw [e]
  have h2 : ((2 : Int) ^ m) = ((2 ^ m : Nat) : Int) := by simp
  have h3 : (x >>> m).toNat = x.toNat / 2 ^ m := by rw [BitVec.toNat_ushiftRight, Nat.shiftRight_eq_div_pow]
  rw [h2, Int.fdiv_eq_ediv_of_nonneg _ (Int.natCast_nonneg _), ← Int.natCast_ediv, ← h3]
theorem w_one {m : Nat} (hm : m < 64) : binN .shl (.int .u64 1) (byte m) = some (w64 (BitVec.twoPow 64 m)) := by
  simp only [binN]
  rw [if_neg (by omega)]
  have e : min (m : Int).toNat IntKind.u64.bits = m := by
    have : IntKind.u64.bits = 64 := rfl
    omega
  have h2 : (1 * (2 : Int) ^ m) = ((2 ^ m : Nat) : Int) := by simp
  have h3 : (BitVec.twoPow 64 m).toNat = 2 ^ m % 18446744073709551616 := by rw [BitVec.toNat_twoPow]
  rw [e, wrap_u64', h2, show ((18446744073709551616 : Int)) = ((18446744073709551616 : Nat) : Int) from rfl, ← Int.natCast_emod, ← h3]

theorem bit_r (w : BitVec 64) {m : Nat} (hm : m < 64) : decide (((w >>> m &&& 1#64).toNat : Int) = 1) = w.getLsbD m := by
  rw [BitVec.getLsbD, Nat.testBit_eq_decide_div_mod_eq, BitVec.toNat_and, BitVec.toNat_ushiftRight, Nat.shiftRight_eq_div_pow]
  have : (1#64).toNat = 1 := rfl
  rw [this, Nat.and_one_is_mod]
  congr 1
  apply propext
  omega
theorem bit_l (w : BitVec 64) {m : Nat} (hm : m < 64) : decide (¬ ((w &&& BitVec.twoPow 64 m).toNat : Int) = 0) = w.getLsbD m := by
  rw [BitVec.and_twoPow]
  cases h : w.getLsbD m with
  | true =>
    have h1 : (BitVec.twoPow 64 m).toNat = 2 ^ m := by rw [BitVec.toNat_twoPow, Nat.mod_eq_of_lt (Nat.pow_lt_pow_right (by omega) hm)]
    have h2 : 0 < 2 ^ m := Nat.pow_pos (by omega)
    rw [if_pos rfl, h1]
    simp only [decide_eq_true_eq]
    omega
  | false => simp

/-- homographref01.Has -/
theorem refHas_spec {s : BS} {x : Nat} (hx : x < 256) {h : Heap} {Q : Value → Heap → Prop} (hq : Q (.bool (s.has x)) h) : acall Try.prog F_homographref01_Has [s.enc, byte x] h Q := by
  apply W_homographref01_Has_ok
  unfold W_homographref01_Has
  have h4 := byte_quo4 hx
  have hm : x % 64 < 64 := by omega
  simp only [box_agg, hW_some, byte_quo hx, oW_some, iaA_ptr h4]
  rw [ld_at row_app0 (by simpa using s.at_ h4), oW_some, byte_rem, oW_some, w_shr _ hm, oW_some]
  have e := w_and (s.get (x / 64) >>> (x % 64)) 1#64
  rw [show (Value.int .u64 1) = w64 1#64 from rfl, e, oW_some, n_eql, oW_some]
  have e2 := bit_r (s.get (x / 64)) hm
  have e3 : ((1#64).toNat : Int) = 1 := rfl
  rw [e3, e2]
  exact gcV_end (.cl (.bool _)) hq

/-- byteset.Has -/
theorem bsHas_spec {s : BS} {x : Nat} (hx : x < 256) {h : Heap} {Q : Value → Heap → Prop} (hq : Q (.bool (s.has x)) h) : acall Try.prog F_byteset_Has [s.enc, byte x] h Q := by
  apply W_byteset_Has_ok
  unfold W_byteset_Has
  have h4 := byte_quo4 hx
  have hm : x % 64 < 64 := by omega
  simp only [box_agg, hW_some, byte_quo hx, oW_some, iaA_ptr h4]
  rw [ld_at row_app0 (by simpa using s.at_ h4), oW_some, byte_rem, oW_some, w_one hm, oW_some, w_and, oW_some, n_neq, oW_some, bit_l _ hm]
  exact gcV_end (.cl (.bool _)) hq

/-- homographref01.With -/
theorem with_spec {s : BS} {x : Nat} (hx : x < 256) {h : Heap} {Q : Value → Heap → Prop} (hq : Q (s.with_ x).enc h) : acall Try.prog F_homographref01_With [s.enc, byte x] h Q := by
  apply W_homographref01_With_ok
  unfold W_homographref01_With
  have h4 := byte_quo4 hx
  have hm : x % 64 < 64 := by omega
  simp only [box_agg, hW_some, letH_eq, byte_quo hx, oW_some, iaA_ptr h4, List.append_assoc]
  rw [ld_at row_app0 (by simpa using s.at_ h4), oW_some, byte_rem, oW_some, w_one hm, oW_some, w_or, oW_some]
  rw [st1 row_app0 (by simp) rfl rfl rfl (by simp; omega)]
  have hw : s.cells.set (0 + x / 64 * 1) (w64 (s.get (x / 64) ||| BitVec.twoPow 64 (x % 64))) = (s.with_ x).cells := by
    unfold BS.with_
    generalize s.get (x / 64) ||| BitVec.twoPow 64 (x % 64) = w
    match x / 64, h4 with
    | 0, _ => rfl
    | 1, _ => rfl
    | 2, _ => rfl
    | 3, _ => rfl
  rw [hw]
  generalize s.with_ x = s' at hq ⊢
  simp
  exact gcV_end (.cl (.agg _ (by simp; exact ⟨.int _ _, .int _ _, .int _ _, .int _ _⟩))) hq

end Go.Ax

namespace Go.Ax
open Go Go.Proofs Go.RowKit

/-- A pattern. -/
inductive Nd where
  | mk (op : Int) (set : BS) (mn mx : Int) (kids : List Nd)

mutual
def Nd.enc : Nd → Value
  | .mk op s mn mx ks => .agg #[.int .i64 op, w64 s.a, w64 s.b, w64 s.c, w64 s.d, .int .i64 mn, .int .i64 mx, lit (Nd.encs ks)]
def Nd.encs : List Nd → List Value
  | [] => []
  | k :: ks => k.enc :: Nd.encs ks
end
theorem Nd.encs_eq : ∀ l : List Nd, Nd.encs l = l.map Nd.enc
  | [] => rfl
  | k :: ks => by rw [Nd.encs, Nd.encs_eq ks]; rfl
theorem Nd.enc_mk {op : Int} {s : BS} {mn mx : Int} {ks : List Nd} : (Nd.mk op s mn mx ks).enc = .agg #[.int .i64 op, w64 s.a, w64 s.b, w64 s.c, w64 s.d, .int .i64 mn, .int .i64 mx, lit (ks.map Nd.enc)] := by
  rw [Nd.enc, Nd.encs_eq]
theorem Nd.enc_agg (n : Nd) : ∃ cs, n.enc = .agg cs ∧ cs.size = 8 := by cases n; exact ⟨_, by rw [Nd.enc], rfl⟩
theorem Nd.enc_okv (n : Nd) : okVal n.enc = true := by obtain ⟨cs, e, _⟩ := n.enc_agg; rw [e]; rfl
theorem Nd.enc_len (n : Nd) : (cellsOf n.enc).length = 8 := by obtain ⟨cs, e, h⟩ := n.enc_agg; rw [e]; simpa using h
theorem Nd.enc_ok (n : Nd) : (cellsOf n.enc).all okCell = true := by cases n; simp [Nd.enc]
mutual
theorem Nd.cl : ∀ n : Nd, Cl n.enc
  | .mk op s mn mx ks => by
    rw [Nd.enc]
    refine .agg _ ?_
    simp
    exact ⟨.int _ _, .int _ _, .int _ _, .int _ _, .int _ _, .int _ _, .int _ _, Cl.lits (Nd.cls ks)⟩
theorem Nd.cls : ∀ l : List Nd, ∀ e ∈ Nd.encs l, okVal e = true ∧ Cl e
  | [], e, h => by simp [Nd.encs] at h
  | k :: ks, e, h => by
    rw [Nd.encs] at h
    rcases List.mem_cons.1 h with rfl | h
    · exact ⟨k.enc_okv, k.cl⟩
    · exact Nd.cls ks e h
end
theorem Nd.cells_cl (n : Nd) : ∀ x ∈ cellsOf n.enc, Cl x := n.cl.cells n.enc_okv
theorem Nd.map_len {l : List Nd} : ∀ x ∈ l.map Nd.enc, (cellsOf x).length = 8 := fun x hx => by
  obtain ⟨n, _, rfl⟩ := List.mem_map.1 hx; exact n.enc_len
theorem Nd.map_cl {l : List Nd} : ∀ e ∈ l.map Nd.enc, ∀ x ∈ cellsOf e, Cl x := fun e he x hx => by
  obtain ⟨n, _, rfl⟩ := List.mem_map.1 he; exact n.cells_cl x hx
theorem Nd.map_ok {l : List Nd} : ∀ x ∈ l.map Nd.enc, (cellsOf x).all okCell = true := fun x hx => by
  obtain ⟨n, _, rfl⟩ := List.mem_map.1 hx; exact n.enc_ok
theorem Nd.list_cl {l : List Nd} : Cl (lit (l.map Nd.enc)) := Cl.lit' Nd.map_cl

/-- A value of parts, part by part. -/
theorem Gv.aggL {fr : Nat → Prop} {r : Nat → Option Nat} {h : Heap} {xs ys : List Value} (g : GvL fr r h xs ys) : Gv fr r h (.agg xs.toArray) (.agg ys.toArray) :=
  .agg _ _ (by simpa using g.length) fun i p q => g.get (k := i) (by simp) (by simp)
theorem Gv.tupL {fr : Nat → Prop} {r : Nat → Option Nat} {h : Heap} {xs ys : List Value} (h0 : xs.length ≠ 1) (g : GvL fr r h xs ys) : Gv fr r h (.tuple xs.toArray) (.tuple ys.toArray) :=
  .tuple _ _ (by simpa using h0) (by simpa using g.length) fun i p q => g.get (k := i) (by simp) (by simp)

/-- homographref02.Set -/
theorem setN_spec {s : BS} {h : Heap} {Q : Value → Heap → Prop} (hq : Q (Nd.mk 0 s 0 0 []).enc h) : acall Try.prog F_homographref02_Set [s.enc] h Q := by
  apply W_homographref02_Set_ok
  unfold W_homographref02_Set
  simp
  refine gcV_end (Gv.aggL (xs := [_, _, _, _, _, _, _, _]) ⟨.cl (.int _ _), .cl (.int _ _), .cl (.int _ _), .cl (.int _ _), .cl (.int _ _), .cl (.int _ _), .cl (.int _ _), .lit0 _ _, trivial⟩) ?_
  rw [Nd.enc_mk] at hq; exact hq

theorem Nd.cl_mk {op : Int} {s : BS} {mn mx : Int} {ks : List Nd} : Cl (.agg #[.int .i64 op, w64 s.a, w64 s.b, w64 s.c, w64 s.d, .int .i64 mn, .int .i64 mx, lit (ks.map Nd.enc)]) := by
  have := (Nd.mk op s mn mx ks).cl
  rwa [Nd.enc_mk] at this

/-- homographref02.Many -/
theorem many_spec {op : Int} {ks : List Nd} {h : Heap} {Q : Value → Heap → Prop} (hq : Q (Nd.mk op BS.none 0 0 ks).enc h) : acall Try.prog F_homographref02_Many [.int .i64 op, lit (ks.map Nd.enc)] h Q := by
  apply W_homographref02_Many_ok
  unfold W_homographref02_Many
  simp
  rw [Nd.enc_mk] at hq
  exact gcV_end (.cl (Nd.cl_mk (s := BS.none))) hq

theorem app_get {h t : Heap} {k : Nat} : (h ++ t)[h.length + k]? = t[k]? := by rw [List.getElem?_append_right (by omega), Nat.add_sub_cancel_left]

/-- homographref02.Rep -/
theorem rep_spec {n : Nd} {a b : Int} {h : Heap} {Q : Value → Heap → Prop} (hq : Q (Nd.mk 3 BS.none a b [n]).enc h) : acall Try.prog F_homographref02_Rep [n.enc, .int .i64 a, .int .i64 b] h Q := by
  apply W_homographref02_Rep_ok
  unfold W_homographref02_Rep
  rw [Nd.enc_mk] at hq
  cases n with
  | mk op s mn mx ks =>
    rw [Nd.enc_mk]
    simp [bslW]
    refine gcV_end ?_ hq
    refine Gv.aggL (xs := [_, _, _, _, _, _, _, lit [(Nd.mk op s mn mx ks).enc]]) ⟨.cl (.int _ _), .cl (.int _ _), .cl (.int _ _), .cl (.int _ _), .cl (.int _ _), .cl (.int _ _), .cl (.int _ _), ?_, trivial⟩
    exact Gv.frz (sz := 8) ⟨by omega, by simp⟩ (app_get (k := 2)) (by omega) (Nd.map_len (l := [_])) (by rw [Nd.enc_mk]; simp) rfl (Nd.map_cl (l := [_]))

end Go.Ax

namespace Go.Proofs
open Go.RowKit Go.Maps Go.Sort Go.Shelf
theorem Try.sortsA (m : Nat) : AnyZI.SortsIn Try.prog Try.sortedA_ren Fence.wide m :=
  ⟨fun blk off cap ss W hH hblk hsz => callsIn_wide.2 (AnyM.slices_Sort_int Try.sortA blk off cap ss W hH hblk hsz),
   fun p cap W => callsIn_wide.2 (AnyM.slices_Sort_int_none Try.sortA p cap W)⟩

/-- slices.Sorted at an iterator over a map's keys. -/
theorem Try.sorted_at {H : Type} (Bm b nn : Nat) (D0 : DataW H) (R : Value → Option (DataW H × List MemPlace)) (w : World) (hBm : Bm < w.heap.size) (hm : w.cell? ⟨Bm, 0, none⟩ = some (.map (some b))) (hown : w.ownsMap Try.prog 3 R b nn D0) (hmax : Maps.size D0 ≤ maxLen) (hbytes : Maps.size D0 * 8 ≤ 140737488355328) :
    Calls Try.prog 64 #[.func (.func 108) #[] #[.pointer (some ⟨Bm, 0, none⟩)]] w fun e w' => ∃ (v : Value) (ss : List Int), e = .returned v ∧ ss.Perm (intKeys D0) ∧
      w'.ownsRow w.heap.size 3 1 v ss.length ((ss.mergeSort (fun x y => decide (x ≤ y))).map encZ) ∧ (v = .slice none 0 0 ↔ ss = []) ∧ Below w.heap.size w w' := by
  refine (callsIn_wide (n := 5)).1 ?_
  have hseq : SeqGives Fence.wide 2 Try.prog 108 #[.pointer (some ⟨Bm, 0, none⟩)] encZ (fun ss => ss.Perm (intKeys D0)) (Maps.size D0) w :=
    AnyZI.keys_gives (ρ := Try.keysA_ren) { Try.keysA with } Fence.wide _ trivial rfl (by omega) Bm b nn D0 _ hBm hm hown
  have cS := AnyZI.sorted_in Try.sortedA Fence.wide 5 trivial trivial trivial trivial rfl (by omega) (Try.sortsA _) (enters_of Try.func107 (by kernel_rfl) rfl) 108 #[.pointer (some ⟨Bm, 0, none⟩)] trivial (enters_of Try.func108 (by kernel_rfl) rfl) _ _ hmax hbytes w hseq
  change CallsIn _ _ Try.prog 64 _ _ _ at cS
  exact cS.mono fun e w' h => h
end Go.Proofs

namespace Go.Ax
open Go Go.Proofs Go.RowKit Go.Maps

section
variable {B : Fr} {w0 w w' : World} {ρ : Ren} {h : Heap}

/-- A block that is frozen from here on. -/
def Ren.cool (ρ : Ren) (g : Nat) (cc : Array Value) : Ren := ⟨ρ.bind, fun k => if k = g then some cc else ρ.frz k⟩
theorem Ren.cool_le {g : Nat} {cc : Array Value} (hg : ρ.frz g = none) : ρ.le (ρ.cool g cc) := ⟨fun _ _ e => e, fun k c e => by
  unfold Ren.cool
  dsimp only
  by_cases q : k = g
  · subst q; rw [hg] at e; cases e
  · rw [if_neg q]; exact e⟩
theorem Sim.cool (s : Sim B w0 ρ h w) {g : Nat} {cc : Array Value} {el : TypeId} {f : Nat × Nat} (hw : w.heap[g]? = some (.cells cc el f)) (hn : ρ.frz g = none) (hno : ∀ i b, ρ i = some b → b.block ≠ g) (hF : ¬ B.F g) : Sim B w0 (ρ.cool g cc) h w := by
  have hle := Ren.cool_le (cc := cc) hn
  refine ⟨s.below, s.le, s.fle, s.dom, fun i c m hi => let ⟨b, h1, h2⟩ := s.row i c m hi; ⟨b, h1, h2.mono hle rfl⟩, fun i es hi => let ⟨b, h1, h2⟩ := s.map i es hi; ⟨b, h1, h2.mono hle rfl⟩, s.inj, fun k c hk => ?_, fun k c i b hk hi hl => ?_, fun k c hk => ?_⟩
  · unfold Ren.cool at hk
    dsimp only at hk
    by_cases q : k = g
    · subst q; rw [if_pos rfl] at hk; cases hk; exact ⟨el, f, hw⟩
    · rw [if_neg q] at hk; exact s.cold k c hk
  · unfold Ren.cool at hk
    dsimp only at hk
    by_cases q : k = g
    · subst q; exact .inr (hno i b hi)
    · rw [if_neg q] at hk; exact s.apart k c i b hk hi hl
  · unfold Ren.cool at hk
    dsimp only at hk
    by_cases q : k = g
    · subst q; exact hF
    · rw [if_neg q] at hk; exact s.coldF k c hk
end

theorem insert_perm {H : Type} (x : Lit × DataW H) : ∀ l : List (Lit × DataW H), (DataW.insert x l).Perm (x :: l)
  | [] => .refl _
  | y :: r => by
    unfold DataW.insert
    split
    · exact .refl _
    · exact ((insert_perm x r).cons y).trans (.swap x y r)
theorem foldr_perm {H : Type} : ∀ l : List (Lit × DataW H), (l.foldr DataW.insert []).Perm l
  | [] => .refl _
  | x :: r => (insert_perm x _).trans ((foldr_perm r).cons x)

/-- A map with int keys, as the library's contracts want it. -/
theorem owns_map {P : Program} {t : TypeId} (ht : P.underlying t = some (.int .i64)) {w : World} {b : Nat} {ents : Array MapEntry} {clock : Nat} {ks : List Int} (hb : w.heap[b]? = some (.map ents clock)) (hs : MapKept.Stamped ents clock)
    (hk : ents.toList.map (·.key) = ks.map (Value.int .i64)) (hi : ∀ k ∈ ks, inI k) (hl : ks.length ≤ 1000000000000) :
    ∃ D0 : DataW Unit, w.ownsMap P t (fun _ => some (.nil, [])) b ents.size D0 ∧ (intKeys D0).Perm ks ∧ Maps.size D0 = ks.length := by
  have hlen : ents.size = ks.length := by
    have := congrArg List.length hk; simpa using this
  have hrd : ∀ x ∈ ents.toList, ∃ n, n ∈ ks ∧ x.key = .int .i64 n ∧ WideElems.rd (H := Unit) P t (fun _ => some (.nil, [])) x = some (.int .i64 n, .nil) := fun x hx => by
    have : x.key ∈ ks.map (Value.int .i64) := by rw [← hk]; exact List.mem_map.2 ⟨x, hx, rfl⟩
    obtain ⟨n, hn, e⟩ := List.mem_map.1 this
    obtain ⟨h1, h2⟩ := hi n hn
    refine ⟨n, hn, e.symm, ?_⟩
    have hw : (Lit.int .i64 n).wf = true := by
      simp [Lit.wf, IntKind.min, IntKind.max, IntKind.signed, IntKind.bits]
      omega
    simp [WideElems.rd, ← e, keyOf, ht, mapKey, hw]
  refine ⟨.map ((ents.toList.map (WideElems.rg P t fun _ => some (.nil, []))).foldr DataW.insert []), ⟨ents, clock, hb, ⟨by rw [hlen]; unfold maxLen; omega, hs, fun x hx => let ⟨n, _, _, e⟩ := hrd x hx; ⟨_, e⟩⟩, Nat.le_refl _, rfl⟩, ?_, ?_⟩
  · show (List.map _ _).Perm ks
    refine ((foldr_perm _).map _).trans ?_
    rw [List.map_map]
    have : List.map ((fun p => intOf p.1) ∘ WideElems.rg (H := Unit) P t fun _ => some (.nil, [])) ents.toList = ks := by
      have h2 : List.map (fun x : MapEntry => match x.key with | .int _ n => n | _ => 0) ents.toList = ks := by
        have := congrArg (List.map fun v : Value => match v with | .int _ n => n | _ => (0 : Int)) hk
        rw [List.map_map, List.map_map] at this
        have e2 : (List.map ((fun v : Value => match v with | .int _ n => n | _ => (0 : Int)) ∘ Value.int .i64) ks) = ks := by
          exact (List.map_congr_left (g := id) fun _ _ => rfl).trans (List.map_id _)
        rw [e2] at this
        exact this
      rw [← h2]
      refine List.map_congr_left fun x hx => ?_
      obtain ⟨n, _, e, e2⟩ := hrd x hx
      simp only [Function.comp, WideElems.rg, e2, Option.getD_some, e]
      rfl
    rw [this]
  · show (List.foldr DataW.insert [] (ents.toList.map (WideElems.rg (H := Unit) P t fun _ => some (.nil, [])))).length = _
    rw [(foldr_perm _).length_eq, List.length_map, Array.length_toList, hlen]

/-- slices.Sorted at an iterator over the keys of a set of ints. -/
theorem sorted_spec {H : Heap} {i j : Nat} {ks : List Int} {E : List (Int × Value)} (hi : H[i]? = some (.row [.map (some j)] .exact)) (hm : getMap H j = some (encE E)) (hk : E.map (·.1) = ks) (hn : ks.Nodup) (hin : ∀ k ∈ ks, inI k) (hl : ks.length ≤ 1000000000000)
    {Q : Value → Heap → Prop} (hq : ∀ l : List Int, l.Pairwise (· < ·) → (∀ x, x ∈ l ↔ x ∈ ks) → Q (ints l) H) :
    acall Try.prog 64 [.func (.func 108) #[] #[.pointer (some ⟨i, 0, none⟩)]] H Q := by
  refine ⟨⟨_, Try.func64, rfl, rfl⟩, fun B w0 ρ w args' s hr => ?_⟩
  obtain ⟨hlen, hrel⟩ := hr
  have ha : ∃ v', args' = #[v'] := by
    obtain ⟨l⟩ := args'
    match l, hlen with
    | [v'], _ => exact ⟨v', rfl⟩
  obtain ⟨v', rfl⟩ := ha
  have h0 := hrel 0 _ v' rfl rfl
  cases h0 with
  | func fn xs xs' cs cs' hf h1 h2 h3 h4 =>
  have hxs : xs' = #[] := Array.size_eq_zero_iff.1 h1.symm
  subst hxs
  have hcs : ∃ y, cs' = #[y] := by
    obtain ⟨l⟩ := cs'
    match l, h2 with
    | [y], _ => exact ⟨y, rfl⟩
  obtain ⟨y, rfl⟩ := hcs
  have h5 := h4 0 (by simp) (by simp)
  simp only [List.getElem_toArray, List.getElem_cons_zero] at h5
  cases h5 with
  | ptr i off b hb =>
  obtain ⟨b2, hb2, hrow⟩ := s.row i _ _ hi
  rw [hb] at hb2; cases hb2
  have hz := hrow.zero rfl
  obtain ⟨cc, el, fr, l1, l2, l3, l4⟩ := hrow.lies
  obtain ⟨y2, hy2, hr2⟩ := l3 0 (.map (some j)) rfl
  cases hr2 with
  | map j bj hbj =>
  obtain ⟨bj2, hbj2, hmap⟩ := s.map j _ (getMap_eq hm)
  rw [hbj] at hbj2; cases hbj2
  obtain ⟨ents, clock, m1, m2, m3⟩ := hmap.lies
  have hks : ents.toList.map (·.key) = ks.map (Value.int .i64) := by
    apply List.ext_getElem?
    intro q
    rw [List.getElem?_map, List.getElem?_map, ← hk, List.getElem?_map]
    cases he : E[q]? with
    | none =>
      have : E.length ≤ q := List.getElem?_eq_none_iff.1 he
      have h6 : ents.toList[q]? = none := List.getElem?_eq_none (by simp at m2 ⊢; omega)
      rw [h6]; rfl
    | some p =>
      obtain ⟨e, he2, he3, _⟩ := m3 q (.int .i64 p.1, p.2) (by rw [List.getElem?_map, he]; rfl)
      have h6 : ents.toList[q]? = some e := by simpa using he2
      rw [h6]; simp [he3]
  obtain ⟨D0, hown, hperm, hsize⟩ := owns_map (P := Try.prog) (t := 3) Try.underlying3 m1 (hmap.stamp _ _ m1) hks hin hl
  have hcell : w.cell? ⟨b.block, 0, none⟩ = some (.map (some bj.block)) := by
    rw [cell_of l1]; rw [hz] at hy2; exact hy2
  have hlt : b.block < w.heap.size := (s.dom _ _ hb).2.1
  have hc := Try.sorted_at b.block bj.block ents.size D0 _ w hlt hcell hown (by rw [hsize]; unfold maxLen; omega) (by rw [hsize]; omega)
  have e0 : b.base + 0 = 0 := by omega
  rw [e0]
  refine hc.mono ?_
  rintro e w' ⟨v, ss, rfl, hp, hrw, hnil, hbel⟩
  have hkept : Kept ⟨w.heap.size, fun _ => False⟩ w w' := ⟨hbel.os, hbel.tape, hbel.output, hbel.size, fun k hk => hbel.block k (hk.elim id fun q => q.elim)⟩
  have s' := s.moved hkept
  have hpk : ss.Perm ks := hp.trans hperm
  have hns : ss.Nodup := hpk.nodup_iff.2 hn
  have hsp := List.mergeSort_perm ss fun x y => decide (x ≤ y)
  have hpw : (ss.mergeSort fun x y => decide (x ≤ y)).Pairwise (· < ·) := by
    have h1 : (ss.mergeSort fun x y => decide (x ≤ y)).Pairwise (fun a b => decide (a ≤ b) = true) := List.pairwise_mergeSort (fun a b c h1 h2 => by simp only [decide_eq_true_eq] at *; omega) (fun a b => by simp only [Bool.or_eq_true, decide_eq_true_eq]; omega) ss
    have h2 : (ss.mergeSort fun x y => decide (x ≤ y)).Nodup := hsp.nodup_iff.2 hns
    exact (h1.and h2).imp fun {a b} h => by
      have h3 : a ≤ b := by simpa using h.1
      have := h.2
      omega
  have hQ := hq _ hpw fun x => by rw [hsp.mem_iff, hpk.mem_iff]
  obtain ⟨r1, r2⟩ := hrw
  rcases r2 with ⟨rfl, hz0⟩ | ⟨g, cap, cur, rfl, g1, g2, g3, g4, g5, g6⟩
  · have : ss = [] := List.eq_nil_of_length_eq_zero hz0
    subst this
    refine ⟨ρ, _, _, H, .refl _, rfl, ?_, s', hQ⟩
    rw [show (([] : List Int).mergeSort fun x y => decide (x ≤ y)) = [] by simp]
    exact Rel.lit0 none 0 (fun _ => rfl)
  · have hgn : ρ.frz g = none := by
      cases q : ρ.frz g with
      | none => rfl
      | some c0 => have := s.coldLt q; omega
    refine ⟨ρ.cool g cur, _, _, H, Ren.cool_le hgn, rfl, ?_, s'.cool g2 hgn (fun i b hb q => by have := (s.dom i b hb).2.1; omega) (fun q => by have := s.fle _ q; omega), hQ⟩
    have hsl : (ss.mergeSort fun x y => decide (x ≤ y)).length = ss.length := hsp.length_eq
    have := Rel.litS (ρ := ρ.cool g cur) ((ss.mergeSort fun x y => decide (x ≤ y)).map fun n => Value.int .i64 n).toArray g 0 1 cap cur (by unfold Ren.cool; simp) (by simp [hsl]; omega) (by omega) (fun i p => by simp) (by simp [hsl]; omega) (fun i q p p2 p3 => by
      have hi : i < (ss.mergeSort fun x y => decide (x ≤ y)).length := by simpa using p
      have hq0 : q = 0 := by
        have : (cellsOf ((ss.mergeSort fun x y => decide (x ≤ y)).map fun n => Value.int .i64 n).toArray[i]).length = 1 := by simp
        omega
      subst hq0
      have h7 : cur.toList[i]? = some (.int .i64 (ss.mergeSort fun x y => decide (x ≤ y))[i]) := by
        have h8 : (cur.toList.take (ss.length * 1))[i]? = some (encZ (ss.mergeSort fun x y => decide (x ≤ y))[i]) := by rw [g6]; simp [hi]
        rw [List.getElem?_take] at h8
        split at h8
        · exact h8
        · cases h8
      have h9 : cur[0 + (i * 1 + 0)] = .int .i64 (ss.mergeSort fun x y => decide (x ≤ y))[i] := by
        have h10 : cur[i]? = some (.int .i64 (ss.mergeSort fun x y => decide (x ≤ y))[i]) := by simpa using h7
        have h11 := Array.getElem?_eq_getElem p3
        have e4 : 0 + (i * 1 + 0) = i := by omega
        have h12 : cur[0 + (i * 1 + 0)]? = some (.int .i64 (ss.mergeSort fun x y => decide (x ≤ y))[i]) := by rw [e4]; exact h10
        exact Option.some.inj (h11.symm.trans h12)
      rw [h9]
      simp
      exact .int _ _)
    simp only [List.size_toArray, List.length_map, hsl] at this
    exact this

end Go.Ax

namespace Go.Ax
open Go Go.Proofs Go.RowKit

structure Mch where
  count : Nat
  eps : List (Int × Int)
  arcs : List (Int × Int × BS)
  start : Int
  stop : Int
abbrev encP (p : Int × Int) : Value := .agg #[.int .i64 p.1, .int .i64 p.2]
abbrev encA (a : Int × Int × BS) : Value := .agg #[.int .i64 a.1, .int .i64 a.2.1, w64 a.2.2.a, w64 a.2.2.b, w64 a.2.2.c, w64 a.2.2.d]
abbrev Mch.enc (m : Mch) : Value := .agg #[.int .i64 (m.count : Int), lit (m.eps.map encP), lit (m.arcs.map encA), .int .i64 m.start, .int .i64 m.stop]

/-- Where one may be by nothing. -/
inductive EReach (eps : List (Int × Int)) (S : Int → Prop) : Int → Prop
  | base {x : Int} (h : S x) : EReach eps S x
  | step {x y : Int} (h : EReach eps S x) (e : (x, y) ∈ eps) : EReach eps S y

theorem EReach.mono {eps : List (Int × Int)} {S T : Int → Prop} (h : ∀ x, S x → EReach eps T x) {x : Int} (r : EReach eps S x) : EReach eps T x := by
  induction r with
  | base h0 => exact h _ h0
  | step _ e ih => exact .step ih e

def inR (n : Nat) (x : Int) : Prop := 0 ≤ x ∧ x < n
instance (n : Nat) (x : Int) : Decidable (inR n x) := by unfold inR; infer_instance

open Classical in
noncomputable def Mch.clo (m : Mch) (l : List Int) : List Int :=
  ((List.range m.count).map fun (n : Nat) => (n : Int)).filter fun x => decide (EReach m.eps (fun x => x ∈ l ∧ inR m.count x) x)

def Mch.ok (m : Mch) : Prop := (∀ p ∈ m.eps, inR m.count p.1 ∧ inR m.count p.2) ∧ (∀ a ∈ m.arcs, inR m.count a.1 ∧ inR m.count a.2.1) ∧ inR m.count m.start ∧ inR m.count m.stop

open Classical in
theorem Mch.mem_clo {m : Mch} {l : List Int} {x : Int} : x ∈ m.clo l ↔ inR m.count x ∧ EReach m.eps (fun x => x ∈ l ∧ inR m.count x) x := by
  unfold Mch.clo
  rw [List.mem_filter, decide_eq_true_eq]
  constructor
  · rintro ⟨h, h2⟩
    obtain ⟨n, hn, rfl⟩ := List.mem_map.1 h
    exact ⟨⟨by omega, by have := List.mem_range.1 hn; omega⟩, h2⟩
  · rintro ⟨⟨h1, h2⟩, h3⟩
    exact ⟨List.mem_map.2 ⟨x.toNat, List.mem_range.2 (by omega), by omega⟩, h3⟩
theorem Mch.clo_sorted (m : Mch) (l : List Int) : (m.clo l).Pairwise (· < ·) := by
  unfold Mch.clo
  refine List.Pairwise.filter _ ?_
  rw [List.pairwise_map]
  exact (List.pairwise_lt_range).imp (by intro a b h; omega)

/-- Two rising lists of the same numbers are the same. -/
theorem rising_eq : ∀ {a b : List Int}, a.Pairwise (· < ·) → b.Pairwise (· < ·) → (∀ x, x ∈ a ↔ x ∈ b) → a = b
  | [], [], _, _, _ => rfl
  | [], y :: b, _, _, h => by have := (h y).2 (by simp); simp at this
  | x :: a, [], _, _, h => by have := (h x).1 (by simp); simp at this
  | x :: a, y :: b, ha, hb, h => by
    obtain ⟨ha1, ha2⟩ := List.pairwise_cons.1 ha
    obtain ⟨hb1, hb2⟩ := List.pairwise_cons.1 hb
    have e : x = y := by
      rcases List.mem_cons.1 ((h x).1 (by simp)) with q | q
      · exact q
      · rcases List.mem_cons.1 ((h y).2 (by simp)) with r | r
        · exact r.symm
        · have := hb1 x q; have := ha1 y r; omega
    subst e
    rw [rising_eq ha2 hb2 fun z => ⟨fun hz => ?_, fun hz => ?_⟩]
    · rcases List.mem_cons.1 ((h z).1 (by simp [hz])) with q | q
      · have := ha1 z hz; omega
      · exact q
    · rcases List.mem_cons.1 ((h z).2 (by simp [hz])) with q | q
      · have := hb1 z hz; omega
      · exact q

/-- A map from ints to rows of ints, in memory. -/
structure ToOk (n : Nat) (H : Heap) (E : List (Int × Value)) (f : Int → List Int) : Prop where
  acc : ∀ k, Acc 1 n H ((aget E k).getD (.slice none 0 0)) ((f k).map fun x => .int .i64 x)
  apart : ∀ k k', k ≠ k' → ∀ j, lies ((aget E k).getD (.slice none 0 0)) j → ¬ lies ((aget E k').getD (.slice none 0 0)) j

/-- Where one may go by nothing, from each state. -/
def outs (eps : List (Int × Int)) (k : Int) : List Int := (eps.filter fun p => p.1 == k).map (·.2)

theorem int_len {l : List Int} : ∀ x ∈ l.map (fun n => Value.int .i64 n), (cellsOf x).length = 1 := fun x hx => by
  obtain ⟨n, _, rfl⟩ := List.mem_map.1 hx; rfl
theorem int_cl {l : List Int} : ∀ e ∈ l.map (fun n => Value.int .i64 n), ∀ x ∈ cellsOf e, Cl x := fun e he x hx => by
  obtain ⟨n, _, rfl⟩ := List.mem_map.1 he
  simp at hx; subst hx; exact .int _ _
theorem int_ok {l : List Int} : ∀ x ∈ l.map (fun n => Value.int .i64 n), (cellsOf x).all okCell = true := fun x hx => by
  obtain ⟨n, _, rfl⟩ := List.mem_map.1 hx; rfl
theorem int_flat {l : List Int} : (l.map fun n => Value.int .i64 n).flatMap cellsOf = l.map fun n => Value.int .i64 n := flat_one fun e he => by
  obtain ⟨n, _, rfl⟩ := List.mem_map.1 he; rfl

/-- slices.Sorted of maps.Keys. -/
theorem sortedKeys_spec {H : Heap} {j : Nat} {E : List (Int × Value)} {s : List Int} {K : Value → Heap → Prop} (hm : getMap H j = some (encE E)) (hk : E.map (·.1) = s) (hn : s.Nodup) (hi : ∀ k ∈ s, inI k) (hl : s.length ≤ 1000000000000)
    (k : ∀ l : List Int, l.Pairwise (· < ·) → (∀ x, x ∈ l ↔ x ∈ s) → ∀ t, K (ints l) (H ++ t)) :
    acall Try.prog F_maps_Keys_map_int_bool_int_bool [.map (some j)] H fun v h => acall Try.prog F_slices_Sorted_int [v] h K := by
  refine W_maps_Keys_map_int_bool_int_bool_ok ?_
  unfold W_maps_Keys_map_int_bool_int_bool
  rw [box_map, hW_some]
  refine gcV_same ?_
  exact sorted_spec (i := H.length) (by simp) (getMap_app hm) hk hn hi hl fun l h1 h2 => k l h1 h2 _

theorem clrW_acc {n : Nat} {B g : Heap} {v z : Value} {l : List Value} (hB : B.length = n) (a : Acc 1 n (B ++ g) v l) (hz : ∀ x ∈ l, (cellsOf x).length = 1) (hzz : okCell z = true) (hzc : cellsOf z = [z]) {i : Nat} (hi : i ≤ l.length) (h0 : l ≠ []) {K : Heap → Prop}
    (k : ∀ g', Acc 1 n (B ++ g') v (l.take i ++ List.replicate (l.length - i) z) → (∀ j, ¬ lies v j → (B ++ g')[j]? = (B ++ g)[j]?) → K (B ++ g')) :
    oW (slS 1 (B ++ g) v (some (.int .i64 (i : Int))) none none) fun w => sW (clrW [z] 1 (B ++ g) w) K := by
  rcases a with ⟨rfl, rfl⟩ | ⟨q, cap, c, m, h1, rfl, h3, h4, h5, h6, h7⟩
  · exact absurd rfl h0
  · have hm : m ≠ .ro := by rcases h4 with r | r <;> rw [r] <;> simp
    have hmd : m.openSize = none ∨ (0 < 1 ∧ m.openSize = some 1) := by
      rcases h4 with r | r <;> rw [r]
      · exact .inr ⟨by omega, rfl⟩
      · exact .inl rfl
    refine ⟨.slice (some ⟨q, i, none⟩) (l.length - i) (cap - i), by
      simp only [slS, asNat]
      rw [if_pos (by omega)]
      simp only [Int.toNat_natCast]
      rw [if_pos ⟨by omega, by omega, by omega, by omega, by simp⟩, h3]
      simp only
      rw [if_pos hmd]
      simp, ?_⟩
    have e1 : ∀ o : AObj, (B ++ g).set q o = B ++ g.set (q - n) o := fun o => by rw [List.set_append_right _ _ (by omega), hB]
    by_cases hz0 : l.length - i = 0
    · refine ⟨B ++ g, by simp only [clrW]; rw [if_pos hz0, if_pos (by omega)], ?_⟩
      refine k g (.inr ⟨q, cap, c, m, h1, ?_, h3, h4, h5, ?_, ?_⟩) fun _ _ => rfl
      · simp [hz0]; omega
      · simp [hz0]; omega
      · have : l.take i = l := List.take_of_length_le (by omega)
        rw [hz0]; simpa [this] using h7
    · have hrep : repA [z] (l.length - i) = List.replicate (l.length - i) z := repA_one z _
      have hcl : l.length ≤ c.length := by omega
      refine ⟨_, by
        simp only [clrW]
        rw [if_neg hz0, h3]
        simp only
        rw [if_pos ⟨hm, by omega, by rw [hrep, List.all_eq_true]; intro x hx; rw [List.eq_of_mem_replicate hx]; exact hzz, by omega⟩], ?_⟩
      rw [e1, hrep]
      have hlen : (l.take i ++ List.replicate (l.length - i) z).length = l.length := by simp; omega
      have hwl : ∀ (vs c : List Value) (o : Nat), (writeL c o vs).length = c.length := by
        intro vs
        induction vs with
        | nil => intro c o; rfl
        | cons x vs ih => intro c o; rw [writeL_cons, ih]; simp
      refine k _ (.inr ⟨q, cap, _, m, h1, by rw [hlen], by rw [← e1]; exact getRow_set h3 _ _, h4, by rw [hwl, h5], by rw [hlen]; exact h6, ?_⟩) fun j hj => by rw [← e1, List.getElem?_set_ne fun r => hj ⟨0, _, _, by rw [r]⟩]
      have hl1 := flat_len hz
      have hfl : (l.take i ++ List.replicate (l.length - i) z).flatMap cellsOf = (l.take i).flatMap cellsOf ++ List.replicate (l.length - i) z := by
        rw [List.flatMap_append]
        congr 1
        exact flat_one fun e he => by rw [List.eq_of_mem_replicate he]; exact hzc
      rw [hfl, hlen]
      have hti := flat_take hz i hi
      have htl := flat_len (es := l.take i) fun x hx => hz x (List.mem_of_mem_take hx)
      apply List.ext_getElem?
      intro k
      rw [List.getElem?_take]
      split
      · rename_i hk
        rw [get_writeL _ _ _ (by simp; omega)]
        by_cases hki : k < i
        · rw [if_neg (by omega), List.getElem?_append_left (by rw [htl, List.length_take]; omega), ← hti, ← h7, List.take_take, List.getElem?_take, if_pos (by omega)]
        · rw [if_pos (by simp; omega), List.getElem?_append_right (by rw [htl, List.length_take]; omega), htl, List.length_take]
          congr 1; omega
      · rw [List.getElem?_eq_none (by rw [List.length_append, htl, List.length_take, List.length_replicate]; omega)]

/-- What a function value answers at each number, in heaps that begin so. -/
def Tells (B : Heap) (f : Value) (p : Int → Bool) : Prop :=
  ∀ (x : Int) (g : Heap) (K : Value → Heap → Prop), inI x → (∀ g', (∀ j, j < (B ++ g).length → (B ++ g')[j]? = (B ++ g)[j]?) → (B ++ g).length ≤ (B ++ g').length → K (.bool (p x)) (B ++ g')) → callW Try.prog f [.int .i64 x] (B ++ g) K

/-- slices.IndexFunc at a local slice. -/
theorem indexFunc_spec {n : Nat} {B g : Heap} {v f : Value} {l : List Int} {p : Int → Bool} (hB : B.length = n) (hf : Tells B f p) (a : Acc 1 n (B ++ g) v (l.map fun x => .int .i64 x)) (hl : l.length ≤ 1000000000) (hi : ∀ x ∈ l, inI x) {Q : Value → Heap → Prop}
    (hq : ∀ g', (∀ j, j < (B ++ g).length → (B ++ g')[j]? = (B ++ g)[j]?) → (B ++ g).length ≤ (B ++ g').length →
      (∀ i : Nat, i < l.length → (∀ j (q : j < l.length), j < i → p l[j] = false) → (∀ q : i < l.length, p l[i] = true) → Q (.int .i64 (i : Int)) (B ++ g')) ∧ ((∀ x ∈ l, p x = false) → Q (.int .i64 (-1)) (B ++ g'))) :
    acall Try.prog F_slices_IndexFunc_int_int [v, f] (B ++ g) Q := by
  apply W_slices_IndexFunc_int_int_ok
  unfold W_slices_IndexFunc_int_int
  rw [a.len, oW_some]
  refine ⟨fun k vs H => ∃ (i : Nat) (g' : Heap), vs = [v, f, .int .i64 ((l.map fun x => Value.int .i64 x).length : Int), .int .i64 (i : Int)] ∧ H = B ++ g' ∧ k = l.length - i ∧ i ≤ l.length ∧ (∀ j (q : j < l.length), j < i → p l[j] = false) ∧
    (∀ j, j < (B ++ g).length → (B ++ g')[j]? = (B ++ g)[j]?) ∧ (B ++ g).length ≤ (B ++ g').length, l.length, gcL_same ⟨0, g, by simp⟩, ?_⟩
  rintro k x6 x7 x8 x9 H ⟨i, g', hv, rfl, hk, hile, hno, fr, frl⟩
  simp only [List.cons.injEq, and_true] at hv
  obtain ⟨rfl, rfl, rfl, rfl⟩ := hv
  rw [n_lss, oW_some, bW_dec]
  simp only [List.length_map]
  constructor
  · intro hlt
    have hlt' : i < l.length := by omega
    have a' : Acc 1 n (B ++ g') x6 (l.map fun x => .int .i64 x) := a.congr fun j hj => fr j (by
      obtain ⟨o, x, y, e⟩ := hj
      rcases a with ⟨rfl, _⟩ | ⟨q, cap, c, m, h1, rfl, h3, _⟩
      · cases e
      · cases e; exact getRow_lt h3)
    refine a'.at_ (by omega) int_len (by simpa using hlt') (fun q => by cases q) (fun _ => by simp) ?_
    simp only [List.getElem_map]
    refine hf l[i] g' _ (hi _ (by simp)) fun g2 fr2 frl2 => ?_
    have fr3 : ∀ j, j < (B ++ g).length → (B ++ g2)[j]? = (B ++ g)[j]? := fun j hj => (fr2 j (by omega)).trans (fr j hj)
    rw [bW_bool]
    constructor
    · intro hp
      exact gcV_same ((hq g2 fr3 (by omega)).1 i hlt' hno fun _ => hp)
    · intro hp
      rw [n_add (by omega), oW_some]
      refine ⟨l.length - (i + 1), by omega, gcL_same ⟨i + 1, g2, by simp, rfl, rfl, by omega, fun j q hj => ?_, fr3, by omega⟩⟩
      by_cases c : j = i
      · subst c; exact hp
      · exact hno j q (by omega)
  · intro hge
    refine gcV_same ((hq g' fr frl).2 fun x hx => ?_)
    obtain ⟨j, q, rfl⟩ := List.mem_iff_getElem.1 hx
    exact hno j q (by omega)

theorem Acc.lt {sz n : Nat} {H : Heap} {v : Value} {l : List Value} (a : Acc sz n H v l) {j : Nat} (hj : lies v j) : j < H.length := by
  obtain ⟨o, x, y, e⟩ := hj
  rcases a with ⟨rfl, _⟩ | ⟨q, cap, c, m, h1, rfl, h3, _⟩
  · cases e
  · cases e; exact getRow_lt h3

theorem filter_take_succ {p : Int → Bool} {l : List Int} {j : Nat} (h : j < l.length) : (l.take (j + 1)).filter p = if p l[j] then (l.take j).filter p ++ [l[j]] else (l.take j).filter p := by
  rw [List.take_add_one, List.getElem?_eq_getElem h, List.filter_append]
  cases q : p l[j] <;> simp [q]

/-- slices.DeleteFunc at a local slice. -/
theorem deleteFunc_spec {n : Nat} {B g : Heap} {v f : Value} {l : List Int} {p : Int → Bool} (hB : B.length = n) (hf : Tells B f p) (a : Acc 1 n (B ++ g) v (l.map fun x => .int .i64 x)) (hl : l.length ≤ 1000000000) (hi : ∀ x ∈ l, inI x) {Q : Value → Heap → Prop}
    (hq : ∀ v' g', Acc 1 n (B ++ g') v' ((l.filter fun x => !p x).map fun x => .int .i64 x) → Q v' (B ++ g')) :
    acall Try.prog F_slices_DeleteFunc_int_int [v, f] (B ++ g) Q := by
  apply W_slices_DeleteFunc_int_int_ok
  unfold W_slices_DeleteFunc_int_int
  refine callW_plain.2 (indexFunc_spec hB hf a hl hi fun g' fr frl => ⟨fun i hil hno hp => ?_, fun hno => ?_⟩)
  · have a' : Acc 1 n (B ++ g') v (l.map fun x => .int .i64 x) := a.congr fun j hj => fr j (a.lt hj)
    rw [n_eql, oW_some, bW_dec]
    refine ⟨fun h => by omega, fun _ => ?_⟩
    rw [n_add (by omega), oW_some]
    have h0 : (l.take i).filter (fun x => !p x) = l.take i := by
      rw [List.filter_eq_self]
      intro x hx
      obtain ⟨j, q, rfl⟩ := List.mem_iff_getElem.1 hx
      rw [List.length_take] at q
      rw [List.getElem_take]
      simp [hno j (by omega) (by omega)]
    refine ⟨fun k vs H => ∃ (i j : Nat) (g' : Heap) (c : List Int), vs = [v, f, .int .i64 (i : Int), .int .i64 (j : Int)] ∧ H = B ++ g' ∧ k = l.length - j ∧ j ≤ l.length ∧ i < j ∧ Acc 1 n (B ++ g') v (c.map fun x => .int .i64 x) ∧ c.length = l.length ∧
      c.take i = (l.take j).filter (fun x => !p x) ∧ c.drop j = l.drop j, l.length - (i + 1), gcL_same ⟨i, i + 1, g', l, by simp, rfl, by omega, by omega, by omega, a', rfl, ?_, rfl⟩, ?_⟩
    · rw [filter_take_succ hil]
      simp [hp hil, h0]
    rintro k x9 x10 x11 x12 H ⟨i, j, g1, c, hv, rfl, hk, hjl, hij, ac, hcl, h1, h2⟩
    simp only [List.cons.injEq, and_true] at hv
    obtain ⟨rfl, rfl, rfl, rfl⟩ := hv
    rw [ac.len, oW_some, n_lss, oW_some, bW_dec]
    simp only [List.length_map]
    have hcj : ∀ q : j < l.length, c[j]'(by omega) = l[j] := fun q => by
      have h3 : (c.drop j)[0]? = (l.drop j)[0]? := by rw [h2]
      simp only [List.getElem?_drop, Nat.add_zero] at h3
      rw [List.getElem?_eq_getElem (by omega), List.getElem?_eq_getElem q] at h3
      exact Option.some.inj h3
    constructor
    · intro hlt
      have hlt' : j < l.length := by omega
      refine ac.at_ (by omega) int_len (by simp; omega) (fun q => by cases q) (fun _ => by simp) ?_
      simp only [List.getElem_map, hcj hlt']
      refine hf l[j] g1 _ (hi _ (by simp)) fun g2 fr2 frl2 => ?_
      have ac2 : Acc 1 n (B ++ g2) x9 (c.map fun x => .int .i64 x) := ac.congr fun j hj => fr2 j (ac.lt hj)
      rw [u_not, oW_some, bW_bool]
      have hd : ∀ d : List Int, d.drop j = l.drop j → d.length = l.length → d.drop (j + 1) = l.drop (j + 1) := fun d h _ => by
        rw [← List.drop_drop, ← List.drop_drop, h]
      constructor
      · intro hp
        refine ac2.set hB (by omega) int_len rfl rfl rfl (by simp; omega) fun g3 ac3 fr3 => ?_
        rw [n_add (by omega), oW_some, n_add (by omega), oW_some]
        refine ⟨l.length - (j + 1), by omega, gcL_same ⟨i + 1, j + 1, g3, c.set i l[j], by simp, rfl, rfl, by omega, by omega, by rw [List.map_set]; exact ac3, by simp [hcl], ?_, ?_⟩⟩
        · rw [filter_take_succ hlt', hp, if_pos rfl, ← h1, List.take_add_one, List.getElem?_set_self (by omega), List.take_set_of_le (Nat.le_refl _)]; rfl
        · rw [List.drop_set_of_lt (by omega)]; exact hd c h2 hcl
      · intro hp
        rw [n_add (by omega), oW_some]
        refine ⟨l.length - (j + 1), by omega, gcL_same ⟨i, j + 1, g2, c, by simp, rfl, rfl, by omega, by omega, ac2, hcl, ?_, hd c h2 hcl⟩⟩
        rw [filter_take_succ hlt', hp]; exact h1
    · intro hge
      have hj : j = l.length := by omega
      subst hj
      rw [List.take_length] at h1
      have hli : (l.filter fun x => !p x).length = i := by
        rw [← h1, List.length_take]; omega
      refine clrW_acc hB ac int_len rfl rfl (by simp; omega) (by intro q; simp at q; subst q; simp at hcl; omega) fun g2 ac2 _ => ?_
      refine ac2.pop (by omega) (fun x hx => ?_) (by simp; omega) fun v' ac3 _ => gcV_same ?_
      · rcases List.mem_append.1 hx with q | q
        · exact int_len x (List.mem_of_mem_take q)
        · rw [List.eq_of_mem_replicate q]; rfl
      · refine hq _ _ ?_
        rw [List.take_left' (by simp; omega)] at ac3
        rw [← h1, List.map_take]; exact ac3
  · have a' : Acc 1 n (B ++ g') v (l.map fun x => .int .i64 x) := a.congr fun j hj => fr j (a.lt hj)
    rw [n_eql, oW_some, bW_dec]
    refine ⟨fun _ => gcV_same (hq _ _ ?_), fun h => absurd rfl h⟩
    have : (l.filter fun x => !p x) = l := by
      rw [List.filter_eq_self]; intro x hx; simp [hno x hx]
    rw [this]; exact a'

end Go.Ax

namespace Go.Ax
open Go Go.Proofs Go.RowKit

theorem src_lit {H : Heap} {sz : Nat} {es : List Value} (hz : ∀ x ∈ es, (cellsOf x).length = sz) : srcA H sz (lit es) = some (es.length, es.flatMap cellsOf) := by
  simp only [srcA, List.size_toArray]
  rw [if_pos (by simpa using hz)]
theorem src_nil {H : Heap} {sz : Nat} : srcA H sz (.slice none 0 0) = some (0, []) := rfl
theorem src_emp {H : Heap} {sz : Nat} : srcA H sz emp = some (0, []) := rfl
theorem src_acc {sz n : Nat} {H : Heap} {v : Value} {l : List Value} (a : Acc sz n H v l) : srcA H sz v = some (l.length, l.flatMap cellsOf) := by
  rcases a with ⟨rfl, rfl⟩ | ⟨i, cap, c, m, h1, rfl, h3, h4, h5, h6, h7⟩
  · rfl
  · have := Nat.mul_le_mul_right sz h6
    simp only [srcA, h3]
    rw [if_pos (by omega), List.drop_zero, h7]

/-- slices.Clone of ints: a slice of its own. -/
theorem clone_spec {B g : Heap} {l : List Int} {Q : Value → Heap → Prop} (hl : l.length ≤ 1000000000)
    (hq : ∀ v t, Acc 1 (B ++ g).length (B ++ g ++ t) v (l.map fun x => .int .i64 x) → Q v (B ++ g ++ t)) : acall Try.prog F_slices_Clone_int_int [ints l] (B ++ g) Q := by
  have main : ∀ (x : Value) (l : List Int), nilS_ x (.slice none 0 0) = some false → srcA (B ++ g ++ [.row [] .exact]) 1 x = some ((l.map fun x => Value.int .i64 x).length, (l.map fun x => Value.int .i64 x).flatMap cellsOf) → l.length ≤ 1000000000 →
      (∀ v t, Acc 1 (B ++ g).length (B ++ g ++ t) v (l.map fun x => .int .i64 x) → Q v (B ++ g ++ t)) → acall Try.prog F_slices_Clone_int_int [x] (B ++ g) Q := fun x l hx hs hl hq => by
    apply W_slices_Clone_int_int_ok
    unfold W_slices_Clone_int_int
    rw [hx, eqW_some, oW_some, bW_false]
    refine ⟨_, _, by simp only [bslW, fillL, Option.map_some]; rfl, ?_⟩
    have a0 : Acc 1 (B ++ g).length (B ++ g ++ [.row [] .exact]) (.slice (some ⟨(B ++ g).length, 0, none⟩) 0 0) [] := Acc.made (l := []) (by simp) (Nat.le_refl _)
    refine Acc.more (B := B ++ g) rfl a0 (by omega) (fun x hx => by cases hx) int_len int_ok hs (by simp only [List.length_map, List.length_nil]; omega) (by simp only [List.length_map, List.length_nil]; omega) fun v' g' a' _ _ _ => gcV_same (hq v' g' a')
  cases l with
  | nil =>
    refine acall_lit0 (a := []) (b := []) ?_ (main emp [] rfl rfl (by simp) hq)
    apply W_slices_Clone_int_int_ok
    unfold W_slices_Clone_int_int
    simp
    exact gcV_same (by simpa using hq (.slice none 0 0) [] Acc.nil)
  | cons x l => exact main (ints (x :: l)) (x :: l) rfl (src_lit int_len) hl hq

/-- nfa.Close's own test: is a state none of the machine's? -/
theorem closeTest_spec {B : Heap} {i : Nat} {c : List Value} {n : Nat} (hi : getRow B i = some (c, .exact)) (hc : c[0]? = some (.int .i64 (n : Int))) :
    Tells B (.func (.func F_nfa_Close_D1) #[] #[.pointer (some ⟨i, 0, none⟩)]) (fun x => !decide (inR n x)) := by
  intro x g K _ hk
  rw [callW_known]
  simp only [List.nil_append, List.cons_append]
  refine W_nfa_Close_D1_ok ?_
  unfold W_nfa_Close_D1
  rw [n_lss, oW_some, bW_dec]
  have fin : ∀ b : Bool, b = (!decide (inR n x)) → gcV (B ++ g) K (.bool b) (B ++ g) := fun b hb => gcV_same (by rw [hb]; exact hk g (fun _ _ => rfl) (Nat.le_refl _))
  constructor
  · intro h
    exact fin true (by rw [decide_eq_false (by unfold inR; omega)]; rfl)
  · intro h
    simp [getRow_app hi, hc]
    refine fin _ ?_
    by_cases q : (n : Int) ≤ x
    · rw [decide_eq_true q, decide_eq_false (by unfold inR; omega)]; rfl
    · rw [decide_eq_false q, decide_eq_true (by unfold inR; omega)]; rfl

theorem outs_append {eps : List (Int × Int)} {p : Int × Int} {k : Int} : outs (eps ++ [p]) k = if k = p.1 then outs eps k ++ [p.2] else outs eps k := by
  unfold outs
  rw [List.filter_append, List.map_append]
  by_cases h : k = p.1
  · rw [if_pos h]; simp [h]
  · rw [if_neg h]; simp [Ne.symm h]
theorem mem_outs {eps : List (Int × Int)} {k x : Int} : x ∈ outs eps k ↔ (k, x) ∈ eps := by
  unfold outs
  rw [List.mem_map]
  constructor
  · rintro ⟨p, hp, rfl⟩
    rw [List.mem_filter] at hp
    have : p.1 = k := by simpa using hp.2
    rw [← this]; exact hp.1
  · intro h; exact ⟨(k, x), by simp [List.mem_filter, h], rfl⟩
theorem outs_len {eps : List (Int × Int)} {k : Int} : (outs eps k).length ≤ eps.length := by
  unfold outs
  rw [List.length_map]; exact List.length_filter_le _ _

theorem encP_len {l : List (Int × Int)} : ∀ x ∈ l.map encP, (cellsOf x).length = 2 := fun x hx => by
  obtain ⟨n, _, rfl⟩ := List.mem_map.1 hx; rfl
theorem encA_len {l : List (Int × Int × BS)} : ∀ x ∈ l.map encA, (cellsOf x).length = 6 := fun x hx => by
  obtain ⟨n, _, rfl⟩ := List.mem_map.1 hx; rfl

theorem Mch.row0 {m : Mch} {H t : Heap} : getRow (H ++ (.row m.enc.cells.toList .exact :: t)) H.length = some ([.int .i64 (m.count : Int), lit (m.eps.map encP), lit (m.arcs.map encA), .int .i64 m.start, .int .i64 m.stop], .exact) := by simp [Value.cells]

abbrev mrow (m : Mch) : AObj := .row [.int .i64 (m.count : Int), lit (m.eps.map encP), lit (m.arcs.map encA), .int .i64 m.start, .int .i64 m.stop] .exact

theorem ToOk.step {n : Nat} {H H' : Heap} {E : List (Int × Value)} {f : Int → List Int} {k x : Int} {v : Value} (to : ToOk n H E f) (a : Acc 1 n H' v ((f k ++ [x]).map fun x => .int .i64 x))
    (fr : ∀ j, n ≤ j → j < H.length → ¬ lies ((aget E k).getD (.slice none 0 0)) j → H'[j]? = H[j]?) (ls : ∀ j, lies v j → lies ((aget E k).getD (.slice none 0 0)) j ∨ H.length ≤ j) :
    ToOk n H' (aset E k v) (fun q => if q = k then f k ++ [x] else f q) := by
  have get : ∀ q, (aget (aset E k v) q).getD (.slice none 0 0) = if q = k then v else (aget E q).getD (.slice none 0 0) := fun q => by
    rw [aget_aset]; split <;> rfl
  have old : ∀ q, q ≠ k → Acc 1 n H' ((aget E q).getD (.slice none 0 0)) ((f q).map fun x => .int .i64 x) := fun q hq =>
    (to.acc q).congr fun j hj => fr j ((to.acc q).ge hj) ((to.acc q).lt hj) fun hk => to.apart q k hq j hj hk
  refine ⟨fun q => ?_, fun q q' hne j hj hj' => ?_⟩
  · rw [get]
    by_cases hq : q = k
    · rw [if_pos hq, if_pos hq]; exact a
    · rw [if_neg hq, if_neg hq]; exact old q hq
  · rw [get] at hj hj'
    by_cases hq : q = k
    · rw [if_pos hq] at hj
      have hq' : q' ≠ k := fun e => hne (hq.trans e.symm)
      rw [if_neg hq'] at hj'
      rcases ls j hj with r | r
      · exact to.apart k q' (Ne.symm hq') j r hj'
      · have := (to.acc q').lt hj'; omega
    · rw [if_neg hq] at hj
      by_cases hq' : q' = k
      · rw [if_pos hq'] at hj'
        rcases ls j hj' with r | r
        · exact to.apart q k hq j hj r
        · have := (to.acc q).lt hj; omega
      · rw [if_neg hq'] at hj'; exact to.apart q q' hne j hj hj'

theorem last_split {l : List Int} (h : l.length - 1 < l.length) : l = l.take (l.length - 1) ++ [l[l.length - 1]] := by
  have h1 : l.take (l.length - 1 + 1) = l := List.take_of_length_le (by omega)
  rw [List.take_add_one, List.getElem?_eq_getElem h] at h1
  exact h1.symm
theorem setE_keys {s : List Int} : (setE s).map (·.1) = s := by
  rw [List.map_map]
  exact (List.map_congr_left (g := id) fun _ _ => rfl).trans (List.map_id _)

theorem nodup_le : ∀ (n : Nat) {l : List Int}, l.Nodup → (∀ x ∈ l, inR n x) → l.length ≤ n
  | 0, l, _, h => by
    cases l with
    | nil => simp
    | cons x l => have := h x (by simp); unfold inR at this; omega
  | n + 1, l, hn, h => by
    by_cases hm : (n : Int) ∈ l
    · have h1 := nodup_le n (hn.erase (n : Int)) fun x hx => by
        have h2 := h x (List.mem_of_mem_erase hx)
        have h3 : x ≠ n := fun e => by subst e; exact absurd hx (by rw [hn.mem_erase_iff]; simp)
        unfold inR at *; omega
      rw [List.length_erase_of_mem hm] at h1; omega
    · have h1 := nodup_le n hn fun x hx => by
        have h2 := h x hx
        have h3 : x ≠ n := fun e => by subst e; exact hm hx
        unfold inR at *; omega
      omega

def CloseI2 (C : Heap) (j : Nat) (m : Mch) (l : List Int) (k : Nat) (vs : List Value) (H : Heap) : Prop :=
  ∃ (seen stack : List Int) (v : Value) (g : Heap), vs = [.map (some j), .map (some C.length), v] ∧ H = C ++ [AObj.map (encE (setE seen))] ++ g ∧ Acc 1 (C.length + 1) H v (stack.map fun x => .int .i64 x) ∧ seen.Nodup ∧
    (∀ x, x ∈ seen ∨ x ∈ stack → inR m.count x ∧ EReach m.eps (fun x => x ∈ l ∧ inR m.count x) x) ∧ (∀ x, x ∈ l → inR m.count x → x ∈ seen ∨ x ∈ stack) ∧ (∀ x y, x ∈ seen → (x, y) ∈ m.eps → y ∈ seen ∨ y ∈ stack) ∧
    k = stack.length + (m.count - seen.length) * (m.eps.length + 1) ∧ k ≤ l.length + m.count * (m.eps.length + 1)

def CloseI1 (h : Heap) (m : Mch) (l : List Int) (k : Nat) (vs : List Value) (H : Heap) : Prop :=
  ∃ (i : Nat) (g : Heap) (E : List (Int × Value)), vs = [ints l, .pointer (some ⟨h.length, 0, none⟩), .map (some (h.length + 1)), lit (m.eps.map encP), .int .i64 (m.eps.length : Int), .int .i64 (i : Int)] ∧
    H = h ++ mrow m :: .map (encE E) :: g ∧ k = m.eps.length - i ∧ i ≤ m.eps.length ∧ ToOk (h.length + 2) H E (outs (m.eps.take i))

theorem close_spec {m : Mch} {l : List Int} (hok : ∀ p ∈ m.eps, inR m.count p.1 ∧ inR m.count p.2) (hl : m.eps.length ≤ 1000000000) (hc : m.count ≤ 5000) (hl2 : l.length ≤ 100000000) (hi2 : ∀ x ∈ l, inI x) {h : Heap} {Q : Value → Heap → Prop} (hq : Q (ints (m.clo l)) h) :
    acall Try.prog F_nfa_Close [m.enc, ints l] h Q := by
  apply W_nfa_Close_ok
  unfold W_nfa_Close
  simp [-exists_and_right]
  refine ⟨CloseI1 h m l, m.eps.length, gcL_same ⟨0, [], [], by simp, by simp, rfl, by omega, ?_⟩, ?_⟩
  · exact ⟨fun k => by simpa [outs, aget] using Acc.nil, fun k k' _ j hj => by obtain ⟨o, a, b, e⟩ := hj; cases e⟩
  rintro k x11 x12 x13 x14 x15 x16 H ⟨i, g, E, hv, rfl, hk, hi, to⟩
  simp only [List.cons.injEq, and_true] at hv
  obtain ⟨rfl, rfl, rfl, rfl, rfl, rfl⟩ := hv
  have eB : ∀ (E : List (Int × Value)) (t : Heap), h ++ mrow m :: AObj.map (encE E) :: t = (h ++ [mrow m, AObj.map (encE E)]) ++ t := fun E t => by simp
  have hB : ∀ E : List (Int × Value), (h ++ [mrow m, AObj.map (encE E)]).length = h.length + 2 := fun E => by simp
  have hmap : ∀ (E : List (Int × Value)) (t : Heap), getMap (h ++ mrow m :: AObj.map (encE E) :: t) (h.length + 1) = some (encE E) := fun E t => by rw [map_app]; rfl
  rw [n_lss, oW_some, bW_dec]
  constructor
  · intro hlt
    have hlt' : i < m.eps.length := by omega
    refine ix_lit hlt' rfl ?_
    rw [ld_plit (sz := 2) rfl, oW_some]
    have htk : outs (m.eps.take (i + 1)) = fun q => if q = m.eps[i].1 then outs (m.eps.take i) m.eps[i].1 ++ [m.eps[i].2] else outs (m.eps.take i) q := by
      funext q
      rw [List.take_add_one, List.getElem?_eq_getElem hlt']
      show outs (m.eps.take i ++ [m.eps[i]]) q = _
      rw [outs_append]
      split
      · rename_i e; rw [e]
      · rfl
    generalize m.eps[i] = p at htk
    simp [-exists_and_right, iaA]
    rw [lk_int (hmap _ _), oW_some]
    have a0 := to.acc p.1
    have hv27 : (aget E p.1).getD (.slice none 0 0) = (aget E p.1).getD (.slice none 0 0) := rfl
    generalize hrow : AObj.row [Value.int .i64 p.1, Value.int .i64 p.2] .exact = rp
    rw [eB]
    have hb0 : (outs (m.eps.take i) p.1).length ≤ m.eps.length := Nat.le_trans outs_len (by rw [List.length_take]; omega)
    rw [eB] at a0
    refine bsl1 rfl rfl rfl ?_
    have hlen : (h ++ [mrow m, AObj.map (encE E)] ++ (g ++ [rp])).length = h.length + (g.length + 1 + 1 + 1) := by simp
    have hget : ∀ t : Heap, (h ++ [mrow m, AObj.map (encE E)] ++ (g ++ [rp]) ++ t)[h.length + (g.length + 1 + 1)]? = some rp := fun t => by
      rw [List.getElem?_append_left (by omega)]
      simp
    have hget2 : ∀ t : Heap, (h ++ [mrow m, AObj.map (encE E)] ++ (g ++ [rp]) ++ t)[h.length + 1]? = some (.map (encE E)) := fun t => by
      rw [List.getElem?_append_left (by omega)]
      simp
    refine ⟨by simp only [hget, hget2, and_self], ?_⟩
    have hsrc := src1 (sz := 1) (H := h ++ [mrow m, AObj.map (encE E)] ++ (g ++ [rp])) (e := .int .i64 p.2) rfl
    have a1 : Acc 1 (h.length + 2) (h ++ [mrow m, AObj.map (encE E)] ++ (g ++ [rp]) ++ [AObj.row (cellsOf (Value.int .i64 p.2)) .exact]) ((aget E p.1).getD (.slice none 0 0)) ((outs (m.eps.take i) p.1).map fun x => .int .i64 x) := by
      rw [← List.append_assoc]; exact a0.app.app
    rw [List.append_assoc (h ++ [mrow m, AObj.map (encE E)])] at a1 hsrc ⊢
    refine Acc.more (hB E) a1 (by omega) int_len (es := [.int .i64 p.2]) (by simp) (by simp) hsrc (by simp; omega) (by simp; omega) fun v32 g' a2 f1 f2 f3 => ?_
    have hfr : ∀ j, j < h.length + (g.length + 1 + 1 + 1) → ¬ lies ((aget E p.1).getD (.slice none 0 0)) j → (h ++ [mrow m, AObj.map (encE E)] ++ g')[j]? = (h ++ [mrow m, AObj.map (encE E)] ++ (g ++ [rp] ++ [AObj.row (cellsOf (Value.int .i64 p.2)) .exact]))[j]? := fun j hj hn => f1 j (by simp at hlen ⊢; omega) hn
    have nl1 : ¬ lies ((aget E p.1).getD (.slice none 0 0)) (h.length + (g.length + 1 + 1)) := fun q => by
      have h1 := a0.lt q
      simp at h1
    refine ⟨hfr _ (by omega) nl1, ?_⟩
    rw [← eB, up_int (hmap E g'), sW_some, n_add (by omega), oW_some]
    have hset : (h ++ mrow m :: AObj.map (encE E) :: g').set (h.length + 1) (.map (encE (aset E p.1 v32))) = h ++ mrow m :: AObj.map (encE (aset E p.1 v32)) :: g' := by rw [set_app]; rfl
    rw [hset]
    refine ⟨m.eps.length - (i + 1), by omega, gcL_same ⟨i + 1, g', aset E p.1 v32, by simp, rfl, rfl, by omega, ?_⟩⟩
    rw [htk]
    rw [eB] at to
    have same : ∀ j, h.length + 2 ≤ j → (h ++ mrow m :: AObj.map (encE (aset E p.1 v32)) :: g')[j]? = (h ++ [mrow m, AObj.map (encE E)] ++ g')[j]? := fun j hj => by
      rw [eB, List.getElem?_append_right (by rw [hB]; exact hj), List.getElem?_append_right (by rw [hB]; exact hj), hB, hB]
    refine to.step (v := v32) ?_ (fun j h1 h2 hn => ?_) fun j hj => ?_
    · refine Acc.congr ?_ fun j hj => same j ?_
      · simpa using a2
      · exact a2.ge hj
    · rw [same j h1, f1 j (by simp at h2 ⊢; omega) hn, ← List.append_assoc, ← List.append_assoc, List.append_assoc _ [rp], List.getElem?_append_left h2]
    · exact (f2 j hj).imp id fun q => by simp at q ⊢; omega
  · intro hge
    have hi' : i = m.eps.length := by omega
    subst hi'
    rw [List.take_length] at to
    generalize hB1 : h ++ mrow m :: AObj.map (encE E) :: g ++ [AObj.map []] = B1
    have hB1l : B1.length = h.length + (g.length + 1 + 1 + 1) := by rw [← hB1]; simp
    have hlen : (h ++ mrow m :: AObj.map (encE E) :: g).length = h.length + (g.length + 1 + 1) := by simp
    have hseen : getMap B1 (h ++ mrow m :: AObj.map (encE E) :: g).length = some (encE (setE [])) := by rw [← hB1, map_app0]; rfl
    have hmap1 : getMap B1 (h.length + 1) = some (encE E) := by rw [← hB1]; exact getMap_app (hmap E g)
    have hrow1 : getRow B1 h.length = some ([.int .i64 (m.count : Int), lit (m.eps.map encP), lit (m.arcs.map encA), .int .i64 m.start, .int .i64 m.stop], .exact) := by
      rw [← hB1]; exact getRow_app row_app0
    have to1 : ToOk (h.length + 2) B1 E (outs m.eps) := ⟨fun k => by rw [← hB1]; exact (to.acc k).app, to.apart⟩
    have e0 : ∀ t : Heap, B1 ++ [] ++ t = B1 ++ t := fun t => by simp
    rw [← List.append_nil B1]
    refine clone_spec (by omega) fun v t a => ?_
    rw [List.append_nil] at a ⊢
    have ht := closeTest_spec (n := m.count) hrow1 rfl
    refine deleteFunc_spec (B := B1) rfl ht a (by omega) hi2 fun v' g1 a1 => ?_
    generalize hC : h ++ mrow m :: AObj.map (encE E) :: g = C at *
    subst hB1
    refine ⟨CloseI2 C (h.length + 1) m l, _, gcL_same ⟨[], l.filter fun x => !!decide (inR m.count x), v', g1, rfl, rfl, a1.low (by simp), by simp, ?_, ?_, ?_, rfl, ?_⟩, ?_⟩
    · intro x hx
      have hx' : x ∈ l ∧ inR m.count x := by simpa using hx
      exact ⟨hx'.2, .base hx'⟩
    · intro x h1 h2; right; simp [h1, h2]
    · intro x y h1; simp at h1
    · have := List.length_filter_le (fun x => !!decide (inR m.count x)) l
      simp only [List.length_nil, Nat.sub_zero]
      omega
    rintro k x45 x46 x47 H ⟨seen, stack, v, g2, hv, rfl, ac, hn, h1, h2, h3, hk, hk2⟩
    simp only [List.cons.injEq, and_true] at hv
    obtain ⟨rfl, rfl, rfl⟩ := hv
    rw [ac.len, oW_some, n_gtr, oW_some, bW_dec]
    simp only [List.length_map]
    have hseen : ∀ t, getMap (C ++ [AObj.map (encE (setE seen))] ++ t) C.length = some (encE (setE seen)) := fun t => by rw [List.append_assoc, map_app0]; rfl
    have hCB : (C ++ [AObj.map (encE (setE seen))]).length = C.length + 1 := by simp
    constructor
    · intro hpos
      have hsl : stack.length - 1 < stack.length := by omega
      have hcast : (stack.length : Int) - 1 = ((stack.length - 1 : Nat) : Int) := by omega
      have hsb : stack.length ≤ 100000000 + 5000 * 1000000001 := by
        have := Nat.mul_le_mul hc (show m.eps.length + 1 ≤ 1000000001 by omega)
        omega
      rw [oW_some, n_sub (by omega), oW_some, hcast]
      refine ac.at_ (by omega) int_len (by simpa using hsl) (fun q => by cases q) (fun _ => by simp) ?_
      simp only [List.getElem_map]
      rw [oW_some, n_sub (by omega), oW_some, hcast]
      refine ac.pop (by omega) int_len (by simp) fun v1 ac1 hl1 => ?_
      have hx := h1 stack[stack.length - 1] (.inr (by simp))
      have hst : stack = stack.take (stack.length - 1) ++ [stack[stack.length - 1]] := last_split hsl
      rw [← List.map_take] at ac1
      generalize stack[stack.length - 1] = x at hx hst ⊢
      generalize stack.take (stack.length - 1) = st at hst ac1
      subst hst
      rw [lk_int (hseen g2), oW_some, aget_setE, u_not, oW_some, bW_bool]
      have hEx : m.eps.length + 1 ≤ 1000000001 := by omega
      constructor
      · intro hnew
        have hnew' : x ∉ seen := by simpa using hnew
        rw [up_int (hseen g2), sW_some, aset_setE, if_neg hnew']
        have hset : (C ++ [AObj.map (encE (setE seen))] ++ g2).set C.length (.map (encE (setE (seen ++ [x])))) = C ++ [AObj.map (encE (setE (seen ++ [x])))] ++ g2 := by
          rw [List.append_assoc, set_app0, List.append_assoc]; rfl
        rw [hset]
        have hmapC : ∀ t : Heap, getMap (C ++ t) (h.length + 1) = some (encE E) := fun t => getMap_app (by rw [← hC]; exact hmap E g)
        rw [List.append_assoc C, lk_int (hmapC _), oW_some, ← List.append_assoc C]
        have hn' : (seen ++ [x]).Nodup := by
          rw [List.nodup_append]
          exact ⟨hn, by simp, fun a ha b hb e => by simp at hb; subst hb; subst e; exact hnew' ha⟩
        have hcnt := nodup_le m.count hn' fun y hy => by
          rcases List.mem_append.1 hy with r | r
          · exact (h1 y (.inl r)).1
          · simp at r; subst r; exact hx.1
        simp only [List.length_append, List.length_cons, List.length_nil] at hcnt hk
        have ac2 : Acc 1 (C.length + 1) (C ++ [AObj.map (encE (setE (seen ++ [x])))] ++ g2) v1 (st.map fun x => .int .i64 x) := ac1.congr fun j hj => by
          have := ac1.ge hj
          rw [List.getElem?_append_right (by simp; omega), List.getElem?_append_right (by simp; omega)]
          simp
        have asrc : Acc 1 (h.length + 2) (C ++ [AObj.map (encE (setE (seen ++ [x])))] ++ g2) ((aget E x).getD (.slice none 0 0)) ((outs m.eps x).map fun x => .int .i64 x) := (to.acc x).app.app
        have hol : (outs m.eps x).length ≤ m.eps.length := outs_len
        have hmul : (m.count - seen.length) * (m.eps.length + 1) = (m.count - (seen.length + 1)) * (m.eps.length + 1) + (m.eps.length + 1) := by
          rw [show m.count - seen.length = (m.count - (seen.length + 1)) + 1 by omega, Nat.succ_mul]
        refine Acc.more (by simp) ac2 (by omega) int_len int_len int_ok (src_acc asrc) (by simp only [List.length_map]; simp only [List.length_append, List.length_cons, List.length_nil] at hsb; omega) (by simp only [List.length_map]; simp only [List.length_append, List.length_cons, List.length_nil] at hsb; omega) fun v2 g3 ac3 _ _ _ => ?_
        refine ⟨(st ++ outs m.eps x).length + (m.count - (seen ++ [x]).length) * (m.eps.length + 1), by simp only [List.length_append, List.length_cons, List.length_nil, Nat.zero_add]; omega, gcL_same ⟨seen ++ [x], st ++ outs m.eps x, v2, g3, rfl, rfl, by rw [List.map_append]; exact ac3, hn', fun y hy => ?_, fun y q1 q2 => ?_, fun y z q1 q2 => ?_, rfl, by simp only [List.length_append, List.length_cons, List.length_nil, Nat.zero_add]; omega⟩⟩
        · rcases hy with r | r
          · rcases List.mem_append.1 r with r | r
            · exact h1 y (.inl r)
            · simp at r; subst r; exact hx
          · rcases List.mem_append.1 r with r | r
            · exact h1 y (.inr (by simp [r]))
            · have he := mem_outs.1 r
              exact ⟨(hok _ he).2, .step hx.2 he⟩
        · rcases h2 y q1 q2 with r | r
          · exact .inl (by simp [r])
          · rcases List.mem_append.1 r with r | r
            · exact .inr (by simp [r])
            · simp at r; subst r; exact .inl (by simp)
        · rcases List.mem_append.1 q1 with r | r
          · rcases h3 y z r q2 with r | r
            · exact .inl (by simp [r])
            · rcases List.mem_append.1 r with r | r
              · exact .inr (by simp [r])
              · simp at r; subst r; exact .inl (by simp)
          · simp at r; subst r
            exact .inr (List.mem_append.2 (.inr (mem_outs.2 q2)))
      · intro hold
        have hold' : x ∈ seen := by simpa using hold
        refine ⟨st.length + (m.count - seen.length) * (m.eps.length + 1), by simp at hk; omega, gcL_same ⟨seen, st, v1, g2, rfl, rfl, ac1, hn, fun y hy => h1 y (hy.imp id fun q => by simp [q]), fun y q1 q2 => ?_, fun y z q1 q2 => ?_, rfl, by simp at hk; omega⟩⟩
        · rcases h2 y q1 q2 with r | r
          · exact .inl r
          · rcases List.mem_append.1 r with r | r
            · exact .inr r
            · simp at r; subst r; exact .inl hold'
        · rcases h3 y z q1 q2 with r | r
          · exact .inl r
          · rcases List.mem_append.1 r with r | r
            · exact .inr r
            · simp at r; subst r; exact .inl hold'
    · intro hz
      have : stack = [] := List.length_eq_zero_iff.1 (by omega)
      subst this
      have hcl : ∀ x, x ∈ seen ↔ x ∈ m.clo l := fun x => by
        rw [Mch.mem_clo]
        constructor
        · intro hx; exact h1 x (.inl hx)
        · rintro ⟨hr, he⟩
          clear hr
          induction he with
          | base h0 => simpa using h2 _ h0.1 h0.2
          | step _ e ih => simpa using h3 _ _ ih e
      refine sortedKeys_spec (hseen g2) setE_keys hn (fun k hk => ?_) ?_ fun l' p1 p2 t => ?_
      · have := (h1 k (.inl hk)).1; unfold inR at this; omega
      · have := nodup_le m.count hn fun x hx => (h1 x (.inl hx)).1
        omega
      · have : l' = m.clo l := rising_eq p1 (m.clo_sorted l) fun x => by rw [p2, hcl]
        subst this
        rw [← hC]
        simp only [List.append_assoc, List.cons_append]
        exact gcV_end (.cl (Cl.lit' int_cl)) hq

end Go.Ax

namespace Go.Ax
open Go Go.Proofs Go.RowKit

theorem encP_cl {l : List (Int × Int)} : ∀ e ∈ l.map encP, ∀ x ∈ cellsOf e, Cl x := fun e he x hx => by
  obtain ⟨p, _, rfl⟩ := List.mem_map.1 he
  simp at hx
  rcases hx with rfl | rfl <;> exact .int _ _
theorem encA_cl {l : List (Int × Int × BS)} : ∀ e ∈ l.map encA, ∀ x ∈ cellsOf e, Cl x := fun e he x hx => by
  obtain ⟨p, _, rfl⟩ := List.mem_map.1 he
  simp at hx
  rcases hx with rfl | rfl | rfl | rfl | rfl | rfl <;> exact .int _ _

def Mch.to (m : Mch) (l : List Int) (b : Nat) : List Int := (m.arcs.filter fun a => decide (a.1 ∈ l) && a.2.2.has b).map (·.2.1)
noncomputable def Mch.step (m : Mch) (l : List Int) (b : Nat) : List Int := m.clo (m.to l b)

def toTake (m : Mch) (l : List Int) (b i : Nat) : List Int := ((m.arcs.take i).filter fun a => decide (a.1 ∈ l) && a.2.2.has b).map (·.2.1)
theorem toTake_succ {m : Mch} {l : List Int} {b i : Nat} (h : i < m.arcs.length) : toTake m l b (i + 1) = if (decide (m.arcs[i].1 ∈ l) && m.arcs[i].2.2.has b) = true then toTake m l b i ++ [m.arcs[i].2.1] else toTake m l b i := by
  unfold toTake
  rw [List.take_add_one, List.getElem?_eq_getElem h]
  simp only [Option.toList, List.filter_append, List.map_append]
  cases q : (decide (m.arcs[i].1 ∈ l) && m.arcs[i].2.2.has b) <;> simp [q]

def StepI1 (h : Heap) (m : Mch) (l : List Int) (b : Nat) (k : Nat) (vs : List Value) (H : Heap) : Prop :=
  ∃ (i : Nat) (s : List Int), vs = [byte b, .pointer (some ⟨h.length, 0, none⟩), .map (some (h.length + 1)), ints l, .int .i64 (l.length : Int), .int .i64 (i : Int)] ∧
    H = h ++ [mrow m, .map (encE (setE s))] ∧ k = l.length - i ∧ i ≤ l.length ∧ ∀ x, x ∈ s ↔ x ∈ l.take i

def StepI2 (h : Heap) (m : Mch) (l : List Int) (b : Nat) (s : List Int) (k : Nat) (vs : List Value) (H : Heap) : Prop :=
  ∃ (i : Nat) (v : Value) (g : Heap), vs = [byte b, .pointer (some ⟨h.length, 0, none⟩), .map (some (h.length + 1)), v, lit (m.arcs.map encA), .int .i64 (m.arcs.length : Int), .int .i64 (i : Int)] ∧
    H = h ++ [mrow m, .map (encE (setE s))] ++ g ∧ k = m.arcs.length - i ∧ i ≤ m.arcs.length ∧ Acc 1 (h.length + 2) H v ((toTake m l b i).map fun x => .int .i64 x)

theorem step_spec {m : Mch} {l : List Int} {b : Nat} (hb : b < 256) (hok : m.ok) (hl : m.eps.length ≤ 1000000000) (hla : m.arcs.length ≤ 100000000) (hc : m.count ≤ 5000) (hl2 : l.length ≤ 100000000) {h : Heap} {Q : Value → Heap → Prop} (hq : Q (ints (m.step l b)) h) :
    acall Try.prog F_nfa_Step [m.enc, ints l, byte b] h Q := by
  apply W_nfa_Step_ok
  unfold W_nfa_Step
  simp [-exists_and_right]
  refine ⟨StepI1 h m l b, l.length, gcL_same ⟨0, [], by simp, by simp, by simp, by omega, by simp⟩, ?_⟩
  rintro k x9 x10 x11 x12 x13 x14 H ⟨i, s, hv, rfl, hk, hi, hs⟩
  simp only [List.cons.injEq, and_true] at hv
  obtain ⟨rfl, rfl, rfl, rfl, rfl, rfl⟩ := hv
  rw [n_lss, oW_some, bW_dec]
  have hmap : ∀ (s : List Int) (t : Heap), getMap (h ++ [mrow m, AObj.map (encE (setE s))] ++ t) (h.length + 1) = some (encE (setE s)) := fun s t => by rw [List.append_assoc, map_app]; rfl
  constructor
  · intro hlt
    have hlt' : i < l.length := by omega
    refine ix_ints hlt' ?_
    have := hmap s []
    rw [List.append_nil] at this
    rw [up_int this, sW_some, n_add (by omega), oW_some, aset_setE, set_app]
    refine ⟨l.length - (i + 1), by omega, gcL_same ⟨i + 1, if l[i] ∈ s then s else s ++ [l[i]], by simp, ?_, rfl, by omega, fun x => ?_⟩⟩
    · split <;> rfl
    · rw [List.take_add_one, List.getElem?_eq_getElem hlt']
      simp only [Option.toList, List.mem_append, ← hs x]
      split
      · rename_i hm
        constructor
        · exact .inl
        · rintro (q | q)
          · exact q
          · simp at q; subst q; exact hm
      · simp
  · intro hge
    have hil : i = l.length := by omega
    subst hil
    rw [List.take_length] at hs
    simp [-exists_and_right]
    refine ⟨StepI2 h m l b s, m.arcs.length, gcL_same ⟨0, .slice none 0 0, [], by simp, by simp, by simp, by omega, ?_⟩, ?_⟩
    · simpa [toTake] using Acc.nil
    rintro k x28 x29 x30 x31 x32 x33 x34 H ⟨i, v, g, hv, rfl, hk, hi, ac⟩
    simp only [List.cons.injEq, and_true] at hv
    obtain ⟨rfl, rfl, rfl, rfl, rfl, rfl, rfl⟩ := hv
    have hB : (h ++ [mrow m, AObj.map (encE (setE s))]).length = h.length + 2 := by simp
    have hrow : ∀ t, getRow (h ++ [mrow m, AObj.map (encE (setE s))] ++ t) h.length = some ([.int .i64 (m.count : Int), lit (m.eps.map encP), lit (m.arcs.map encA), .int .i64 m.start, .int .i64 m.stop], .exact) := fun t => by
      rw [List.append_assoc, row_app0]; rfl
    rw [n_lss, oW_some, bW_dec]
    have hlen : (toTake m l b i).length ≤ i := by
      unfold toTake
      rw [List.length_map]
      exact Nat.le_trans (List.length_filter_le _ _) (by rw [List.length_take]; omega)
    constructor
    · intro hlt
      have hlt' : i < m.arcs.length := by omega
      refine ix_lit hlt' rfl ?_
      rw [ld_plit (sz := 6) rfl, oW_some]
      have hts := toTake_succ (l := l) (b := b) hlt'
      generalize m.arcs[i] = a at hts
      generalize hH : h ++ [mrow m, AObj.map (encE (setE s))] ++ g = H at *
      have hm2 : ∀ t, getMap (H ++ t) (h.length + 1) = some (encE (setE s)) := fun t => by rw [← hH, List.append_assoc]; exact hmap s _
      simp only [stW_agg, row_app0, row_0, Option.bind_some]
      rw [if_pos (by simp), sW_some, set_app0]
      simp only [List.set_cons_zero, writeL_cons, writeL_nil, List.set_cons_succ, cellsOf_agg]
      simp [-exists_and_right, lk_int (hm2 _), aget_setE]
      rw [bW_dec]
      have fin : ∀ (v' : Value) (g' : Heap) (p : Bool), (decide (a.1 ∈ l) && a.2.2.has b) = p → Acc 1 (h.length + 2) (h ++ [mrow m, AObj.map (encE (setE s))] ++ g') v' ((if p = true then toTake m l b i ++ [a.2.1] else toTake m l b i).map fun x => .int .i64 x) →
          oW (binN .add (.int .i64 (i : Int)) (.int .i64 1)) fun v55 => ∃ m26, m26 < k ∧ gcL h (StepI2 h m l b s m26) [byte b, .pointer (some ⟨h.length, 0, none⟩), .map (some (h.length + 1)), v', lit (m.arcs.map encA), .int .i64 (m.arcs.length : Int), v55] (h ++ [mrow m, AObj.map (encE (setE s))] ++ g') := fun v' g' p hp ha => by
        rw [n_add (by omega), oW_some]
        exact ⟨m.arcs.length - (i + 1), by omega, gcL_same ⟨i + 1, v', g', by simp, rfl, rfl, by omega, by rw [hts, hp]; exact ha⟩⟩
      have eH : ∀ t : Heap, H ++ t = h ++ [mrow m, AObj.map (encE (setE s))] ++ (g ++ t) := fun t => by rw [← hH]; simp
      have ac' : ∀ t : Heap, Acc 1 (h.length + 2) (h ++ [mrow m, AObj.map (encE (setE s))] ++ (g ++ t)) x31 ((toTake m l b i).map fun x => .int .i64 x) := fun t => by rw [← eH]; exact ac.app
      constructor
      · intro hin
        have hin' : a.1 ∈ l := (hs _).1 hin
        refine bsHas_spec (s := a.2.2) hb ?_
        rw [bW_bool]
        constructor
        · intro hp
          rw [row_app0]
          show oW (some (.int .i64 a.2.1)) _
          rw [oW_some]
          rw [eH]
          refine Acc.push hB (ac' _) (by omega) int_len rfl rfl rfl rfl (by simp; omega) (by simp; omega) fun v' g' a2 _ _ _ => ?_
          exact fin v' g' true (by simp [hin', hp]) (by simpa using a2)
        · intro hp
          rw [eH]
          exact fin _ _ false (by simp [hin', hp]) (by simpa using ac' _)
      · intro hnin
        have hnin' : ¬ a.1 ∈ l := fun q => hnin ((hs _).2 q)
        rw [eH]
        exact fin _ _ false (by simp [hnin']) (by simpa using ac' _)
    · intro hge
      have hil : i = m.arcs.length := by omega
      subst hil
      have e1 : toTake m l b m.arcs.length = m.to l b := by unfold toTake Mch.to; rw [List.take_length]
      rw [e1] at ac hlen
      rw [ldW_agg, hrow, Option.bind_some, if_pos (by simp), oW_some]
      show acall Try.prog F_nfa_Close [m.enc, x31] _ _
      obtain ⟨fr, r, g', f1, f2, f3, f4, f5⟩ := ac.frz hB (by omega) int_len int_cl
      refine acall_frz f1 (args2 := [m.enc, ints (m.to l b)]) ⟨.cl ?_, f2, trivial⟩ ?_
      · exact .agg _ (by simp; exact ⟨.int _ _, Cl.lit' encP_cl, Cl.lit' encA_cl, .int _ _, .int _ _⟩)
      · refine close_spec hok.1 hl hc (by omega) (fun x hx => ?_) ?_
        · obtain ⟨a, ha, rfl⟩ := List.mem_map.1 hx
          have := (hok.2.1 a (List.mem_filter.1 ha).1).2
          unfold inR at this; omega
        · rw [List.append_assoc]
          exact gcV_end (.cl (Cl.lit' int_cl)) hq

end Go.Ax

