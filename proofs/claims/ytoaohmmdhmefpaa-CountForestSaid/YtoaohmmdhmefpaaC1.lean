/- Ax, rules 1: the small words at values that are known. -/
import Derived.Test.YtoaohmmdhmefpaaA23
namespace Go.Ax
open Go.RowKit

abbrev fn (f : FuncId) : Value := .func (.func f) #[] #[]
def letH (h : Heap) (K : Heap → Prop) : Prop := K h

theorem oW_some {v : Value} {K : Value → Prop} : oW (some v) K ↔ K v := ⟨fun ⟨_, h, k⟩ => by cases h; exact k, fun k => ⟨v, rfl, k⟩⟩
theorem hW_some {v : Value} {h : Heap} {K : Value → Heap → Prop} : hW (some (v, h)) K ↔ K v h := ⟨fun ⟨_, _, h, k⟩ => by cases h; exact k, fun k => ⟨v, h, rfl, k⟩⟩
theorem sW_some {h : Heap} {K : Heap → Prop} : sW (some h) K ↔ K h := ⟨fun ⟨_, h, k⟩ => by cases h; exact k, fun k => ⟨h, rfl, k⟩⟩
theorem bW_bool {p : Bool} {A B : Prop} : bW (.bool p) A B ↔ (p = true → A) ∧ (p = false → B) :=
  ⟨fun ⟨_, h, a, b⟩ => by cases h; exact ⟨a, b⟩, fun ⟨a, b⟩ => ⟨p, rfl, a, b⟩⟩
theorem bW_true {A B : Prop} : bW (.bool true) A B ↔ A := by simp [bW_bool]
theorem bW_false {A B : Prop} : bW (.bool false) A B ↔ B := by simp [bW_bool]
theorem bW_dec {p : Prop} [Decidable p] {A B : Prop} : bW (.bool (decide p)) A B ↔ (p → A) ∧ (¬ p → B) := by simp [bW_bool]

section
variable {P : Program}
theorem callW_known {g : FuncId} {first captured : Array Value} {args : List Value} {h : Heap} {K : Value → Heap → Prop} :
    callW P (.func (.func g) first captured) args h K ↔ acall P g (first.toList ++ args ++ captured.toList) h K :=
  ⟨fun ⟨_, _, _, e, k⟩ => by cases e; exact k, fun k => ⟨g, first, captured, rfl, k⟩⟩
theorem callW_plain {g : FuncId} {args : List Value} {h : Heap} {K : Value → Heap → Prop} :
    callW P (.func (.func g) #[] #[]) args h K ↔ acall P g args h K := by rw [callW_known]; simp

/-- The whole numbers of an int. -/
abbrev inI (a : Int) : Prop := -9223372036854775808 ≤ a ∧ a ≤ 9223372036854775807
theorem wrap_i64 {a : Int} (h : inI a) : IntKind.i64.wrap a = a := by
  obtain ⟨h1, h2⟩ := h
  have e : IntKind.i64.wrap a = (let m := a % 18446744073709551616; if (true && decide (m ≥ 9223372036854775808)) = true then m - 18446744073709551616 else m) := rfl
  rw [e]
  simp only [Bool.true_and, decide_eq_true_eq]
  split <;> omega
abbrev inB (a : Int) : Prop := 0 ≤ a ∧ a ≤ 255
theorem wrap_u8 {a : Int} (h : inB a) : IntKind.u8.wrap a = a := by
  obtain ⟨h1, h2⟩ := h
  have e : IntKind.u8.wrap a = (let m := a % 256; if (false && decide (m ≥ 128)) = true then m - 256 else m) := rfl
  rw [e]
  simp only [Bool.false_and]
  simp; omega
theorem wrap_u8' {a : Int} : IntKind.u8.wrap a = a % 256 := by
  have e : IntKind.u8.wrap a = (let m := a % 256; if (false && decide (m ≥ 128)) = true then m - 256 else m) := rfl
  rw [e]; simp
theorem wrap_u64' {a : Int} : IntKind.u64.wrap a = a % 18446744073709551616 := by
  have e : IntKind.u64.wrap a = (let m := a % 18446744073709551616; if (false && decide (m ≥ 9223372036854775808)) = true then m - 18446744073709551616 else m) := rfl
  rw [e]; simp

theorem n_add {a b : Int} (h : inI (a + b)) : binN .add (.int .i64 a) (.int .i64 b) = some (.int .i64 (a + b)) := by simp [binN, intOp, wrap_i64 h]
theorem n_sub {a b : Int} (h : inI (a - b)) : binN .sub (.int .i64 a) (.int .i64 b) = some (.int .i64 (a - b)) := by simp [binN, intOp, wrap_i64 h]
theorem n_mul {a b : Int} (h : inI (a * b)) : binN .mul (.int .i64 a) (.int .i64 b) = some (.int .i64 (a * b)) := by simp [binN, intOp, wrap_i64 h]
theorem n_lss {k : IntKind} {a b : Int} : binN .lss (.int k a) (.int k b) = some (.bool (decide (a < b))) := by simp [binN, intOp]
theorem n_leq {k : IntKind} {a b : Int} : binN .leq (.int k a) (.int k b) = some (.bool (decide (a ≤ b))) := by simp [binN, intOp]
theorem n_gtr {k : IntKind} {a b : Int} : binN .gtr (.int k a) (.int k b) = some (.bool (decide (b < a))) := by simp [binN, intOp]
theorem n_geq {k : IntKind} {a b : Int} : binN .geq (.int k a) (.int k b) = some (.bool (decide (b ≤ a))) := by simp [binN, intOp]
theorem n_eql {k : IntKind} {a b : Int} : binN .eql (.int k a) (.int k b) = some (.bool (decide (a = b))) := by
  simp [binN, intOp]
  by_cases h : a = b <;> simp [h]
theorem n_neq {k : IntKind} {a b : Int} : binN .neq (.int k a) (.int k b) = some (.bool (decide (a ≠ b))) := by
  simp [binN, intOp, bne]
  by_cases h : a = b <;> simp [h]
theorem n_quo {a b : Int} (hb : b ≠ 0) (h : inI (a.tdiv b)) : binN .quo (.int .i64 a) (.int .i64 b) = some (.int .i64 (a.tdiv b)) := by simp [binN, intOp, hb, wrap_i64 h]
theorem n_rem {k : IntKind} {a b : Int} (hb : b ≠ 0) : binN .rem (.int k a) (.int k b) = some (.int k (a.tmod b)) := by simp [binN, intOp, hb]
theorem u_not {b : Bool} : unA .not (.bool b) = some (.bool !b) := rfl
theorem pick_true {a b : Value} : pickA (.bool true) a b = some a := rfl
theorem pick_false {a b : Value} : pickA (.bool false) a b = some b := rfl
theorem pick_bool {p : Bool} {a b : Value} : pickA (.bool p) a b = some (bif p then a else b) := by cases p <;> rfl

/-! Heaps that are written out. -/
theorem row_app {h t : Heap} {k : Nat} : getRow (h ++ t) (h.length + k) = getRow t k := by
  unfold getRow; rw [List.getElem?_append_right (by omega), Nat.add_sub_cancel_left]
theorem row_app0 {h t : Heap} : getRow (h ++ t) h.length = getRow t 0 := row_app (k := 0)
theorem map_app {h t : Heap} {k : Nat} : getMap (h ++ t) (h.length + k) = getMap t k := by
  unfold getMap; rw [List.getElem?_append_right (by omega), Nat.add_sub_cancel_left]
theorem map_app0 {h t : Heap} : getMap (h ++ t) h.length = getMap t 0 := map_app (k := 0)
theorem set_app {h t : Heap} {k : Nat} {o : AObj} : (h ++ t).set (h.length + k) o = h ++ t.set k o := by
  rw [List.set_append_right _ _ (by omega), Nat.add_sub_cancel_left]
theorem set_app0 {h t : Heap} {o : AObj} : (h ++ t).set h.length o = h ++ t.set 0 o := set_app (k := 0)
theorem row_0 {c : List Value} {m : Md} {t : Heap} : getRow (.row c m :: t) 0 = some (c, m) := rfl
theorem row_s {o : AObj} {t : Heap} {k : Nat} : getRow (o :: t) (k + 1) = getRow t k := by unfold getRow; simp
theorem map_0 {es : List (Value × Value)} {t : Heap} : getMap (.map es :: t) 0 = some es := rfl
theorem map_s {o : AObj} {t : Heap} {k : Nat} : getMap (o :: t) (k + 1) = getMap t k := by unfold getMap; simp
theorem len_app1 {h : Heap} {o : AObj} : (h ++ [o]).length = h.length + 1 := by simp

/-! Frozen slices. -/
theorem cellsOf_int {k : IntKind} {n : Int} : cellsOf (.int k n) = [.int k n] := rfl
theorem cellsOf_bool {b : Bool} : cellsOf (.bool b) = [.bool b] := rfl
theorem cellsOf_str {s : ByteArray} : cellsOf (.string s) = [.string s] := rfl
theorem cellsOf_agg {cs : Array Value} : cellsOf (.agg cs) = cs.toList := rfl
theorem cellsOf_func {f : Fn} {a b : Array Value} : cellsOf (.func f a b) = [.func f a b] := rfl
theorem cellsOf_slice {a : Option Addr} {l c : Nat} : cellsOf (.slice a l c) = [.slice a l c] := rfl
theorem cellsOf_ptr {a : Option Addr} : cellsOf (.pointer a) = [.pointer a] := rfl
theorem cellsOf_map {a : Option Nat} : cellsOf (.map a) = [.map a] := rfl

theorem lenS_lit {es : List Value} : lenS (lit es) = some (.int .i64 es.length) := by simp [lenS]
theorem iaS_lit {sz : Nat} {es : List Value} {n : Int} {k : IntKind} {e : Value} (h0 : 0 ≤ n) (he : es[n.toNat]? = some e) (hz : (cellsOf e).length = sz) : iaS sz (lit es) (.int k n) = some (plit (cellsOf e)) := by
  simp only [iaS, if_pos h0, litIx, he, if_pos hz]
theorem ld_plit1 {sz : Nat} {h : Heap} {v : Value} {cs : List Value} : ldW false sz h (plit (v :: cs)) = some v := by simp [ldW, litLoad]
theorem ld_plit {sz : Nat} {h : Heap} {cs : List Value} (hs : cs.length = sz) : ldW true sz h (plit cs) = some (.agg cs.toArray) := by
  subst hs; simp [ldW, litLoad]
theorem fa_plit {off sz : Nat} {cs : List Value} (hs : off + sz ≤ cs.length) : faW off sz (plit cs) = some (plit ((cs.drop off).take sz)) := by
  simp [faW, plitSub, hs]

/-- The element at a place of a frozen slice, loaded. -/
theorem at_lit {sz : Nat} {agg : Bool} {h : Heap} {es : List Value} {n : Int} {k : IntKind} {e : Value} {K : Value → Prop} (h0 : 0 ≤ n) (he : es[n.toNat]? = some e) (hz : (cellsOf e).length = sz)
    (ha : agg = true → ∃ cs, e = .agg cs) (hb : agg = false → cellsOf e = [e]) (k1 : K e) : oW (iaS sz (lit es) (.int k n)) fun v => oW (ldW agg sz h v) K := by
  refine ⟨_, iaS_lit h0 he hz, e, ?_, k1⟩
  cases agg with
  | true => obtain ⟨cs, rfl⟩ := ha rfl; exact ld_plit hz
  | false => rw [hb rfl]; exact ld_plit1

end
end Go.Ax
