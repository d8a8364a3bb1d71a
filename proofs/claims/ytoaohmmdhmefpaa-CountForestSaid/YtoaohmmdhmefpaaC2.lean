/- Ax, rules 2: what grows by appends; frozen slices; calls. -/
import Derived.Test.YtoaohmmdhmefpaaC1
namespace Go.Ax
open Go.RowKit

attribute [simp] oW_some hW_some sW_some bW_true bW_false callW_plain n_lss n_leq n_gtr n_geq n_eql n_neq u_not pick_true pick_false pick_bool
attribute [simp] row_app row_app0 map_app map_app0 set_app set_app0 row_0 row_s map_0 map_s cellsOf_int cellsOf_bool cellsOf_str cellsOf_agg cellsOf_func cellsOf_slice cellsOf_ptr cellsOf_map lenS_lit ld_plit1

section
variable {P : Program}

@[simp] theorem letH_eq {h : Heap} {K : Heap → Prop} : letH h K ↔ K h := Iff.rfl
@[simp] theorem box_agg {h : Heap} {cs : Array Value} : boxA h (.agg cs) = some (.pointer (some ⟨h.length, 0, none⟩), h ++ [.row cs.toList .exact]) := by simp [boxA, okVal, newRowA]
@[simp] theorem box_int {h : Heap} {k : IntKind} {n : Int} : boxA h (.int k n) = some (.pointer (some ⟨h.length, 0, none⟩), h ++ [.row [.int k n] .exact]) := by simp [boxA, okVal, newRowA]
@[simp] theorem box_bool {h : Heap} {n : Bool} : boxA h (.bool n) = some (.pointer (some ⟨h.length, 0, none⟩), h ++ [.row [.bool n] .exact]) := by simp [boxA, okVal, newRowA]
@[simp] theorem box_str {h : Heap} {n : ByteArray} : boxA h (.string n) = some (.pointer (some ⟨h.length, 0, none⟩), h ++ [.row [.string n] .exact]) := by simp [boxA, okVal, newRowA]
@[simp] theorem box_func {h : Heap} {f : Fn} {a b : Array Value} : boxA h (.func f a b) = some (.pointer (some ⟨h.length, 0, none⟩), h ++ [.row [.func f a b] .exact]) := by simp [boxA, okVal, newRowA]
@[simp] theorem box_ptr {h : Heap} {a : Option Addr} : boxA h (.pointer a) = some (.pointer (some ⟨h.length, 0, none⟩), h ++ [.row [.pointer a] .exact]) := by simp [boxA, okVal, newRowA]
@[simp] theorem box_slice {h : Heap} {a : Option Addr} {l c : Nat} : boxA h (.slice a l c) = some (.pointer (some ⟨h.length, 0, none⟩), h ++ [.row [.slice a l c] .exact]) := by simp [boxA, okVal, newRowA]
@[simp] theorem box_map {h : Heap} {a : Option Nat} : boxA h (.map a) = some (.pointer (some ⟨h.length, 0, none⟩), h ++ [.row [.map a] .exact]) := by simp [boxA, okVal, newRowA]
@[simp] theorem fa_ptr {off sz i o : Nat} : faW off sz (.pointer (some ⟨i, o, none⟩)) = some (.pointer (some ⟨i, o + off, none⟩)) := rfl
@[simp] theorem nc_ptr {a : Addr} : nilCheckA (.pointer (some a)) = some (.pointer (some a)) := rfl
@[simp] theorem nc_plit {cs : List Value} : nilCheckA (plit cs) = some (plit cs) := rfl
@[simp] theorem lenS_emp : lenS emp = some (.int .i64 0) := rfl
@[simp] theorem nilS_emp : nilS_ emp (.slice none 0 0) = some false := rfl
@[simp] theorem nilS_nil : nilS_ (.slice none 0 0) (.slice none 0 0) = some true := rfl
@[simp] theorem nilS_some {a : Addr} {n c : Nat} : nilS_ (.slice (some a) n c) (.slice none 0 0) = some false := rfl
@[simp] theorem nilS_lit {e : Value} {es : List Value} : nilS_ (lit (e :: es)) (.slice none 0 0) = some false := by simp [nilS_]
@[simp] theorem eqW_some {b : Bool} : eqW (some b) = some (.bool b) := rfl
@[simp] theorem neW_some {b : Bool} : neW (some b) = some (.bool !b) := rfl
@[simp] theorem lenS_slice {a : Option Addr} {n c : Nat} : lenS (.slice a n c) = some (.int .i64 n) := rfl
@[simp] theorem lenStr_str {s : ByteArray} : lenStr (.string s) = some (.int .i64 s.size) := rfl
@[simp] theorem eqB_bool {a b : Bool} : eqB (.bool a) (.bool b) = some (.bool (a == b)) := rfl
@[simp] theorem neB_bool {a b : Bool} : neB (.bool a) (.bool b) = some (.bool !(a == b)) := rfl
@[simp] theorem extract_tuple {a b : Value} {i : Nat} : extractA (.tuple #[a, b]) i = #[a, b][i]? := rfl
@[simp] theorem extract_tuple3 {a b c : Value} {i : Nat} : extractA (.tuple #[a, b, c]) i = #[a, b, c][i]? := rfl
theorem iaS_slice {sz i off len cap n : Nat} {k : IntKind} (hn : n < len) : iaS sz (.slice (some ⟨i, off, none⟩) len cap) (.int k (n : Int)) = some (.pointer (some ⟨i, off + n * sz, none⟩)) := by simp [iaS, hn]
theorem iaS_slice' {sz i off len cap : Nat} {n : Int} {k : IntKind} (h0 : 0 ≤ n) (hn : n < len) : iaS sz (.slice (some ⟨i, off, none⟩) len cap) (.int k n) = some (.pointer (some ⟨i, off + n.toNat * sz, none⟩)) := by simp [iaS, hn, h0]

theorem ld_row {agg : Bool} {sz : Nat} {h : Heap} {i off : Nat} {c : List Value} {m : Md} (e : getRow h i = some (c, m)) :
    ldW agg sz h (.pointer (some ⟨i, off, none⟩)) = if agg then (if off + sz ≤ c.length then some (.agg ((c.drop off).take sz).toArray) else none) else c[off]? := by simp [ldW, e]
theorem ldP_row {agg : Bool} {sz : Nat} {h : Heap} {i off : Nat} {c : List Value} {m : Md} (e : getRow h i = some (c, m)) :
    ldP agg sz h (.pointer (some ⟨i, off, none⟩)) = if agg then (if off + sz ≤ c.length then some (.agg ((c.drop off).take sz).toArray) else none) else c[off]? := by simp [ldP, e]
theorem st_row {sz : Nat} {h : Heap} {i off : Nat} {c : List Value} {m : Md} {v : Value} (e : getRow h i = some (c, m)) (hm : m ≠ .ro) (h1 : okVal v = true) (h2 : (cellsOf v).length = sz) (h3 : (cellsOf v).all okCell = true) (h4 : off + sz ≤ c.length) :
    stW sz h (.pointer (some ⟨i, off, none⟩)) v = some (h.set i (.row (writeL c off (cellsOf v)) m)) := by simp [stW, e, hm, h1, h2, h3, h4]

theorem st1 {h : Heap} {i off : Nat} {c : List Value} {m : Md} {v : Value} (e : getRow h i = some (c, m)) (hm : m ≠ .ro) (h1 : okVal v = true) (h2 : cellsOf v = [v]) (h3 : okCell v = true) (h4 : off < c.length) :
    stW 1 h (.pointer (some ⟨i, off, none⟩)) v = some (h.set i (.row (c.set off v) m)) := by
  have : off + 1 ≤ c.length := h4
  simp [stW, e, hm, h1, h2, h3, this, writeL]
theorem iaA_ptr {len sz i off n : Nat} {k : IntKind} (hn : n < len) : iaA len sz (.pointer (some ⟨i, off, none⟩)) (.int k (n : Int)) = some (.pointer (some ⟨i, off + n * sz, none⟩)) := by
  simp only [iaA]; rw [if_pos (by omega)]; simp
theorem ld_at {sz : Nat} {h : Heap} {i off : Nat} {c : List Value} {m : Md} {v : Value} (e : getRow h i = some (c, m)) (hv : c[off]? = some v) : ldW false sz h (.pointer (some ⟨i, off, none⟩)) = some v := by simp [ldW, e, hv]

@[simp] theorem ldW_agg {sz : Nat} {h : Heap} {i off : Nat} : ldW true sz h (.pointer (some ⟨i, off, none⟩)) =
    (getRow h i).bind fun x => if off + sz ≤ x.1.length then some (.agg ((x.1.drop off).take sz).toArray) else none := by
  simp only [ldW]; cases getRow h i <;> rfl
@[simp] theorem ldW_one {sz : Nat} {h : Heap} {i off : Nat} : ldW false sz h (.pointer (some ⟨i, off, none⟩)) = (getRow h i).bind fun x => x.1[off]? := by
  simp only [ldW]; cases getRow h i <;> rfl
@[simp] theorem ldP_agg {sz : Nat} {h : Heap} {i off : Nat} : ldP true sz h (.pointer (some ⟨i, off, none⟩)) =
    (getRow h i).bind fun x => if off + sz ≤ x.1.length then some (.agg ((x.1.drop off).take sz).toArray) else none := by
  simp only [ldP]; cases getRow h i <;> rfl
@[simp] theorem ldP_one {sz : Nat} {h : Heap} {i off : Nat} : ldP false sz h (.pointer (some ⟨i, off, none⟩)) = (getRow h i).bind fun x => x.1[off]? := by
  simp only [ldP]; cases getRow h i <;> rfl
@[simp] theorem stW_agg {sz : Nat} {h : Heap} {i off : Nat} {cs : Array Value} : stW sz h (.pointer (some ⟨i, off, none⟩)) (.agg cs) =
    (getRow h i).bind fun x => if x.2 ≠ .ro ∧ cs.size = sz ∧ cs.toList.all okCell = true ∧ off + sz ≤ x.1.length then some (h.set i (.row (writeL x.1 off cs.toList) x.2)) else none := by
  simp only [stW]
  cases getRow h i with
  | none => rfl
  | some x => simp [okVal, cellsOf]
attribute [simp] writeL_nil writeL_cons
@[simp] theorem ok_int {k : IntKind} {n : Int} : okCell (.int k n) = true := rfl
@[simp] theorem ok_bool {b : Bool} : okCell (.bool b) = true := rfl
@[simp] theorem ok_str {b : ByteArray} : okCell (.string b) = true := rfl
@[simp] theorem ok_ptr {a : Option Addr} : okCell (.pointer a) = true := rfl
@[simp] theorem ok_slice {a : Option Addr} {l q : Nat} : okCell (.slice a l q) = true := rfl
@[simp] theorem ok_map {a : Option Nat} : okCell (.map a) = true := rfl
@[simp] theorem ok_func {f : Fn} {x y : Array Value} : okCell (.func f x y) = true := rfl
@[simp] theorem okv_int {k : IntKind} {n : Int} : okVal (.int k n) = true := rfl
@[simp] theorem okv_bool {b : Bool} : okVal (.bool b) = true := rfl
@[simp] theorem okv_str {b : ByteArray} : okVal (.string b) = true := rfl
@[simp] theorem okv_ptr {a : Option Addr} : okVal (.pointer a) = true := rfl
@[simp] theorem okv_slice {a : Option Addr} {l q : Nat} : okVal (.slice a l q) = true := rfl
@[simp] theorem okv_map {a : Option Nat} : okVal (.map a) = true := rfl
@[simp] theorem okv_func {f : Fn} {x y : Array Value} : okVal (.func f x y) = true := rfl
@[simp] theorem okv_agg {x : Array Value} : okVal (.agg x) = true := rfl
@[simp] theorem stW_int {h : Heap} {i off : Nat} {k : IntKind} {n : Int} : stW 1 h (.pointer (some ⟨i, off, none⟩)) (.int k n) =
    (getRow h i).bind fun x => if x.2 ≠ .ro ∧ off < x.1.length then some (h.set i (.row (x.1.set off (.int k n)) x.2)) else none := by
  simp only [stW]
  cases getRow h i with
  | none => rfl
  | some x => simp [okVal, cellsOf, okCell, writeL, Nat.succ_le_iff]
@[simp] theorem stW_bool {h : Heap} {i off : Nat} {b : Bool} : stW 1 h (.pointer (some ⟨i, off, none⟩)) (.bool b) =
    (getRow h i).bind fun x => if x.2 ≠ .ro ∧ off < x.1.length then some (h.set i (.row (x.1.set off (.bool b)) x.2)) else none := by
  simp only [stW]
  cases getRow h i with
  | none => rfl
  | some x => simp [okVal, cellsOf, okCell, writeL, Nat.succ_le_iff]
@[simp] theorem stW_str {h : Heap} {i off : Nat} {b : ByteArray} : stW 1 h (.pointer (some ⟨i, off, none⟩)) (.string b) =
    (getRow h i).bind fun x => if x.2 ≠ .ro ∧ off < x.1.length then some (h.set i (.row (x.1.set off (.string b)) x.2)) else none := by
  simp only [stW]
  cases getRow h i with
  | none => rfl
  | some x => simp [okVal, cellsOf, okCell, writeL, Nat.succ_le_iff]
@[simp] theorem stW_ptr {h : Heap} {i off : Nat} {a : Option Addr} : stW 1 h (.pointer (some ⟨i, off, none⟩)) (.pointer a) =
    (getRow h i).bind fun x => if x.2 ≠ .ro ∧ off < x.1.length then some (h.set i (.row (x.1.set off (.pointer a)) x.2)) else none := by
  simp only [stW]
  cases getRow h i with
  | none => rfl
  | some x => simp [okVal, cellsOf, okCell, writeL, Nat.succ_le_iff]
@[simp] theorem stW_slice {h : Heap} {i off : Nat} {a : Option Addr} {l q : Nat} : stW 1 h (.pointer (some ⟨i, off, none⟩)) (.slice a l q) =
    (getRow h i).bind fun x => if x.2 ≠ .ro ∧ off < x.1.length then some (h.set i (.row (x.1.set off (.slice a l q)) x.2)) else none := by
  simp only [stW]
  cases getRow h i with
  | none => rfl
  | some x => simp [okVal, cellsOf, okCell, writeL, Nat.succ_le_iff]
@[simp] theorem stW_map {h : Heap} {i off : Nat} {a : Option Nat} : stW 1 h (.pointer (some ⟨i, off, none⟩)) (.map a) =
    (getRow h i).bind fun x => if x.2 ≠ .ro ∧ off < x.1.length then some (h.set i (.row (x.1.set off (.map a)) x.2)) else none := by
  simp only [stW]
  cases getRow h i with
  | none => rfl
  | some x => simp [okVal, cellsOf, okCell, writeL, Nat.succ_le_iff]
@[simp] theorem stW_func {h : Heap} {i off : Nat} {f : Fn} {z y : Array Value} : stW 1 h (.pointer (some ⟨i, off, none⟩)) (.func f z y) =
    (getRow h i).bind fun x => if x.2 ≠ .ro ∧ off < x.1.length then some (h.set i (.row (x.1.set off (.func f z y)) x.2)) else none := by
  simp only [stW]
  cases getRow h i with
  | none => rfl
  | some x => simp [okVal, cellsOf, okCell, writeL, Nat.succ_le_iff]
@[simp] theorem stW_nf {h : Heap} {i off : Nat}  : stW 1 h (.pointer (some ⟨i, off, none⟩)) (.nilFunc) =
    (getRow h i).bind fun x => if x.2 ≠ .ro ∧ off < x.1.length then some (h.set i (.row (x.1.set off (.nilFunc)) x.2)) else none := by
  simp only [stW]
  cases getRow h i with
  | none => rfl
  | some x => simp [okVal, cellsOf, okCell, writeL, Nat.succ_le_iff]
@[simp] theorem stW_ni {h : Heap} {i off : Nat}  : stW 1 h (.pointer (some ⟨i, off, none⟩)) (.nilIface) =
    (getRow h i).bind fun x => if x.2 ≠ .ro ∧ off < x.1.length then some (h.set i (.row (x.1.set off (.nilIface)) x.2)) else none := by
  simp only [stW]
  cases getRow h i with
  | none => rfl
  | some x => simp [okVal, cellsOf, okCell, writeL, Nat.succ_le_iff]
@[simp] theorem stW_iface {h : Heap} {i off : Nat} {t : TypeId} {v : Value} : stW 1 h (.pointer (some ⟨i, off, none⟩)) (.iface t v) =
    (getRow h i).bind fun x => if x.2 ≠ .ro ∧ off < x.1.length then some (h.set i (.row (x.1.set off (.iface t v)) x.2)) else none := by
  simp only [stW]
  cases getRow h i with
  | none => rfl
  | some x => simp [okVal, cellsOf, okCell, writeL, Nat.succ_le_iff]
@[simp] theorem bld_eq {z : List Value} {qs : List (Nat × Nat × Value)} : bldW z qs = (fillL z qs).map fun cs => .agg cs.toArray := rfl
@[simp] theorem fillL_nil {z : List Value} : fillL z [] = some z := rfl
@[simp] theorem fillL_cons {z : List Value} {o n : Nat} {v : Value} {r : List (Nat × Nat × Value)} : fillL z ((o, n, v) :: r) = if okVal v = true ∧ (cellsOf v).length = n ∧ o + n ≤ z.length then fillL (writeL z o (cellsOf v)) r else none := rfl

@[simp] theorem keptW_nil {h h' : Heap} : keptW [] h h' ↔ True := by simp [keptW]
theorem keptW_cons {v : Value} {vs : List Value} {h h' : Heap} : keptW (v :: vs) h h' ↔ (∀ r, ptrId v = some r → h'[r]? = h[r]?) ∧ keptW vs h h' := by simp [keptW]
@[simp] theorem keptW_ptr {i o : Nat} {s : Option Nat} {vs : List Value} {h h' : Heap} : keptW (.pointer (some ⟨i, o, s⟩) :: vs) h h' ↔ h'[i]? = h[i]? ∧ keptW vs h h' := by rw [keptW_cons]; simp [ptrId]
@[simp] theorem keptW_slice {i o n c : Nat} {s : Option Nat} {vs : List Value} {h h' : Heap} : keptW (.slice (some ⟨i, o, s⟩) n c :: vs) h h' ↔ h'[i]? = h[i]? ∧ keptW vs h h' := by rw [keptW_cons]; simp [ptrId]
@[simp] theorem keptW_map {i : Nat} {vs : List Value} {h h' : Heap} : keptW (.map (some i) :: vs) h h' ↔ h'[i]? = h[i]? ∧ keptW vs h h' := by rw [keptW_cons]; simp [ptrId]
@[simp] theorem keptW_func {f : Fn} {a b : Array Value} {vs : List Value} {h h' : Heap} : keptW (.func f a b :: vs) h h' ↔ keptW vs h h' := by rw [keptW_cons]; simp [ptrId]
@[simp] theorem keptW_str {a : ByteArray} {vs : List Value} {h h' : Heap} : keptW (.string a :: vs) h h' ↔ keptW vs h h' := by rw [keptW_cons]; simp [ptrId]
@[simp] theorem keptW_int {k : IntKind} {a : Int} {vs : List Value} {h h' : Heap} : keptW (.int k a :: vs) h h' ↔ keptW vs h h' := by rw [keptW_cons]; simp [ptrId]
@[simp] theorem keptW_agg {a : Array Value} {vs : List Value} {h h' : Heap} : keptW (.agg a :: vs) h h' ↔ keptW vs h h' := by rw [keptW_cons]; simp [ptrId]
@[simp] theorem keptW_nilS {n c : Nat} {vs : List Value} {h h' : Heap} : keptW (.slice none n c :: vs) h h' ↔ keptW vs h h' := by rw [keptW_cons]; simp [ptrId]
@[simp] theorem keptW_nilM {vs : List Value} {h h' : Heap} : keptW (.map none :: vs) h h' ↔ keptW vs h h' := by rw [keptW_cons]; simp [ptrId]

theorem getElem?_map_some {α : Type} {f : α → Value} {l : List α} {n : Nat} (h : n < l.length) : (l.map f)[n]? = some (f l[n]) := by simp [h]

/-- The element at a place of a frozen slice: its parts. -/
theorem ix_lit {α : Type} {f : α → Value} {sz : Nat} {l : List α} {n : Nat} {k : IntKind} {K : Value → Prop} (hn : n < l.length) (hz : (cellsOf (f l[n])).length = sz) (k1 : K (plit (cellsOf (f l[n])))) :
    oW (iaS sz (lit (l.map f)) (.int k (n : Int))) K := ⟨_, iaS_lit (e := f l[n]) (by omega) (by simp [hn]) hz, k1⟩
theorem ix_lit' {α : Type} {f : α → Value} {sz : Nat} {l : List α} {n : Int} {k : IntKind} {K : Value → Prop} (h0 : 0 ≤ n) (hn : n.toNat < l.length) (hz : (cellsOf (f l[n.toNat])).length = sz) (k1 : K (plit (cellsOf (f l[n.toNat])))) :
    oW (iaS sz (lit (l.map f)) (.int k n)) K := ⟨_, iaS_lit (e := f l[n.toNat]) h0 (by simp [hn]) hz, k1⟩

/-- A row of ints, frozen. -/
abbrev ints (l : List Int) : Value := lit (l.map fun n => .int .i64 n)
abbrev nats (l : List Nat) : Value := lit (l.map fun (n : Nat) => .int .i64 (n : Int))
abbrev bools (l : List Bool) : Value := lit (l.map fun n => .bool n)

theorem ix_ints {l : List Int} {n : Nat} {k : IntKind} {h : Heap} {K : Value → Prop} (hn : n < l.length) (k1 : K (.int .i64 l[n])) :
    oW (iaS 1 (ints l) (.int k (n : Int))) fun v => oW (ldW false 1 h v) K := ix_lit hn rfl ⟨_, ld_plit1, k1⟩

/-- A local slice: nil, or a row of its own, past so many objects. -/
def Acc (sz n : Nat) (H : Heap) (v : Value) (l : List Value) : Prop :=
  (v = .slice none 0 0 ∧ l = []) ∨ ∃ i cap c m, n ≤ i ∧ v = .slice (some ⟨i, 0, none⟩) l.length cap ∧ getRow H i = some (c, m) ∧ (m = .grown sz ∨ m = .exact) ∧ c.length = cap * sz ∧ l.length ≤ cap ∧ c.take (l.length * sz) = l.flatMap cellsOf

/-- The object that it lies in. -/
def lies (v : Value) (j : Nat) : Prop := ∃ off a b, v = .slice (some ⟨j, off, none⟩) a b

theorem Acc.nil {sz n : Nat} {H : Heap} : Acc sz n H (.slice none 0 0) [] := .inl ⟨rfl, rfl⟩
theorem getRow_lt {h : Heap} {i : Nat} {x : List Value × Md} (e : getRow h i = some x) : i < h.length := by
  unfold getRow at e
  split at e
  · rename_i hh; exact (List.getElem?_eq_some_iff.1 hh).1
  · cases e
theorem getRow_app {h t : Heap} {i : Nat} {x : List Value × Md} (e : getRow h i = some x) : getRow (h ++ t) i = some x := by
  have := getRow_lt e
  unfold getRow at *
  rw [List.getElem?_append_left this]; exact e
theorem getRow_same {h h' : Heap} {i : Nat} (e : h'[i]? = h[i]?) : getRow h' i = getRow h i := by unfold getRow; rw [e]
theorem getMap_same {h h' : Heap} {i : Nat} (e : h'[i]? = h[i]?) : getMap h' i = getMap h i := by unfold getMap; rw [e]
theorem getRow_set {h : Heap} {i : Nat} {x : List Value × Md} (e : getRow h i = some x) (c : List Value) (m : Md) : getRow (h.set i (.row c m)) i = some (c, m) := by
  unfold getRow; rw [List.getElem?_set_self (getRow_lt e)]
theorem Acc.congr {sz n : Nat} {H H' : Heap} {v : Value} {l : List Value} (a : Acc sz n H v l) (e : ∀ i, lies v i → H'[i]? = H[i]?) : Acc sz n H' v l := by
  rcases a with a | ⟨i, cap, c, m, h1, h2, h3, h4⟩
  · exact .inl a
  · exact .inr ⟨i, cap, c, m, h1, h2, (getRow_same (e i ⟨0, _, _, h2⟩)).trans h3, h4⟩
theorem Acc.app {sz n : Nat} {H t : Heap} {v : Value} {l : List Value} (a : Acc sz n H v l) : Acc sz n (H ++ t) v l := by
  rcases a with a | ⟨i, cap, c, m, h1, h2, h3, h4⟩
  · exact .inl a
  · exact .inr ⟨i, cap, c, m, h1, h2, getRow_app h3, h4⟩
theorem Acc.low {sz n n' : Nat} {H : Heap} {v : Value} {l : List Value} (a : Acc sz n H v l) (hn : n' ≤ n) : Acc sz n' H v l := by
  rcases a with a | ⟨i, cap, c, m, h1, h4⟩
  · exact .inl a
  · exact .inr ⟨i, cap, c, m, by omega, h4⟩
theorem Acc.len {sz n : Nat} {H : Heap} {v : Value} {l : List Value} (a : Acc sz n H v l) : lenS v = some (.int .i64 l.length) := by
  rcases a with ⟨rfl, rfl⟩ | ⟨i, cap, c, m, h1, rfl, _⟩ <;> simp
/-- What is made by a literal. -/
theorem Acc.made {sz n : Nat} {H : Heap} {l : List Value} (hz : ∀ x ∈ l, (cellsOf x).length = sz) (hn : n ≤ H.length) : Acc sz n (H ++ [.row (l.flatMap cellsOf) .exact]) (.slice (some ⟨H.length, 0, none⟩) l.length l.length) l :=
  .inr ⟨_, _, _, .exact, hn, rfl, row_app0, .inr rfl, flat_len hz, Nat.le_refl _, by rw [← flat_len hz, List.take_length]⟩

theorem get_take {c d : List Value} {k j : Nat} (e : c.take k = d) (hj : j < k) : c[j]? = d[j]? := by
  subst e; rw [List.getElem?_take, if_pos hj]

theorem flat_cell {sz : Nat} {l : List Value} (hz : ∀ x ∈ l, (cellsOf x).length = sz) {j k : Nat} (hj : j < l.length) (hk : k < sz) : (l.flatMap cellsOf)[j * sz + k]? = (cellsOf l[j])[k]? := by
  have hlen := flat_len hz
  have hzj := hz l[j] (by simp)
  have hlt : j * sz + k < l.length * sz := by
    have := Nat.mul_le_mul_right sz (show j + 1 ≤ l.length from hj)
    rw [Nat.succ_mul] at this; omega
  have hs : 0 < sz := by omega
  obtain ⟨r1, r2, r3⟩ := flat_get hs hz (j * sz + k) (by omega)
  have e1 : (j * sz + k) / sz = j := by rw [Nat.mul_comm, Nat.mul_add_div hs, Nat.div_eq_of_lt hk]; simp
  have e2 : (j * sz + k) % sz = k := by rw [Nat.mul_comm, Nat.mul_add_mod, Nat.mod_eq_of_lt hk]
  rw [List.getElem?_eq_getElem (by omega), r3]
  simp only [e1, e2]
  rw [List.getElem?_eq_getElem (by omega)]

/-- The cells of one element. -/
theorem flat_sub {sz : Nat} {l : List Value} (hz : ∀ x ∈ l, (cellsOf x).length = sz) {j : Nat} (hj : j < l.length) {c : List Value} {n : Nat} (hc : c.take (n * sz) = l.flatMap cellsOf) (hn : n = l.length) : (c.drop (j * sz)).take sz = cellsOf l[j] := by
  subst hn
  apply List.ext_getElem?
  intro k
  have hzj := hz l[j] (by simp)
  rw [List.getElem?_take]
  split
  · rename_i hk
    rw [List.getElem?_drop]
    have hlt : j * sz + k < l.length * sz := by
      have := Nat.mul_le_mul_right sz (show j + 1 ≤ l.length from hj)
      rw [Nat.succ_mul] at this; omega
    rw [get_take hc hlt, flat_cell hz hj hk]
  · rw [List.getElem?_eq_none (by omega)]

/-- An element is read. -/
theorem Acc.at_ {sz n : Nat} {H : Heap} {v : Value} {l : List Value} (a : Acc sz n H v l) (hs : 0 < sz) (hz : ∀ x ∈ l, (cellsOf x).length = sz) {j : Nat} {k : IntKind} {agg : Bool} {K : Value → Prop} (hj : j < l.length)
    (ha : agg = true → ∃ cs, l[j] = .agg cs) (hb : agg = false → cellsOf l[j] = [l[j]]) (k1 : K l[j]) : oW (iaS sz v (.int k (j : Int))) fun p => oW (ldW agg sz H p) K := by
  rcases a with ⟨rfl, rfl⟩ | ⟨i, cap, c, m, h1, rfl, h3, h4, h5, h6, h7⟩
  · simp at hj
  · refine ⟨_, iaS_slice hj, ?_⟩
    have hsub := flat_sub hz hj h7 rfl
    have hzj := hz l[j] (by simp)
    have hle : j * sz + sz ≤ c.length := by
      have := Nat.mul_le_mul_right sz (show j + 1 ≤ cap by omega)
      rw [Nat.succ_mul] at this; omega
    rw [Nat.zero_add]
    cases agg with
    | true =>
      obtain ⟨cs, hcs⟩ := ha rfl
      refine ⟨l[j], ?_, k1⟩
      simp only [ldW_agg, h3, Option.bind_some]
      rw [if_pos hle, hsub, hcs]
      simp [cellsOf]
    | false =>
      have h1c := hb rfl
      rw [h1c] at hsub hzj
      refine ⟨l[j], ?_, k1⟩
      simp only [ldW_one, h3, Option.bind_some]
      have : ((c.drop (j * sz)).take sz)[0]? = some l[j] := by rw [hsub]; rfl
      rw [List.getElem?_take, if_pos hs, List.getElem?_drop] at this
      simpa using this

/-- .. a part of it. -/
theorem Acc.ptr {sz n : Nat} {H : Heap} {v : Value} {l : List Value} (a : Acc sz n H v l) (hs : 0 < sz) (hz : ∀ x ∈ l, (cellsOf x).length = sz) {j : Nat} {k : IntKind} {K : Value → Prop} (hj : j < l.length)
    (k1 : ∀ i o c m, n ≤ i → lies v i → getRow H i = some (c, m) → m ≠ .ro → o + sz ≤ c.length → (c.drop o).take sz = cellsOf l[j] → K (.pointer (some ⟨i, o, none⟩))) : oW (iaS sz v (.int k (j : Int))) K := by
  rcases a with ⟨rfl, rfl⟩ | ⟨i, cap, c, m, h1, rfl, h3, h4, h5, h6, h7⟩
  · simp at hj
  · refine ⟨_, iaS_slice hj, ?_⟩
    have hle : j * sz + sz ≤ c.length := by
      have := Nat.mul_le_mul_right sz (show j + 1 ≤ cap by omega)
      rw [Nat.succ_mul] at this; omega
    rw [Nat.zero_add]
    exact k1 i _ c m h1 ⟨0, _, _, rfl⟩ h3 (by rcases h4 with q | q <;> rw [q] <;> simp) hle (flat_sub hz hj h7 rfl)

theorem flat_take {sz : Nat} : ∀ {l : List Value}, (∀ x ∈ l, (cellsOf x).length = sz) → ∀ k, k ≤ l.length → (l.flatMap cellsOf).take (k * sz) = (l.take k).flatMap cellsOf
  | [], _, k, hk => by simp
  | x :: l, hz, 0, _ => by simp
  | x :: l, hz, k + 1, hk => by
    have h1 := hz x (by simp)
    simp only [List.flatMap_cons, List.take_succ_cons]
    rw [Nat.succ_mul, Nat.add_comm, List.take_append, List.take_of_length_le (by omega)]
    congr 1
    rw [show sz + k * sz - (cellsOf x).length = k * sz by omega]
    exact flat_take (fun y hy => hz y (by simp [hy])) k (by simpa using hk)

/-- Fewer elements. -/
theorem Acc.pop {sz n : Nat} {H : Heap} {v : Value} {l : List Value} (a : Acc sz n H v l) (hs : 0 < sz) (hz : ∀ x ∈ l, (cellsOf x).length = sz) {k : Nat} {ik : IntKind} {K : Value → Prop} (hk : k ≤ l.length)
    (k1 : ∀ v', Acc sz n H v' (l.take k) → (∀ j, lies v' j → lies v j) → K v') : oW (slS sz H v none (some (.int ik (k : Int))) none) K := by
  rcases a with ⟨rfl, rfl⟩ | ⟨i, cap, c, m, h1, rfl, h3, h4, h5, h6, h7⟩
  · have : k = 0 := by simpa using hk
    subst this
    exact ⟨_, by simp [slS, asNat], k1 _ (.inl ⟨rfl, by simp⟩) fun _ q => q⟩
  · have hmd : m.openSize = none ∨ (0 < sz ∧ m.openSize = some sz) := by
      rcases h4 with q | q <;> rw [q]
      · exact .inr ⟨hs, rfl⟩
      · exact .inl rfl
    refine ⟨.slice (some ⟨i, 0, none⟩) k cap, by
      simp only [slS, asNat]
      rw [if_pos (by omega)]
      simp only [Int.toNat_natCast]
      rw [if_pos ⟨by omega, by omega, by omega, by omega, by simp⟩, h3]
      simp [hmd], k1 _ (.inr ⟨i, cap, c, m, h1, by rw [List.length_take, Nat.min_eq_left hk], h3, h4, h5, by simp; omega, ?_⟩) fun j ⟨o, a, b, q⟩ => ⟨0, _, _, by cases q; rfl⟩⟩
    rw [← flat_take hz k hk, ← h7, List.length_take, Nat.min_eq_left hk, List.take_take, Nat.min_eq_left (Nat.mul_le_mul_right _ hk)]

theorem flat_set {sz : Nat} {l : List Value} (hz : ∀ x ∈ l, (cellsOf x).length = sz) {j : Nat} (hj : j < l.length) {e : Value} (he : (cellsOf e).length = sz) {c : List Value} (hc : c.take (l.length * sz) = l.flatMap cellsOf) (hcl : l.length * sz ≤ c.length) :
    (writeL c (j * sz) (cellsOf e)).take (l.length * sz) = (l.set j e).flatMap cellsOf := by
  have hz' : ∀ x ∈ l.set j e, (cellsOf x).length = sz := fun x hx => by
    rcases List.mem_or_eq_of_mem_set hx with q | q
    · exact hz x q
    · rw [q]; exact he
  have hlen' := flat_len hz'
  rw [List.length_set] at hlen'
  have hle : j * sz + sz ≤ l.length * sz := by
    have := Nat.mul_le_mul_right sz (show j + 1 ≤ l.length from hj)
    rw [Nat.succ_mul] at this; omega
  have hs0 : l.length * sz = 0 ∨ 0 < sz := by
    rcases Nat.eq_zero_or_pos sz with q | q
    · left; rw [q]; simp
    · exact .inr q
  apply List.ext_getElem?
  intro k
  rw [List.getElem?_take]
  split
  · rename_i hk
    have hs : 0 < sz := by rcases hs0 with q | q <;> omega
    rw [get_writeL _ _ _ (by omega)]
    have hd := Nat.div_add_mod k sz
    have hm := Nat.mod_lt k hs
    have hq : k / sz < l.length := by
      rw [Nat.div_lt_iff_lt_mul hs]; exact hk
    have e1 : (l.set j e).flatMap cellsOf = (l.set j e).flatMap cellsOf := rfl
    have h2 := flat_cell hz' (j := k / sz) (k := k % sz) (by simpa using hq) hm
    rw [show k / sz * sz + k % sz = k by rw [Nat.mul_comm]; exact hd] at h2
    rw [h2]
    by_cases q : j = k / sz
    · subst q
      have hd' : k / sz * sz + k % sz = k := by rw [Nat.mul_comm]; exact hd
      rw [if_pos (by rw [he]; omega)]
      simp only [List.getElem_set_self]
      congr 1
      omega
    · rw [if_neg (by
        intro ⟨a, b⟩
        rw [he] at b
        apply q
        have h5 : j = k / sz := by
          rw [Nat.div_eq_of_lt_le]
          · exact a
          · rw [Nat.succ_mul]; exact b
        exact h5)]
      have h3 := flat_cell hz (j := k / sz) (k := k % sz) hq hm
      rw [show k / sz * sz + k % sz = k by rw [Nat.mul_comm]; exact hd] at h3
      rw [get_take hc hk, h3]
      simp only [List.getElem_set_ne q]
  · rw [List.getElem?_eq_none (by omega)]

/-- An element is stored. -/
theorem Acc.set {sz n : Nat} {B g : Heap} {v e : Value} {l : List Value} (hB : B.length = n) (a : Acc sz n (B ++ g) v l) (hs : 0 < sz) (hz : ∀ x ∈ l, (cellsOf x).length = sz) (he : (cellsOf e).length = sz) (hk : okVal e = true) (hok : (cellsOf e).all okCell = true)
    {j : Nat} {k : IntKind} {K : Heap → Prop} (hj : j < l.length)
    (k1 : ∀ g', Acc sz n (B ++ g') v (l.set j e) → (∀ j, ¬ lies v j → (B ++ g')[j]? = (B ++ g)[j]?) → K (B ++ g')) : oW (iaS sz v (.int k (j : Int))) fun p => sW (stW sz (B ++ g) p e) K := by
  rcases a with ⟨rfl, rfl⟩ | ⟨i, cap, c, m, h1, rfl, h3, h4, h5, h6, h7⟩
  · simp at hj
  · refine ⟨_, iaS_slice hj, ?_⟩
    have hle : j * sz + sz ≤ c.length := by
      have := Nat.mul_le_mul_right sz (show j + 1 ≤ cap by omega)
      rw [Nat.succ_mul] at this; omega
    have hm : m ≠ .ro := by rcases h4 with q | q <;> rw [q] <;> simp
    rw [Nat.zero_add]
    refine ⟨_, st_row h3 hm hk he hok hle, ?_⟩
    have e1 : (B ++ g).set i (.row (writeL c (j * sz) (cellsOf e)) m) = B ++ g.set (i - n) (.row (writeL c (j * sz) (cellsOf e)) m) := by
      rw [List.set_append_right _ _ (by omega), hB]
    rw [e1]
    refine k1 _ (.inr ⟨i, cap, _, m, h1, by simp, by rw [← e1]; exact getRow_set h3 _ _, h4, ?_, by simpa using h6, ?_⟩) fun q hq => ?_
    · have : (writeL c (j * sz) (cellsOf e)).length = c.length := by
        have hw : ∀ (vs c : List Value) (o : Nat), (writeL c o vs).length = c.length := by
          intro vs
          induction vs with
          | nil => intro c o; rfl
          | cons x vs ih => intro c o; rw [writeL_cons, ih]; simp
        exact hw _ _ _
      rw [this, h5]
    · rw [List.length_set]
      exact flat_set hz hj he h7 (by have := Nat.mul_le_mul_right sz h6; omega)
    · rw [← e1, List.getElem?_set_ne fun q' => hq ⟨0, _, _, by rw [q']⟩]

/-- Several elements more. -/
theorem Acc.more {sz bytes n : Nat} {B g : Heap} {v x : Value} {l es : List Value} (hB : B.length = n) (a : Acc sz n (B ++ g) v l) (hs : 0 < sz) (hz : ∀ x ∈ l, (cellsOf x).length = sz) (hze : ∀ x ∈ es, (cellsOf x).length = sz)
    (hok : ∀ x ∈ es, (cellsOf x).all okCell = true) (hsrc : srcA (B ++ g) sz x = some (es.length, es.flatMap cellsOf))
    (hb : (l.length + es.length) * bytes ≤ 140737488355328) (h63 : l.length + es.length ≤ 9223372036854775807) {K : Value → Heap → Prop}
    (k : ∀ v' g', Acc sz n (B ++ g') v' (l ++ es) → (∀ j, j < (B ++ g).length → ¬ lies v j → (B ++ g')[j]? = (B ++ g)[j]?) → (∀ j, lies v' j → lies v j ∨ (B ++ g).length ≤ j) → (B ++ g).length ≤ (B ++ g').length → K v' (B ++ g')) :
    hW (apW sz bytes (B ++ g) v x) K := by
  have hall : (es.flatMap cellsOf).all okCell = true := by
    rw [List.all_eq_true]
    intro y hy
    obtain ⟨e, he, hye⟩ := List.mem_flatMap.1 hy
    exact List.all_eq_true.1 (hok e he) y hye
  by_cases h0 : es.length = 0
  · have : es = [] := List.length_eq_zero_iff.1 h0
    subst this
    rcases a with ⟨rfl, rfl⟩ | ⟨i, cap, c, m, h1, rfl, h3, h4, h5, h6, h7⟩
    · exact ⟨_, _, by simp only [apW, hsrc]; rfl, k _ g (.inl ⟨rfl, rfl⟩) (fun _ _ _ => rfl) (fun _ q => .inl q) (Nat.le_refl _)⟩
    · refine ⟨_, _, by simp only [apW, hsrc]; rw [if_pos (by rfl), if_pos h6], k _ g (.inr ⟨i, cap, c, m, h1, by simp, h3, h4, h5, by simpa using h6, by simpa using h7⟩) (fun _ _ _ => rfl) (fun _ q => .inl q) (Nat.le_refl _)⟩
  have hlen := flat_len hz
  have hlene := flat_len hze
  have hzz : ∀ x ∈ l ++ es, (cellsOf x).length = sz := fun x hx => (List.mem_append.1 hx).elim (hz x) (hze x)
  rcases a with ⟨rfl, rfl⟩ | ⟨i, cap, c, m, h1, rfl, h3, h4, h5, h6, h7⟩
  · refine ⟨_, _, by simp only [apW, hsrc]; rw [if_neg h0, if_pos (by simp at hb h63 ⊢; omega)], ?_⟩
    have := k (.slice (some ⟨(B ++ g).length, 0, none⟩) es.length es.length) (g ++ [.row (es.flatMap cellsOf) (.grown sz)])
      (.inr ⟨(B ++ g).length, es.length, es.flatMap cellsOf, .grown sz, by rw [List.length_append]; omega, rfl, by rw [← List.append_assoc, row_app0]; rfl, .inl rfl, hlene, Nat.le_refl _, by rw [List.nil_append, ← hlene, List.take_length]⟩)
      (fun j hj _ => by rw [← List.append_assoc, List.getElem?_append_left hj]) (fun j ⟨o, a, b, q⟩ => .inr (by cases q; exact Nat.le_refl _)) (by simp)
    rw [List.append_assoc]
    exact this
  · have hlt := getRow_lt h3
    have hm : m ≠ .ro := by rcases h4 with q | q <;> rw [q] <;> simp
    have hcap : l.length * sz ≤ c.length := by have := Nat.mul_le_mul_right sz h6; omega
    by_cases hfit : l.length + es.length ≤ cap
    · have hle : (l.length + es.length) * sz ≤ c.length := by have := Nat.mul_le_mul_right sz hfit; omega
      refine ⟨_, _, by simp only [apW, hsrc]; rw [if_neg h0, h3]; dsimp only; rw [if_pos hfit, if_pos ⟨hm, hall, by omega⟩, Nat.zero_add], ?_⟩
      have e1 : ∀ o : AObj, (B ++ g).set i o = B ++ g.set (i - n) o := fun o => by rw [List.set_append_right _ _ (by omega), hB]
      rw [e1]
      have hwl : ∀ (vs c : List Value) (o : Nat), (writeL c o vs).length = c.length := by
        intro vs
        induction vs with
        | nil => intro c o; rfl
        | cons x vs ih => intro c o; rw [writeL_cons, ih]; simp
      have e5 : l.length + es.length = (l ++ es).length := by simp
      rw [e5]
      refine k _ _ (.inr ⟨i, cap, _, m, h1, rfl, by rw [← e1]; exact getRow_set h3 _ _, h4, by rw [hwl, h5], by rw [← e5]; exact hfit, ?_⟩) (fun j hj hq => by rw [← e1, List.getElem?_set_ne fun q' => hq ⟨0, _, _, by rw [q']⟩]) (fun j ⟨o, a, b, q⟩ => .inl ⟨0, _, _, by cases q; rfl⟩) (by simp)
      apply List.ext_getElem?
      intro q
      rw [List.getElem?_take, List.flatMap_append]
      have hmul : (l ++ es).length * sz = l.length * sz + es.length * sz := by rw [← e5, Nat.add_mul]
      have hle2 : l.length * sz + es.length * sz ≤ c.length := by rw [← Nat.add_mul]; exact hle
      split
      · rename_i hq
        rw [get_writeL _ _ _ (by rw [hlene]; omega)]
        by_cases hq2 : q < l.length * sz
        · rw [if_neg (by omega), List.getElem?_append_left (by omega), get_take h7 hq2]
        · rw [if_pos (by rw [hlene]; omega), List.getElem?_append_right (by omega), hlen]
      · rw [List.getElem?_eq_none (by simp only [List.length_append]; omega)]
    · have hop : m.openSize = none ∨ m.openSize = some sz := by
        rcases h4 with q | q <;> rw [q]
        · exact .inr rfl
        · exact .inl rfl
      refine ⟨_, _, by simp only [apW, hsrc]; rw [if_neg h0, h3]; dsimp only; rw [if_neg hfit, if_pos ⟨by omega, h6, hall, hb, h63, hop⟩], ?_⟩
      have e2 : ((c.drop 0).take (l.length * sz) ++ es.flatMap cellsOf) = (l ++ es).flatMap cellsOf := by rw [List.drop_zero, h7]; simp
      have e5 : l.length + es.length = (l ++ es).length := by simp
      rw [e2, e5]
      have fin : ∀ g2 : Heap, g2.length = g.length → (∀ j, j < (B ++ g).length → j ≠ i → (B ++ g2)[j]? = (B ++ g)[j]?) →
          K (.slice (some ⟨(B ++ g).length, 0, none⟩) (l ++ es).length (l ++ es).length) (B ++ g2 ++ [.row ((l ++ es).flatMap cellsOf) (.grown sz)]) := fun g2 hg2 hfr => by
        have hl2 : (B ++ g).length = (B ++ g2).length := by simp [hg2]
        rw [List.append_assoc]
        refine k _ _ (.inr ⟨_, (l ++ es).length, (l ++ es).flatMap cellsOf, .grown sz, by simp; omega, rfl, by rw [hl2, ← List.append_assoc, row_app0]; rfl, .inl rfl, flat_len hzz, Nat.le_refl _, by rw [← flat_len hzz, List.take_length]⟩)
          (fun j hj hq => ?_) (fun j ⟨o, a, b, q⟩ => .inr (by cases q; exact Nat.le_refl _)) (by simp; omega)
        rw [← List.append_assoc, List.getElem?_append_left (by omega)]
        exact hfr j hj fun q => hq ⟨0, _, _, by rw [q]⟩
      by_cases hkill : m = .grown sz ∧ 0 + cap * sz = c.length
      · rw [if_pos hkill]
        have e1 : (B ++ g).set i .dead = B ++ g.set (i - n) .dead := by rw [List.set_append_right _ _ (by omega), hB]
        rw [e1]
        exact fin _ (by simp) fun j hj hne => by rw [← e1, List.getElem?_set_ne (Ne.symm hne)]
      · rw [if_neg hkill]
        exact fin _ rfl fun _ _ _ => rfl

theorem writeL_all : ∀ {zs cs : List Value}, cs.length = zs.length → writeL zs 0 cs = cs := by
  intro zs cs hl
  apply List.ext_getElem?
  intro j
  rw [get_writeL cs zs 0 (by omega)]
  by_cases q : 0 ≤ j ∧ j < 0 + cs.length
  · rw [if_pos q]; simp
  · rw [if_neg q, List.getElem?_eq_none (by omega), List.getElem?_eq_none (by omega)]
/-- A slice of one element. -/
theorem bsl1 {sz : Nat} {H : Heap} {e : Value} {zs : List Value} (he : (cellsOf e).length = sz) (hk : okVal e = true) (hzs : zs.length = sz) {K : Value → Heap → Prop}
    (k : K (.slice (some ⟨H.length, 0, none⟩) 1 1) (H ++ [.row (cellsOf e) .exact])) : hW (bslW H 1 zs [(0, sz, e)]) K := by
  have hf : fillL zs [(0, sz, e)] = some (cellsOf e) := by
    simp only [fillL]
    rw [if_pos ⟨hk, he, by omega⟩, writeL_all (by omega)]
  exact ⟨_, _, by simp only [bslW, hf, Option.map_some], k⟩
theorem src1 {sz : Nat} {H : Heap} {e : Value} (he : (cellsOf e).length = sz) : srcA (H ++ [.row (cellsOf e) .exact]) sz (.slice (some ⟨H.length, 0, none⟩) 1 1) = some ([e].length, [e].flatMap cellsOf) := by
  have hrow : getRow (H ++ [AObj.row (cellsOf e) .exact]) H.length = some (cellsOf e, .exact) := by simp
  simp only [srcA, hrow]
  rw [if_pos (by omega)]
  simp [← he]

/-- One element more. -/
theorem Acc.push {sz bytes n : Nat} {B g : Heap} {v e : Value} {l zs : List Value} (hB : B.length = n) (a : Acc sz n (B ++ g) v l) (hs : 0 < sz) (hz : ∀ x ∈ l, (cellsOf x).length = sz) (he : (cellsOf e).length = sz) (hk : okVal e = true) (hok : (cellsOf e).all okCell = true)
    (hzs : zs.length = sz) (hb : (l.length + 1) * bytes ≤ 140737488355328) (h63 : l.length + 1 ≤ 9223372036854775807) {K : Value → Heap → Prop}
    (k : ∀ v' g', Acc sz n (B ++ g') v' (l ++ [e]) → (∀ j, j < (B ++ g).length → ¬ lies v j → (B ++ g')[j]? = (B ++ g)[j]?) → (∀ j, lies v' j → lies v j ∨ (B ++ g).length ≤ j) → (B ++ g).length ≤ (B ++ g').length → K v' (B ++ g')) :
    hW (bslW (B ++ g) 1 zs [(0, sz, e)]) fun v1 h1 => hW (apW sz bytes h1 v v1) K := by
  have hw : ∀ (zs cs : List Value), cs.length = zs.length → writeL zs 0 cs = cs := by
    intro zs cs hl
    apply List.ext_getElem?
    intro j
    rw [get_writeL cs zs 0 (by omega)]
    by_cases q : 0 ≤ j ∧ j < 0 + cs.length
    · rw [if_pos q]; simp
    · rw [if_neg q, List.getElem?_eq_none (by omega), List.getElem?_eq_none (by omega)]
  have hf : fillL zs [(0, sz, e)] = some (cellsOf e) := by
    simp only [fillL]
    rw [if_pos ⟨hk, he, by omega⟩, hw _ _ (by omega)]
  refine ⟨_, _, by simp only [bslW, hf, Option.map_some]; rfl, ?_⟩
  have hrow : getRow (B ++ g ++ [AObj.row (cellsOf e) .exact]) (B ++ g).length = some (cellsOf e, .exact) := by simp
  have hsrc : srcA (B ++ (g ++ [AObj.row (cellsOf e) .exact])) sz (.slice (some ⟨(B ++ g).length, 0, none⟩) 1 1) = some ([e].length, [e].flatMap cellsOf) := by
    rw [← List.append_assoc]
    simp only [srcA, hrow]
    rw [if_pos (by omega)]
    simp [← he]
  rw [List.append_assoc]
  refine Acc.more hB (by rw [← List.append_assoc]; exact a.app) hs hz (es := [e]) (by simpa using he) (by simpa using hok) hsrc (by simpa using hb) (by simpa using h63) fun v' g' a' f1 f2 f3 => k v' g' a' (fun j hj hq => ?_) (fun j hj => ?_) (by simp at f3 ⊢; omega)
  · rw [f1 j (by simp at hj ⊢; omega) hq, ← List.append_assoc, List.getElem?_append_left hj]
  · exact (f2 j hj).imp id fun q => by simp at q ⊢; omega

/-- At the end of a call. -/
theorem Acc.gv {sz n : Nat} {H : Heap} {v : Value} {l : List Value} {fr : Nat → Prop} {r : Nat → Option Nat} (a : Acc sz n H v l) (hf : ∀ i, lies v i → fr i) (hs : 0 < sz) (hz : ∀ x ∈ l, (cellsOf x).length = sz)
    (hcl : ∀ e ∈ l, ∀ x ∈ cellsOf e, Cl x) : Gv fr r H (lit l) v := by
  rcases a with ⟨rfl, rfl⟩ | ⟨i, cap, c, m, h1, rfl, h3, h4, h5, h6, h7⟩
  · exact .lit0 _ _
  · exact Gv.frz (sz := sz) (hf i ⟨0, _, _, rfl⟩) (getRow_eq h3) hs hz (by rw [List.drop_zero, h7]) rfl hcl
theorem Acc.ge {sz n : Nat} {H : Heap} {v : Value} {l : List Value} (a : Acc sz n H v l) {i : Nat} (hi : lies v i) : n ≤ i := by
  obtain ⟨o, x, y, q⟩ := hi
  rcases a with ⟨rfl, rfl⟩ | ⟨i, cap, c, m, h1, rfl, _⟩
  · cases q
  · cases q; exact h1
theorem Acc.done {sz n : Nat} {h0 B g : Heap} {v : Value} {l : List Value} {Q : Value → Heap → Prop} (hB : B.length = n) (hB0 : ∃ t, B = h0 ++ t) (a : Acc sz n (B ++ g) v l) (hs : 0 < sz) (hz : ∀ x ∈ l, (cellsOf x).length = sz)
    (hcl : ∀ e ∈ l, ∀ x ∈ cellsOf e, Cl x) (hq : Q (lit l) h0) : gcV h0 Q v (B ++ g) := by
  obtain ⟨t, rfl⟩ := hB0
  have hn : h0.length ≤ n := by rw [← hB]; simp
  rw [List.append_assoc] at a ⊢
  exact gcV_end (a.gv (fun i hi => ⟨by have := a.ge hi; omega, by simp⟩) hs hz hcl) hq

/-- All names as they are. -/
def idR (h : Heap) (j : Nat) : Option Nat := if j < h.length then some j else none
theorem idR_lt {h : Heap} {j : Nat} (hj : j < h.length) : idR h j = some j := by unfold idR; rw [if_pos hj]
theorem idR_of {h : Heap} {j i : Nat} (e : idR h j = some i) : j < h.length ∧ i = j := by
  unfold idR at e
  split at e
  · rename_i q; cases e; exact ⟨q, rfl⟩
  · cases e
theorem gh_id {h : Heap} : Gh h (fun _ => False) (idR h) h h :=
  ⟨fun j hj => idR_lt hj, Nat.le_refl _, fun j i e => (idR_of e).1,
   fun j c m hj => ⟨j, c, m, idR_lt (List.getElem?_eq_some_iff.1 hj).1, hj, rfl, .inr ⟨rfl, m, hj⟩, .inl rfl, fun q => q.elim⟩,
   fun j es hj => ⟨j, es, idR_lt (List.getElem?_eq_some_iff.1 hj).1, id, hj, rfl, .inr ⟨rfl, hj⟩⟩,
   fun j k i hj hk _ _ => by rw [← (idR_of hj).2, ← (idR_of hk).2]⟩
theorem gh_ro {h : Heap} {i : Nat} {c : List Value} {m : Md} (hi : h[i]? = some (.row c m)) : Gh h (· = i) (idR h) h (h.set i (.row c .ro)) := by
  refine ⟨fun j hj => idR_lt hj, by simp, fun j k e => by have := (idR_of e).1; simpa using this, fun j c2 m2 hj => ?_, fun j es hj => ?_, fun j k i hj hk _ _ => by rw [← (idR_of hj).2, ← (idR_of hk).2]⟩
  · have hlt : j < h.length := by have := (List.getElem?_eq_some_iff.1 hj).1; simpa using this
    by_cases q : j = i
    · subst q
      rw [List.getElem?_set_self hlt] at hj
      cases hj
      exact ⟨j, c, m, idR_lt hlt, hi, rfl, .inr ⟨rfl, m, hi⟩, .inr rfl, fun _ => rfl⟩
    · rw [List.getElem?_set_ne (Ne.symm q)] at hj
      exact ⟨j, c2, m2, idR_lt hlt, hj, rfl, .inr ⟨rfl, m2, hj⟩, .inl rfl, fun z => absurd z q⟩
  · have hlt : j < h.length := by have := (List.getElem?_eq_some_iff.1 hj).1; simpa using this
    have q : j ≠ i := fun q => by
      subst q; rw [List.getElem?_set_self hlt] at hj; cases hj
    rw [List.getElem?_set_ne (Ne.symm q)] at hj
    exact ⟨j, es, idR_lt hlt, q, hj, rfl, .inr ⟨rfl, hj⟩⟩

/-- A call that is given such a thing as frozen. The heap is as it was, but for what is past so many objects. -/
theorem Acc.frz {sz n : Nat} {B g : Heap} {v : Value} {l : List Value} (hB : B.length = n) (a : Acc sz n (B ++ g) v l) (hs : 0 < sz) (hz : ∀ x ∈ l, (cellsOf x).length = sz)
    (hcl : ∀ e ∈ l, ∀ x ∈ cellsOf e, Cl x) : ∃ fr r g', Gh (B ++ g) fr r (B ++ g) (B ++ g') ∧ Gv fr r (B ++ g) (lit l) v ∧ (∀ j, j < (B ++ g).length → r j = some j) ∧ (∀ j, ¬ lies v j → (B ++ g')[j]? = (B ++ g)[j]?) ∧ g'.length = g.length := by
  rcases a with ⟨rfl, rfl⟩ | ⟨i, cap, c, m, h1, rfl, h3, h4, h5, h6, h7⟩
  · exact ⟨_, _, g, gh_id, .lit0 _ _, fun j hj => idR_lt hj, fun _ _ => rfl, rfl⟩
  · have hlt := getRow_lt h3
    have := gh_ro (getRow_eq h3)
    have e1 : (B ++ g).set i (.row c .ro) = B ++ g.set (i - n) (.row c .ro) := by
      rw [List.set_append_right _ _ (by omega), hB]
    rw [e1] at this
    refine ⟨_, _, _, this, Gv.frz (sz := sz) rfl (getRow_eq h3) hs hz (by rw [List.drop_zero, h7]) rfl hcl, fun j hj => idR_lt hj, fun j hq => ?_, by simp⟩
    rw [← e1, List.getElem?_set_ne fun q' => hq ⟨0, _, _, by rw [q']⟩]

/-- An argument that is nil, told as an empty slice. -/
theorem acall_nil {f : FuncId} {args args2 : List Value} {h : Heap} {Q : Value → Heap → Prop} (ga : GvL (fun _ => False) (idR h) h args2 args) (hc : acall P f args2 h Q) : acall P f args h Q := acall_frz gh_id ga hc

end
end Go.Ax
