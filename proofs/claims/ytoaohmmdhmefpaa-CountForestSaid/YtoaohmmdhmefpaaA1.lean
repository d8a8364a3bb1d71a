/- Ax, part 1: abstract objects, how abstract values and heaps stand for the model's. -/
import Derived.Calls
import Derived.Orders
import Derived.Below
import Derived.Laws.Append
import Derived.Laws.Cells
import Derived.Laws.World
import Derived.Laws.Sem
import Derived.MapKept
namespace Go.Ax
open Go.RowKit

/-- How a row may be used: only read; its capacity known; its capacity known from below alone. -/
inductive Md where
  | ro | exact | grown (size : Nat)
  deriving DecidableEq, Inhabited

/-- The cells of an element, where the capacity is known from below alone. -/
def Md.openSize : Md → Option Nat
  | .grown s => some s
  | .ro => some 0
  | .exact => none

/-- An abstract object. -/
inductive AObj where
  | row (c : List Value) (m : Md)
  | map (es : List (Value × Value))
  | dead
  deriving Inhabited

abbrev Heap := List AObj

/-- Where an abstract object lies: the block, its first cell there, how many cells, the cells of an element, the capacity beyond. -/
structure Bind where
  block : Nat
  base : Nat
  n : Nat
  size : Nat
  extra : Nat

/-- Names of objects; blocks that are frozen for good, with their cells. -/
structure Ren where
  bind : Nat → Option Bind
  frz : Nat → Option (Array Value)
instance : CoeFun Ren (fun _ => Nat → Option Bind) := ⟨Ren.bind⟩

def Ren.le (ρ ρ' : Ren) : Prop := (∀ i b, ρ i = some b → ρ' i = some b) ∧ ∀ k cc, ρ.frz k = some cc → ρ'.frz k = some cc
theorem Ren.le.refl (ρ : Ren) : ρ.le ρ := ⟨fun _ _ h => h, fun _ _ h => h⟩
theorem Ren.le.trans {a b c : Ren} (h : a.le b) (k : b.le c) : a.le c := ⟨fun i x hx => k.1 i x (h.1 i x hx), fun i x hx => k.2 i x (h.2 i x hx)⟩

def cellsOf : Value → List Value
  | .agg cs => cs.toList
  | v => [v]

/-- A function's name that may be called. -/
def realFn : Fn → Bool
  | .yield _ => false
  | _ => true

/-- A frozen slice, by its elements; a pointer to frozen cells. -/
abbrev lit (es : List Value) : Value := .func (.yield 0) #[] es.toArray
abbrev plit (cs : List Value) : Value := .func (.yield 1) #[] cs.toArray

/-- A slice without elements that isn't nil. -/
abbrev emp : Value := .func (.yield 2) #[] #[]

/-- An abstract value stands for a value. The tuple of an empty tuple stands for whatever. -/
inductive Rel (ρ : Ren) : Value → Value → Prop
  | any (v : Value) : Rel ρ (.tuple #[.tuple #[]]) v
  | bool (b : Bool) : Rel ρ (.bool b) (.bool b)
  | int (k : IntKind) (n : Int) : Rel ρ (.int k n) (.int k n)
  | str (s : ByteArray) : Rel ρ (.string s) (.string s)
  | ptrNil : Rel ρ (.pointer none) (.pointer none)
  | ptr (i off : Nat) (b : Bind) (h : ρ i = some b) : Rel ρ (.pointer (some ⟨i, off, none⟩)) (.pointer (some ⟨b.block, b.base + off, none⟩))
  | sliceNil : Rel ρ (.slice none 0 0) (.slice none 0 0)
  | slice (i off len cap cap' : Nat) (b : Bind) (a' : Addr) (h : ρ i = some b) (hl : len ≤ cap)
      (hc : cap' = cap ∨ (off + cap * b.size = b.n ∧ cap' = cap + b.extra))
      (ha : a' = ⟨b.block, b.base + off, none⟩ ∨ cap' = 0) : Rel ρ (.slice (some ⟨i, off, none⟩) len cap) (.slice (some a') len cap')
  | mapNil : Rel ρ (.map none) (.map none)
  | map (i : Nat) (b : Bind) (h : ρ i = some b) : Rel ρ (.map (some i)) (.map (some b.block))
  | nilFunc : Rel ρ .nilFunc .nilFunc
  | nilIface : Rel ρ .nilIface .nilIface
  | iface (t : TypeId) (v v' : Value) (h : Rel ρ v v') : Rel ρ (.iface t v) (.iface t v')
  | func (fn : Fn) (xs xs' cs cs' : Array Value) (hf : realFn fn = true) (h1 : xs.size = xs'.size) (h2 : cs.size = cs'.size)
      (h3 : ∀ (i : Nat) (p : i < xs.size) (q : i < xs'.size), Rel ρ xs[i] xs'[i])
      (h4 : ∀ (i : Nat) (p : i < cs.size) (q : i < cs'.size), Rel ρ cs[i] cs'[i]) : Rel ρ (.func fn xs cs) (.func fn xs' cs')
  | agg (cs cs' : Array Value) (h1 : cs.size = cs'.size)
      (h2 : ∀ (i : Nat) (p : i < cs.size) (q : i < cs'.size), Rel ρ cs[i] cs'[i]) : Rel ρ (.agg cs) (.agg cs')
  | tuple (cs cs' : Array Value) (h1 : cs.size = cs'.size)
      (h2 : ∀ (i : Nat) (p : i < cs.size) (q : i < cs'.size), Rel ρ cs[i] cs'[i]) : Rel ρ (.tuple cs) (.tuple cs')
  | lit0 (a : Option Addr) (cap : Nat) (h : a = none → cap = 0) : Rel ρ (.func (.yield 0) #[] #[]) (.slice a 0 cap)
  | empS (a : Addr) (cap : Nat) : Rel ρ (.func (.yield 2) #[] #[]) (.slice (some a) 0 cap)
  | litS (es : Array Value) (b off sz cap : Nat) (cc : Array Value) (h : ρ.frz b = some cc) (hl : es.size ≤ cap) (hs : 0 < sz)
      (hz : ∀ (i : Nat) (p : i < es.size), (cellsOf es[i]).length = sz) (hb : off + es.size * sz ≤ cc.size)
      (hr : ∀ (i j : Nat) (p : i < es.size) (q : j < (cellsOf es[i]).length) (r : off + (i * sz + j) < cc.size), Rel ρ (cellsOf es[i])[j] cc[off + (i * sz + j)]) :
      Rel ρ (.func (.yield 0) #[] es) (.slice (some ⟨b, off, none⟩) es.size cap)
  | litP (cs : Array Value) (b off : Nat) (cc : Array Value) (h : ρ.frz b = some cc) (hb : off + cs.size ≤ cc.size)
      (hr : ∀ (j : Nat) (p : j < cs.size) (r : off + j < cc.size), Rel ρ cs[j] cc[off + j]) : Rel ρ (.func (.yield 1) #[] cs) (.pointer (some ⟨b, off, none⟩))

theorem Rel.mono {ρ ρ' : Ren} (hr : ρ.le ρ') {v v' : Value} (h : Rel ρ v v') : Rel ρ' v v' := by
  induction h with
  | any v => exact .any v
  | bool b => exact .bool b
  | int k n => exact .int k n
  | str s => exact .str s
  | ptrNil => exact .ptrNil
  | ptr i off b h => exact .ptr i off b (hr.1 _ _ h)
  | sliceNil => exact .sliceNil
  | slice i off len cap cap' b a' h hl hc ha => exact .slice i off len cap cap' b a' (hr.1 _ _ h) hl hc ha
  | mapNil => exact .mapNil
  | map i b h => exact .map i b (hr.1 _ _ h)
  | nilFunc => exact .nilFunc
  | nilIface => exact .nilIface
  | iface t v v' _ ih => exact .iface t v v' ih
  | func fn xs xs' cs cs' hf h1 h2 _ _ ih3 ih4 => exact .func fn xs xs' cs cs' hf h1 h2 ih3 ih4
  | agg cs cs' h1 _ ih => exact .agg cs cs' h1 ih
  | tuple cs cs' h1 _ ih => exact .tuple cs cs' h1 ih
  | lit0 a cap h => exact .lit0 a cap h
  | empS a cap => exact .empS a cap
  | litS es b off sz cap cc h hl hs hz hb _ ih => exact .litS es b off sz cap cc (hr.2 _ _ h) hl hs hz hb ih
  | litP cs b off cc h hb _ ih => exact .litP cs b off cc (hr.2 _ _ h) hb ih

/-- Rows of values. -/
def RelL (ρ : Ren) (l l' : List Value) : Prop := l.length = l'.length ∧ ∀ (i : Nat) (x y : Value), l[i]? = some x → l'[i]? = some y → Rel ρ x y

theorem RelL.mono {ρ ρ' : Ren} (hr : ρ.le ρ') {l l' : List Value} (h : RelL ρ l l') : RelL ρ' l l' :=
  ⟨h.1, fun i x y hx hy => (h.2 i x y hx hy).mono hr⟩
theorem RelL.nil (ρ : Ren) : RelL ρ [] [] := ⟨rfl, by simp⟩
theorem RelL.cons {ρ : Ren} {x y : Value} {l l' : List Value} (h : Rel ρ x y) (hl : RelL ρ l l') : RelL ρ (x :: l) (y :: l') := by
  refine ⟨by simp [hl.1], fun i u v hu hv => ?_⟩
  cases i with
  | zero => simp at hu hv; subst hu; subst hv; exact h
  | succ i => simp at hu hv; exact hl.2 i u v hu hv
theorem RelL.append {ρ : Ren} {a b a' b' : List Value} (h : RelL ρ a a') (k : RelL ρ b b') : RelL ρ (a ++ b) (a' ++ b') := by
  refine ⟨by simp [h.1, k.1], fun i u v hu hv => ?_⟩
  by_cases hi : i < a.length
  · rw [List.getElem?_append_left hi] at hu
    rw [List.getElem?_append_left (h.1 ▸ hi)] at hv
    exact h.2 i u v hu hv
  · rw [List.getElem?_append_right (by omega)] at hu
    rw [List.getElem?_append_right (by have := h.1; omega), ← h.1] at hv
    exact k.2 _ u v hu hv
theorem RelL.get {ρ : Ren} {l l' : List Value} (h : RelL ρ l l') {i : Nat} {x : Value} (hx : l[i]? = some x) : ∃ y, l'[i]? = some y ∧ Rel ρ x y := by
  have hlt : i < l.length := (List.getElem?_eq_some_iff.1 hx).1
  refine ⟨l'[i]'(h.1 ▸ hlt), by simp, h.2 i x _ hx (by simp)⟩
theorem RelL.drop {ρ : Ren} {l l' : List Value} (h : RelL ρ l l') (k : Nat) : RelL ρ (l.drop k) (l'.drop k) :=
  ⟨by simp [h.1], fun i x y hx hy => by rw [List.getElem?_drop] at hx hy; exact h.2 _ x y hx hy⟩
theorem RelL.take {ρ : Ren} {l l' : List Value} (h : RelL ρ l l') (k : Nat) : RelL ρ (l.take k) (l'.take k) := by
  refine ⟨by simp [h.1], fun i x y hx hy => ?_⟩
  rw [List.getElem?_take] at hx hy
  split at hx
  · rename_i hi; rw [if_pos hi] at hy; exact h.2 _ x y hx hy
  · cases hx
theorem RelL.agg {ρ : Ren} {cs cs' : Array Value} (h : RelL ρ cs.toList cs'.toList) : Rel ρ (.agg cs) (.agg cs') :=
  .agg cs cs' (by simpa using h.1) fun i p q => h.2 i _ _ (by simp [p]) (by simp [q])
theorem Rel.agg_list {ρ : Ren} {cs cs' : Array Value} (h1 : cs.size = cs'.size)
    (h2 : ∀ (i : Nat) (p : i < cs.size) (q : i < cs'.size), Rel ρ cs[i] cs'[i]) : RelL ρ cs.toList cs'.toList := by
  refine ⟨by simpa using h1, fun i x y hx hy => ?_⟩
  have p : i < cs.size := by have := (List.getElem?_eq_some_iff.1 hx).1; simpa using this
  have q : i < cs'.size := h1 ▸ p
  have e1 : x = cs[i] := by simp [p] at hx; exact hx.symm
  have e2 : y = cs'[i] := by simp [q] at hy; exact hy.symm
  rw [e1, e2]; exact h2 i p q

/-- The abstract row at a place. -/
def getRow (h : Heap) (i : Nat) : Option (List Value × Md) :=
  match h[i]? with
  | some (.row c m) => some (c, m)
  | _ => none
def getMap (h : Heap) (i : Nat) : Option (List (Value × Value)) :=
  match h[i]? with
  | some (.map es) => some es
  | _ => none

theorem getRow_eq {h : Heap} {i : Nat} {c : List Value} {m : Md} (e : getRow h i = some (c, m)) : h[i]? = some (.row c m) := by
  unfold getRow at e
  split at e
  · rename_i c' m' hh; simp at e; obtain ⟨rfl, rfl⟩ := e; exact hh
  · cases e
theorem getMap_eq {h : Heap} {i : Nat} {es : List (Value × Value)} (e : getMap h i = some es) : h[i]? = some (.map es) := by
  unfold getMap at e
  split at e
  · rename_i es' hh; simp at e; subst e; exact hh
  · cases e

def live (h : Heap) (i : Nat) : Prop := ∃ o, h[i]? = some o ∧ o ≠ .dead
def isRo (h : Heap) (i : Nat) : Prop := ∃ c, h[i]? = some (.row c .ro)

/-- What a call leaves alone: the blocks below a number, and some more, at which no object of its own lies. -/
structure Fr where
  lo : Nat
  F : Nat → Prop

/-- Nothing outside, and none of the blocks that are left alone, has changed. -/
structure Kept (B : Fr) (w w' : World) : Prop where
  os : w'.os = w.os
  tape : w'.tape = w.tape
  output : w'.output = w.output
  size : w.heap.size ≤ w'.heap.size
  block : ∀ k, k < B.lo ∨ B.F k → w'.heap[k]? = w.heap[k]?

theorem Kept.refl (B : Fr) (w : World) : Kept B w w := ⟨rfl, rfl, rfl, Nat.le_refl _, fun _ _ => rfl⟩
theorem Kept.drew {B : Fr} {w0 w : World} (h : Kept B w0 w) : Kept B w0 w.drew := ⟨h.os, h.tape, h.output, h.size, h.block⟩

/-- A row lies as it says. -/
structure RowOk (B : Fr) (ρ : Ren) (w : World) (b : Bind) (c : List Value) (m : Md) : Prop where
  len : c.length = b.n
  lies : ∃ cc el fr, w.heap[b.block]? = some (.cells cc el fr) ∧ b.base + b.n + b.extra * b.size ≤ cc.size ∧
    (∀ (k : Nat) (x : Value), c[k]? = some x → ∃ y, cc[b.base + k]? = some y ∧ Rel ρ x y) ∧ (m ≠ .ro → ∀ o, o < cc.size → (decide (fr.1 ≤ o) && decide (o < fr.2)) = false)
  own : m ≠ .ro → B.lo ≤ b.block
  fit : m.openSize = none → b.extra = 0
  fit2 : ∀ s, 0 < s → m.openSize = some s → b.size = s
  zero : m = .exact → b.base = 0

/-- Keys that hold no address: told as they are. -/
def ground : Value → Bool
  | .bool _ | .int _ _ | .string _ => true
  | .agg cs => cs.toList.all fun
    | .bool _ | .int _ _ | .string _ => true
    | _ => false
  | _ => false

structure MapOk (B : Fr) (ρ : Ren) (w : World) (b : Bind) (es : List (Value × Value)) : Prop where
  own : B.lo ≤ b.block
  lies : ∃ ents clock, w.heap[b.block]? = some (.map ents clock) ∧ ents.size = es.length ∧
    ∀ (k : Nat) (x : Value × Value), es[k]? = some x → ∃ e : MapEntry, ents[k]? = some e ∧ e.key = x.1 ∧ ground x.1 = true ∧ Rel ρ x.2 e.val
  stamp : ∀ ents clock, w.heap[b.block]? = some (.map ents clock) → MapKept.Stamped ents clock

/-- The abstract heap stands for the world. 'B': from where on blocks are the call's own. -/
structure Sim (B : Fr) (w0 : World) (ρ : Ren) (h : Heap) (w : World) : Prop where
  below : Kept B w0 w
  le : B.lo ≤ w.heap.size
  fle : ∀ k, B.F k → k < w.heap.size
  dom : ∀ i b, ρ i = some b → i < h.length ∧ b.block < w.heap.size ∧ ¬ B.F b.block
  row : ∀ i c m, h[i]? = some (.row c m) → ∃ b, ρ i = some b ∧ RowOk B ρ w b c m
  map : ∀ i es, h[i]? = some (.map es) → ∃ b, ρ i = some b ∧ MapOk B ρ w b es
  inj : ∀ i j bi bj, i ≠ j → ρ i = some bi → ρ j = some bj → bi.block = bj.block → live h i → live h j → isRo h i ∧ isRo h j
  cold : ∀ k cc, ρ.frz k = some cc → ∃ el fr, w.heap[k]? = some (.cells cc el fr)
  apart : ∀ k cc i b, ρ.frz k = some cc → ρ i = some b → live h i → isRo h i ∨ b.block ≠ k
  coldF : ∀ k cc, ρ.frz k = some cc → ¬ B.F k

theorem Sim.coldLt {B : Fr} {w0 w : World} {ρ : Ren} {h : Heap} (s : Sim B w0 ρ h w) {k : Nat} {cc : Array Value} (e : ρ.frz k = some cc) : k < w.heap.size := by
  obtain ⟨el, fr, q⟩ := s.cold k cc e
  exact (Array.getElem?_eq_some_iff.1 q).1

theorem Sim.fresh {B : Fr} {w0 w : World} {ρ : Ren} {h : Heap} (s : Sim B w0 ρ h w) : ρ h.length = none := by
  cases e : ρ h.length with
  | none => rfl
  | some b => exact absurd (s.dom _ _ e).1 (Nat.lt_irrefl _)

/-- One name more. -/
def Ren.add (ρ : Ren) (i : Nat) (b : Bind) : Ren := ⟨fun j => if j = i then some b else ρ j, ρ.frz⟩
theorem Ren.add_same (ρ : Ren) (i : Nat) (b : Bind) : ρ.add i b i = some b := by simp [Ren.add]
theorem Ren.add_le {ρ : Ren} {i : Nat} (b : Bind) (h : ρ i = none) : ρ.le (ρ.add i b) := ⟨fun j x hx => by
  unfold Ren.add
  dsimp only
  split
  · rename_i e; subst e; rw [h] at hx; cases hx
  · exact hx, fun _ _ h => h⟩
theorem Ren.add_old {ρ : Ren} {i j : Nat} {b x : Bind} (hx : ρ.add i b j = some x) (hne : j ≠ i) : ρ j = some x := by
  unfold Ren.add at hx; dsimp only at hx; rw [if_neg hne] at hx; exact hx

/-- A world in which only a fresh block has come, or a draw was made. -/
theorem RowOk.mono {B : Fr} {ρ ρ' : Ren} {w w' : World} {b : Bind} {c : List Value} {m : Md} (h : RowOk B ρ w b c m) (hr : ρ.le ρ')
    (hw : w'.heap[b.block]? = w.heap[b.block]?) : RowOk B ρ' w' b c m := by
  obtain ⟨cc, el, fr, h1, h2, h3, h4⟩ := h.lies
  exact ⟨h.len, ⟨cc, el, fr, hw.trans h1, h2, fun k x hx => let ⟨y, hy, hr'⟩ := h3 k x hx; ⟨y, hy, hr'.mono hr⟩, h4⟩, h.own, h.fit, h.fit2, h.zero⟩
theorem MapOk.mono {B : Fr} {ρ ρ' : Ren} {w w' : World} {b : Bind} {es : List (Value × Value)} (h : MapOk B ρ w b es) (hr : ρ.le ρ')
    (hw : w'.heap[b.block]? = w.heap[b.block]?) : MapOk B ρ' w' b es := by
  obtain ⟨ents, clock, h1, h2, h3⟩ := h.lies
  refine ⟨h.own, ⟨ents, clock, hw.trans h1, h2, fun k x hx => let ⟨e, he, h4, h5, h6⟩ := h3 k x hx; ⟨e, he, h4, h5, h6.mono hr⟩⟩, fun en cl q => h.stamp en cl (hw ▸ q)⟩

theorem live_append {h : Heap} {i : Nat} {o : AObj} (hi : i < h.length) : live (h ++ [o]) i ↔ live h i := by
  unfold live; rw [List.getElem?_append_left hi]
theorem isRo_append {h : Heap} {i : Nat} {o : AObj} (hi : i < h.length) : isRo (h ++ [o]) i ↔ isRo h i := by
  unfold isRo; rw [List.getElem?_append_left hi]

theorem Sim.drew {B : Fr} {w0 w : World} {ρ : Ren} {h : Heap} (s : Sim B w0 ρ h w) : Sim B w0 ρ h w.drew :=
  ⟨s.below.drew, s.le, s.fle, s.dom, fun i c m hi => let ⟨b, h1, h2⟩ := s.row i c m hi; ⟨b, h1, h2.mono (.refl _) rfl⟩,
    fun i es hi => let ⟨b, h1, h2⟩ := s.map i es hi; ⟨b, h1, h2.mono (.refl _) rfl⟩, s.inj, s.cold, s.apart, s.coldF⟩

theorem heap_alloc_lt (w : World) (o : Obj) (k : Nat) (h : k < w.heap.size) : (w.alloc o).heap[k]? = w.heap[k]? := Below.heap_alloc w o k h
theorem heap_alloc_new (w : World) (o : Obj) : (w.alloc o).heap[w.heap.size]? = some o := by show (w.heap.push o)[w.heap.size]? = _; simp

/-- A new block and a new object. -/
theorem Sim.add {B : Fr} {w0 w : World} {ρ : Ren} {h : Heap} (s : Sim B w0 ρ h w) (o : Obj) (ao : AObj) (b : Bind) (hb : b.block = w.heap.size)
    (hrow : ∀ c m, ao = .row c m → RowOk B (ρ.add h.length b) (w.alloc o) b c m)
    (hmap : ∀ es, ao = .map es → MapOk B (ρ.add h.length b) (w.alloc o) b es) :
    Sim B w0 (ρ.add h.length b) (h ++ [ao]) (w.alloc o) := by
  have hle := Ren.add_le b s.fresh
  have old : ∀ {i x}, ρ.add h.length b i = some x → i ≠ h.length → ρ i = some x := fun {i x} hx hne => Ren.add_old hx hne
  refine ⟨⟨s.below.os, s.below.tape, s.below.output, by have := s.below.size; simp; omega, fun k hk => ?_⟩, by simp; have := s.le; omega, fun k hk => by have := s.fle k hk; simp; omega, fun i x hx => ?_, fun i c m hi => ?_, fun i es hi => ?_, fun i j bi bj hne hi hj hbl hli hlj => ?_,
    fun k cc hk => ?_, fun k cc i x hk hi hl => ?_, s.coldF⟩
  · have hlt : k < w.heap.size := hk.elim (fun q => Nat.lt_of_lt_of_le q s.le) (s.fle k)
    rw [heap_alloc_lt _ _ _ hlt]; exact s.below.block k hk
  · by_cases e : i = h.length
    · subst e; rw [Ren.add_same] at hx; cases hx
      refine ⟨by simp, by simp [hb], fun q => ?_⟩
      have := s.fle _ q; omega
    · obtain ⟨d1, d2, d3⟩ := s.dom _ _ (old hx e)
      exact ⟨by simp; omega, by simp; omega, d3⟩
  · by_cases e : i < h.length
    · rw [List.getElem?_append_left e] at hi
      obtain ⟨x, h1, h2⟩ := s.row i c m hi
      exact ⟨x, hle.1 _ _ h1, h2.mono hle (heap_alloc_lt _ _ _ (s.dom _ _ h1).2.1)⟩
    · rw [List.getElem?_append_right (by omega)] at hi
      have e2 : i = h.length := by
        have := (List.getElem?_eq_some_iff.1 hi).1; simp at this; omega
      subst e2
      simp at hi
      exact ⟨b, Ren.add_same _ _ _, hrow c m hi⟩
  · by_cases e : i < h.length
    · rw [List.getElem?_append_left e] at hi
      obtain ⟨x, h1, h2⟩ := s.map i es hi
      exact ⟨x, hle.1 _ _ h1, h2.mono hle (heap_alloc_lt _ _ _ (s.dom _ _ h1).2.1)⟩
    · rw [List.getElem?_append_right (by omega)] at hi
      have e2 : i = h.length := by
        have := (List.getElem?_eq_some_iff.1 hi).1; simp at this; omega
      subst e2
      simp at hi
      exact ⟨b, Ren.add_same _ _ _, hmap es hi⟩
  · by_cases e1 : i = h.length
    · by_cases e2 : j = h.length
      · omega
      · subst e1
        rw [Ren.add_same] at hi; cases hi
        have := (s.dom _ _ (old hj e2)).2.1
        omega
    · by_cases e2 : j = h.length
      · subst e2
        rw [Ren.add_same] at hj; cases hj
        have := (s.dom _ _ (old hi e1)).2.1
        omega
      · have hi' := old hi e1
        have hj' := old hj e2
        have li := (s.dom _ _ hi').1
        have lj := (s.dom _ _ hj').1
        rw [live_append li] at hli
        rw [live_append lj] at hlj
        rw [isRo_append li, isRo_append lj]
        exact s.inj i j bi bj hne hi' hj' hbl hli hlj
  · obtain ⟨el, fr, q⟩ := s.cold k cc hk
    exact ⟨el, fr, (heap_alloc_lt _ _ _ (s.coldLt hk)).trans q⟩
  · by_cases e : i = h.length
    · subst e
      rw [Ren.add_same] at hi; cases hi
      have := s.coldLt hk
      right; omega
    · have hi' := old hi e
      have li := (s.dom _ _ hi').1
      rw [live_append li] at hl
      rw [isRo_append li]
      exact s.apart k cc i x hk hi' hl

/-- A new row. -/
theorem Sim.addRow {B : Fr} {w0 w : World} {ρ : Ren} {h : Heap} (s : Sim B w0 ρ h w) {cs : List Value} {cc : Array Value} {el : TypeId} (size extra : Nat) (m : Md)
    (hm : m.openSize = none → extra = 0) (hm2 : ∀ s, 0 < s → m.openSize = some s → size = s) (hro : m ≠ .ro) (hs : cs.length + extra * size ≤ cc.size) (hr : ∀ (k : Nat) (x : Value), cs[k]? = some x → ∃ y, cc[k]? = some y ∧ Rel ρ x y) :
    Sim B w0 (ρ.add h.length ⟨w.heap.size, 0, cs.length, size, extra⟩) (h ++ [.row cs m]) (w.alloc (.cells cc el)) := by
  refine s.add _ _ _ rfl (fun c m' e => ?_) (fun es e => by cases e)
  cases e
  refine ⟨rfl, ⟨cc, el, (0, 0), heap_alloc_new _ _, by simpa using hs, fun k x hx => ?_, fun _ o _ => by simp⟩, fun _ => s.le, hm, hm2, fun _ => rfl⟩
  obtain ⟨y, hy, hr'⟩ := hr k x hx
  exact ⟨y, by simpa using hy, hr'.mono (Ren.add_le _ s.fresh)⟩

/-- A new map. -/
theorem Sim.addMap {B : Fr} {w0 w : World} {ρ : Ren} {h : Heap} (s : Sim B w0 ρ h w) (clock : Nat) :
    Sim B w0 (ρ.add h.length ⟨w.heap.size, 0, 0, 0, 0⟩) (h ++ [.map []]) (w.alloc (.map #[] clock)) := by
  refine s.add _ _ _ rfl (fun c m' e => by cases e) (fun es e => ?_)
  cases e
  exact ⟨s.le, ⟨#[], clock, heap_alloc_new _ _, rfl, by simp⟩, fun en cl q => by
    have e := (heap_alloc_new w (.map #[] clock)).symm.trans q
    cases e; exact MapKept.stamped_empty _⟩

/-- One object, that nobody shares, turned: its block turned too, no other. -/
theorem Sim.turn {B : Fr} {w0 w w' : World} {ρ : Ren} {h : Heap} (s : Sim B w0 ρ h w) (i : Nat) (b : Bind) (ao : AObj) (hi : ρ i = some b)
    (hlive : live h i) (hnr : ¬ isRo h i) (hb : B.lo ≤ b.block)
    (hsz : w'.heap.size = w.heap.size) (hos : w'.os = w.os) (htape : w'.tape = w.tape) (hout : w'.output = w.output)
    (hoth : ∀ k, k ≠ b.block → w'.heap[k]? = w.heap[k]?)
    (hao : ∀ c, ao ≠ .row c .ro)
    (hrow : ∀ c m, ao = .row c m → RowOk B ρ w' b c m) (hmap : ∀ es, ao = .map es → MapOk B ρ w' b es) :
    Sim B w0 ρ (h.set i ao) w' := by
  have hlt : i < h.length := (s.dom _ _ hi).1
  have other : ∀ j bj, j ≠ i → ρ j = some bj → live h j → bj.block ≠ b.block := fun j bj hne hj hl e => by
    have := s.inj j i bj b hne hj hi e hl hlive
    exact hnr this.2
  have live_of : ∀ j, j ≠ i → (live (h.set i ao) j ↔ live h j) := fun j hne => by
    unfold live; rw [List.getElem?_set_ne (Ne.symm hne)]
  have ro_of : ∀ j, j ≠ i → (isRo (h.set i ao) j ↔ isRo h j) := fun j hne => by
    unfold isRo; rw [List.getElem?_set_ne (Ne.symm hne)]
  refine ⟨⟨hos.trans s.below.os, htape.trans s.below.tape, hout.trans s.below.output, by have := s.below.size; omega, fun k hk => (hoth k (fun e => by
        subst e
        rcases hk with q | q
        · omega
        · exact (s.dom _ _ hi).2.2 q)).trans (s.below.block k hk)⟩,
    by have := s.le; omega, fun k hk => by have := s.fle k hk; omega, fun j x hx => by
      obtain ⟨d1, d2, d3⟩ := s.dom j x hx
      exact ⟨by simp; omega, by omega, d3⟩, fun j c m hj => ?_, fun j es hj => ?_, fun j k bj bk hne hj hk hbl hlj hlk => ?_, fun k cc hk => ?_, fun k cc j x hk hj hl => ?_, s.coldF⟩
  · by_cases e : j = i
    · subst e
      rw [List.getElem?_set_self hlt] at hj
      exact ⟨b, hi, hrow c m (Option.some.inj hj)⟩
    · rw [List.getElem?_set_ne (Ne.symm e)] at hj
      obtain ⟨x, h1, h2⟩ := s.row j c m hj
      exact ⟨x, h1, h2.mono (.refl _) (hoth _ (other j x e h1 ⟨_, hj, by simp⟩))⟩
  · by_cases e : j = i
    · subst e
      rw [List.getElem?_set_self hlt] at hj
      exact ⟨b, hi, hmap es (Option.some.inj hj)⟩
    · rw [List.getElem?_set_ne (Ne.symm e)] at hj
      obtain ⟨x, h1, h2⟩ := s.map j es hj
      exact ⟨x, h1, h2.mono (.refl _) (hoth _ (other j x e h1 ⟨_, hj, by simp⟩))⟩
  · by_cases ej : j = i
    · subst ej
      have hk' := (live_of k (Ne.symm hne)).1 hlk
      rw [hi] at hj; cases hj
      exact absurd hbl.symm (other k bk (Ne.symm hne) hk hk')
    · by_cases ek : k = i
      · subst ek
        have hj' := (live_of j ej).1 hlj
        rw [hi] at hk; cases hk
        exact absurd hbl (other j bj ej hj hj')
      · rw [ro_of j ej, ro_of k ek]
        exact s.inj j k bj bk hne hj hk hbl ((live_of j ej).1 hlj) ((live_of k ek).1 hlk)
  · obtain ⟨el, fr, q⟩ := s.cold k cc hk
    refine ⟨el, fr, (hoth k fun e => ?_).trans q⟩
    rcases s.apart k cc i b hk hi hlive with r | r
    · exact hnr r
    · exact r e.symm
  · by_cases e : j = i
    · subst e
      rw [hi] at hj; cases hj
      right
      rcases s.apart k cc j b hk hi hlive with r | r
      · exact absurd r hnr
      · exact r
    · rw [ro_of j e]
      exact s.apart k cc j x hk hj ((live_of j e).1 hl)

end Go.Ax
