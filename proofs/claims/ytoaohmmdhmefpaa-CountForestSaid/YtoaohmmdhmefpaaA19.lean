/- Ax, part 19: an evaluator for calls, sound for what a call comes to. -/
import Derived.Test.YtoaohmmdhmefpaaA18
namespace Go.Ax
open Go.RowKit

abbrev TL := List Value
def tsOf (l : TL) : Ts := fun i => l.getD i undef
def putL (l : TL) (d : Option Tmp) (v : Value) : TL :=
  match d with
  | none => l
  | some d => l.set d v

theorem tsOf_put {l : TL} {d : Option Tmp} (v : Value) (hd : ∀ k, d = some k → k < l.length) : tsOf (putL l d v) = aput (tsOf l) d v := by
  cases d with
  | none => rfl
  | some k =>
    have := hd k rfl
    funext i
    simp only [putL, tsOf, aput, List.getD_eq_getElem?_getD]
    by_cases e : i = k
    · subst e; simp [this]
    · rw [if_neg e, List.getElem?_set_ne (Ne.symm e)]
@[simp] theorem length_putL (l : TL) (d : Option Tmp) (v : Value) : (putL l d v).length = l.length := by cases d <;> simp [putL]

inductive Ex where
  | normal
  | exit (id : Nat)
  | ret

def Ex.exit_ : Ex → Exit
  | .normal => .normal
  | .exit i => .exit i
  | .ret => .ret

section
variable (P : Program) (n : Nat)

def isQuiet : Op → Bool
  | .move _ | .assign _ | .pick _ _ _ | .nilCheck _ | .binOp _ _ _ _ _ | .unOp _ _ _ | .makeFunc _ _ _ | .fieldAddr _ _ _ | .field _ _ _ | .indexAddr _ _ _
  | .index _ _ _ | .extract _ _ | .makeInterface _ _ | .build _ _ | .load _ _ | .lookup _ _ _ _ | .slice _ _ _ _ _ => true
  | .call c => match c.callee with
    | .builtin .len | .builtin .max | .builtin .min => true
    | _ => false
  | _ => false

/-- A plan for a region that draws its order. -/
def mkPlan (ops : Array Oper) : Nat → Array Bool → List (Nat × Option (List Nat))
  | 0, _ => []
  | k + 1, listed =>
    let rs := Region.ready .any ops listed
    match rs.find? (fun i => ((ops[i]?).map (fun o => isQuiet o.op)).getD false && Region.free .any ops listed i) with
    | some i => (i, none) :: mkPlan ops k (listed.setIfInBounds i true)
    | none => match rs with
      | [] => []
      | [i] => (i, some []) :: mkPlan ops k (listed.setIfInBounds i true)
      | i :: _ =>
        let i := (rs.find? fun i => !lateAble n ops listed i || !((ops[i]?).map (fun o => match o.op with | .alloc _ | .buildSlice _ _ _ => true | _ => false)).getD false).getD i
        (i, some (rs.filter (· != i))) :: mkPlan ops k (listed.setIfInBounds i true)

def planOf (ops : Array Oper) : List (Nat × Option (List Nat)) := mkPlan n ops ops.size (Array.replicate ops.size false)

def isUnd : Value → Bool
  | .tuple cs => match cs.toList with
    | [.tuple ds] => ds.size == 0
    | _ => false
  | _ => false

theorem isUnd_eq {v : Value} (h : isUnd v = true) : v = und := by
  unfold isUnd at h
  split at h
  · rename_i cs
    split at h
    · rename_i ds hcs
      obtain ⟨cs⟩ := cs
      obtain ⟨ds⟩ := ds
      simp at hcs h
      subst hcs; subst h
      rfl
    · cases h
  · cases h

def lateChk (ops : Array Oper) (t : Ts) (l : Nat) : Bool :=
  match ops[l]? with
  | some o => match o.dst with
    | some d => isUnd (t d) && (lateA P t o.op).isSome
    | none => false
  | none => false

theorem lateChk_ok {ops : Array Oper} {t : Ts} {l : Nat} (h : lateChk P ops t l = true) : ∃ o d data, ops[l]? = some o ∧ o.dst = some d ∧ t d = und ∧ lateA P t o.op = some data := by
  unfold lateChk at h
  split at h
  · rename_i o ho
    split at h
    · rename_i d hd
      simp only [Bool.and_eq_true] at h
      obtain ⟨data, hdata⟩ := Option.isSome_iff_exists.1 h.2
      exact ⟨o, d, data, ho, hd, isUnd_eq h.1, hdata⟩
    · cases h
  · cases h

def undLL (ops : Array Oper) : List Nat → TL → TL
  | [], t => t
  | l :: L, t => undLL ops L (putL t ((ops[l]?).bind (·.dst)) und)
def undPL (ops : Array Oper) : List (Nat × Option (List Nat)) → TL → TL
  | [], t => t
  | (_, none) :: r, t => undPL ops r t
  | (_, some L) :: r, t => undPL ops r (undLL ops L t)

theorem undLL_length (ops : Array Oper) : ∀ (L : List Nat) (t : TL), (undLL ops L t).length = t.length
  | [], _ => rfl
  | _ :: L, t => by rw [undLL, undLL_length]; simp
theorem undPL_length (ops : Array Oper) : ∀ (pl : List (Nat × Option (List Nat))) (t : TL), (undPL ops pl t).length = t.length
  | [], _ => rfl
  | (_, none) :: r, t => by rw [undPL, undPL_length]
  | (_, some L) :: r, t => by rw [undPL, undPL_length, undLL_length]
theorem tsOf_undLL {ops : Array Oper} (hops : ops.toList.all (dstOk n) = true) : ∀ (L : List Nat) (t : TL), t.length = n → tsOf (undLL ops L t) = undL ops L (tsOf t)
  | [], _, _ => rfl
  | l :: L, t, ht => by
    rw [undLL, tsOf_undLL hops L _ (by simp [ht]), undL, tsOf_put]
    intro k hk
    cases ho : ops[l]? with
    | none => rw [ho] at hk; cases hk
    | some o =>
      rw [ho] at hk
      have := List.all_eq_true.1 hops o (by simpa using Array.mem_of_getElem? ho)
      unfold dstOk at this
      simp at hk
      rw [hk] at this
      rw [ht]; simpa using this
theorem tsOf_undPL {ops : Array Oper} (hops : ops.toList.all (dstOk n) = true) : ∀ (pl : List (Nat × Option (List Nat))) (t : TL), t.length = n → tsOf (undPL ops pl t) = undP ops pl (tsOf t)
  | [], _, _ => rfl
  | (_, none) :: r, t, ht => by rw [undPL, tsOf_undPL hops r _ ht, undP]
  | (_, some L) :: r, t, ht => by rw [undPL, tsOf_undPL hops r _ (by rw [undLL_length, ht]), undP, tsOf_undLL n hops L t ht]

end
end Go.Ax
