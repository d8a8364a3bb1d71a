/- Ax, part 18: which objects an operation looks at, and which it turns. -/
import Derived.Test.YtoaohmmdhmefpaaA17
namespace Go.Ax
open Go.RowKit

section
variable {P : Program}

def ptrId : Value → Option Nat
  | .pointer (some ⟨i, _, _⟩) => some i
  | .slice (some ⟨i, _, _⟩) _ _ => some i
  | .map (some i) => some i
  | _ => none

def optL (o : Option Nat) : List Nat := match o with | some i => [i] | none => []

/-- The objects on which the value of an operation hangs that leaves the heap as it is; none: it may turn the heap. -/
def quietDep (t : Ts) (o : Op) : Option (List Nat) :=
  match o with
  | .move _ | .assign _ | .pick _ _ _ | .nilCheck _ | .binOp _ _ _ _ _ | .unOp _ _ _ | .makeFunc _ _ _ | .fieldAddr _ _ _ | .field _ _ _ | .indexAddr _ _ _
  | .index _ _ _ | .extract _ _ | .makeInterface _ _ | .build _ _ => some []
  | .load _ a => some (optL (ptrId (evalO t a)))
  | .lookup _ m _ _ => some (optL (ptrId (evalO t m)))
  | .slice _ x _ _ _ => some (optL (ptrId (evalO t x)))
  | .call c => match c.callee with
    | .builtin .len => some (c.args.toList.flatMap fun x => optL (ptrId (evalO t x)))
    | .builtin .max | .builtin .min => some []
    | _ => none
  | _ => none

theorem getRow_congr {h h' : Heap} {i : Nat} (e : h'[i]? = h[i]?) : getRow h' i = getRow h i := by unfold getRow; rw [e]
theorem getMap_congr {h h' : Heap} {i : Nat} (e : h'[i]? = h[i]?) : getMap h' i = getMap h i := by unfold getMap; rw [e]

theorem aload_congr {h h' : Heap} {ty : TypeId} {v : Value} (e : ∀ i ∈ optL (ptrId v), h'[i]? = h[i]?) : aload P h' ty v = aload P h ty v := by
  unfold aload
  split
  · rename_i i off
    rw [getRow_congr (e i (by simp [ptrId, optL]))]
  · rfl

theorem quietDep_ok0 {t : Ts} {h h1 : Heap} {o : Op} {R : List Nat} {v : Value} (hq : quietDep t o = some R) (e : aop0 P t h o = some (v, h1)) :
    h1 = h ∧ ∀ h', (∀ i ∈ R, h'[i]? = h[i]?) → aop0 P t h' o = some (v, h') := by
  cases o with
  | move x => simp only [aop0, Option.some.injEq, Prod.mk.injEq] at e ⊢; obtain ⟨rfl, rfl⟩ := e; simp
  | assign x => simp only [aop0, Option.some.injEq, Prod.mk.injEq] at e ⊢; obtain ⟨rfl, rfl⟩ := e; simp
  | pick c a b =>
    simp only [aop0] at e ⊢
    split at e <;> first
      | (cases e; done)
      | (simp only [Option.some.injEq, Prod.mk.injEq] at e; obtain ⟨rfl, rfl⟩ := e; simp)
  | nilCheck x =>
    simp only [aop0] at e ⊢
    split at e <;> first
      | (cases e; done)
      | (simp only [Option.some.injEq, Prod.mk.injEq] at e; obtain ⟨rfl, rfl⟩ := e; simp)
  | binOp op ty x y yt =>
    simp only [aop0, Option.map_eq_some_iff, Prod.mk.injEq] at e ⊢
    obtain ⟨u, hu, rfl, rfl⟩ := e
    simp [hu]
  | unOp op ty x =>
    simp only [aop0, Option.map_eq_some_iff, Prod.mk.injEq] at e ⊢
    obtain ⟨u, hu, rfl, rfl⟩ := e
    simp [hu]
  | makeFunc fn xs cs =>
    simp only [aop0] at e ⊢
    split at e
    · rename_i hc
      simp only [Option.some.injEq, Prod.mk.injEq] at e; obtain ⟨rfl, rfl⟩ := e; simp [hc]
    · cases e
  | fieldAddr s x f =>
    simp only [aop0] at e ⊢
    (repeat' split at e) <;> first
      | (cases e; done)
      | (simp only [Option.some.injEq, Prod.mk.injEq] at e; obtain ⟨rfl, rfl⟩ := e; refine ⟨rfl, fun h' _ => ?_⟩; first | rfl | (simp_all; done))
      | (simp only [Option.map_eq_some_iff, Prod.mk.injEq] at e
         obtain ⟨u, hu, rfl, rfl⟩ := e
         refine ⟨rfl, fun h' _ => ?_⟩; first | rfl | (simp_all; done))
  | field s x f =>
    simp only [aop0] at e ⊢
    (repeat' split at e) <;> first
      | (cases e; done)
      | (simp only [Option.some.injEq, Prod.mk.injEq] at e; obtain ⟨rfl, rfl⟩ := e; refine ⟨rfl, fun h' _ => ?_⟩; first | rfl | (simp_all; done))
      | (simp only [Option.map_eq_some_iff, Prod.mk.injEq] at e
         obtain ⟨u, hu, rfl, rfl⟩ := e
         refine ⟨rfl, fun h' _ => ?_⟩; first | rfl | (simp_all; done))
  | indexAddr ty x ix =>
    simp only [aop0] at e ⊢
    (repeat' split at e) <;> first
      | (cases e; done)
      | (simp only [Option.some.injEq, Prod.mk.injEq] at e; obtain ⟨rfl, rfl⟩ := e; refine ⟨rfl, fun h' _ => ?_⟩; first | rfl | (simp_all; done))
      | (simp only [Option.map_eq_some_iff, Prod.mk.injEq] at e
         obtain ⟨u, hu, rfl, rfl⟩ := e
         refine ⟨rfl, fun h' _ => ?_⟩; first | rfl | (simp_all; done))
  | index ty x ix =>
    simp only [aop0] at e ⊢
    (repeat' split at e) <;> first
      | (cases e; done)
      | (simp only [Option.some.injEq, Prod.mk.injEq] at e; obtain ⟨rfl, rfl⟩ := e; refine ⟨rfl, fun h' _ => ?_⟩; first | rfl | (simp_all; done))
      | (simp only [Option.map_eq_some_iff, Prod.mk.injEq] at e
         obtain ⟨u, hu, rfl, rfl⟩ := e
         refine ⟨rfl, fun h' _ => ?_⟩; first | rfl | (simp_all; done))
  | extract x i =>
    simp only [aop0] at e ⊢
    (repeat' split at e) <;> first
      | (cases e; done)
      | (simp only [Option.some.injEq, Prod.mk.injEq] at e; obtain ⟨rfl, rfl⟩ := e; refine ⟨rfl, fun h' _ => ?_⟩; first | rfl | (simp_all; done))
      | (simp only [Option.map_eq_some_iff, Prod.mk.injEq] at e
         obtain ⟨u, hu, rfl, rfl⟩ := e
         refine ⟨rfl, fun h' _ => ?_⟩; first | rfl | (simp_all; done))
  | makeInterface ty x =>
    simp only [aop0] at e ⊢
    (repeat' split at e) <;> first
      | (cases e; done)
      | (simp only [Option.some.injEq, Prod.mk.injEq] at e; obtain ⟨rfl, rfl⟩ := e; refine ⟨rfl, fun h' _ => ?_⟩; first | rfl | (simp_all; done))
      | (simp only [Option.map_eq_some_iff, Prod.mk.injEq] at e
         obtain ⟨u, hu, rfl, rfl⟩ := e
         refine ⟨rfl, fun h' _ => ?_⟩; first | rfl | (simp_all; done))
  | build ty ps =>
    simp only [aop0] at e ⊢
    (repeat' split at e) <;> first
      | (cases e; done)
      | (simp only [Option.some.injEq, Prod.mk.injEq] at e; obtain ⟨rfl, rfl⟩ := e; refine ⟨rfl, fun h' _ => ?_⟩; first | rfl | (simp_all; done))
      | (simp only [Option.map_eq_some_iff, Prod.mk.injEq] at e
         obtain ⟨u, hu, rfl, rfl⟩ := e
         refine ⟨rfl, fun h' _ => ?_⟩; first | rfl | (simp_all; done))
  | load ty a =>
    simp only [quietDep, Option.some.injEq] at hq; subst hq
    simp only [aop0, Option.map_eq_some_iff, Prod.mk.injEq] at e ⊢
    obtain ⟨u, hu, rfl, rfl⟩ := e
    exact ⟨rfl, fun h' hh => ⟨u, by rw [aload_congr hh]; exact hu, rfl, trivial⟩⟩
  | lookup ty m k ok =>
    simp only [quietDep, Option.some.injEq] at hq; subst hq
    simp only [aop0, Option.map_eq_some_iff, Prod.mk.injEq] at e ⊢
    obtain ⟨u, hu, rfl, rfl⟩ := e
    refine ⟨rfl, fun h' hh => ⟨u, ?_, rfl, trivial⟩⟩
    rw [← hu]
    generalize evalO t m = mv at hh
    unfold lookupA
    cases mv with
    | map r =>
      cases r with
      | none => rfl
      | some i => simp only [getMap_congr (hh i (by simp [ptrId, optL]))]
    | _ => rfl
  | slice ty x lo hi mx =>
    simp only [quietDep, Option.some.injEq] at hq; subst hq
    simp only [aop0, Option.map_eq_some_iff, Prod.mk.injEq] at e ⊢
    obtain ⟨u, hu, rfl, rfl⟩ := e
    refine ⟨rfl, fun h' hh => ⟨u, ?_, rfl, trivial⟩⟩
    rw [← hu]
    generalize evalO t x = xv at hh
    unfold sliceA
    cases tinfo P ty with
    | none => rfl
    | some r =>
      obtain ⟨d, r⟩ := r
      cases d with
      | slice el =>
        cases xv with
        | slice a len cap =>
          cases a with
          | none => rfl
          | some ad =>
            obtain ⟨i, off, sp⟩ := ad
            have := getRow_congr (hh i (by simp [ptrId, optL]))
            cases sp with
            | none => simp only [this]
            | some q => rfl
        | _ => rfl
      | array n el =>
        cases xv with
        | pointer a =>
          cases a with
          | none => rfl
          | some ad => obtain ⟨i, off, sp⟩ := ad; cases sp <;> rfl
        | _ => rfl
      | _ => cases xv <;> rfl
  | call c =>
    obtain ⟨callee, args, tys⟩ := c
    cases callee with
    | builtin b =>
      cases b with
      | len =>
        simp only [quietDep, Option.some.injEq] at hq; subst hq
        simp only [aop0, abuiltin] at e ⊢
        split at e
        · rename_i x ty ha hty
          simp only [Option.map_eq_some_iff, Prod.mk.injEq] at e
          obtain ⟨u, hu, rfl, rfl⟩ := e
          refine ⟨rfl, fun h' hh => ?_⟩
          have hx : ∀ i ∈ optL (ptrId (evalO t x)), h'[i]? = h[i]? := fun i hi => hh i (by rw [ha]; simpa using hi)
          have : lenA P h' ty (evalO t x) = lenA P h ty (evalO t x) := by
            generalize evalO t x = xv at hx
            unfold lenA
            cases xv with
            | map r =>
              cases r with
              | none => cases tinfo P ty with
                | none => rfl
                | some r => obtain ⟨d, r⟩ := r; cases d <;> rfl
              | some i =>
                have hg := getMap_congr (hx i (by simp [ptrId, optL]))
                cases tinfo P ty with
                | none => rfl
                | some r => obtain ⟨d, r⟩ := r; cases d <;> first | rfl | (dsimp only; rw [hg])
            | _ => cases tinfo P ty with
              | none => rfl
              | some r => obtain ⟨d, r⟩ := r; cases d <;> rfl
          rw [this, hu]; rfl
        · cases e
      | max =>
        simp only [aop0, abuiltin, Option.map_eq_some_iff, Prod.mk.injEq] at e ⊢
        obtain ⟨u, hu, rfl, rfl⟩ := e
        exact ⟨rfl, fun h' _ => ⟨u, hu, rfl, trivial⟩⟩
      | min =>
        simp only [aop0, abuiltin, Option.map_eq_some_iff, Prod.mk.injEq] at e ⊢
        obtain ⟨u, hu, rfl, rfl⟩ := e
        exact ⟨rfl, fun h' _ => ⟨u, hu, rfl, trivial⟩⟩
      | _ => simp [quietDep] at hq
    | _ => simp [quietDep] at hq
  | _ => simp [quietDep] at hq

theorem quietDep_ok {t : Ts} {h h1 : Heap} {o : Op} {R : List Nat} {v : Value} (hq : quietDep t o = some R) (e : aop P t h o = some (v, h1)) :
    h1 = h ∧ ∀ h', (∀ i ∈ R, h'[i]? = h[i]?) → aop P t h' o = some (v, h') := by
  unfold aop at e ⊢
  cases hl : lop P t o with
  | some u => rw [hl] at e; cases e; exact ⟨rfl, fun h' _ => rfl⟩
  | none => rw [hl] at e; exact quietDep_ok0 hq e

end
end Go.Ax
