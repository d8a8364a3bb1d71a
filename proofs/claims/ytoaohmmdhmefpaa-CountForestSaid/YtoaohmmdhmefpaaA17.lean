/- Ax, part 17: code; a function's body. -/
import Derived.Test.YtoaohmmdhmefpaaAH
import Derived.Deep.LoopGhost
import Derived.Scope
namespace Go.Ax
open Go.RowKit

section
variable {P : Program} {n : Nat}

def thenA (K : Ts → Heap → Prop) (Q : Exit → Ts → Heap → Prop) : Exit → Ts → Heap → Prop
  | .normal, t, h => K t h
  | e, t, h => Q e t h
def blockA (id : Nat) (Q : Exit → Ts → Heap → Prop) : Exit → Ts → Heap → Prop
  | .exit i, t, h => if i = id then Q .normal t h else Q (.exit i) t h
  | e, t, h => Q e t h

/-- The same, or nothing told, of each slot. -/
def Wk (t t' : Ts) : Prop := ∀ i, t' i = t i ∨ t' i = und
theorem Wk.refl (t : Ts) : Wk t t := fun _ => .inl rfl
def wkA (F : Ts → Heap → Prop) (t : Ts) (h : Heap) : Prop := ∃ t', Wk t t' ∧ F t' h
theorem wkA.of {F : Ts → Heap → Prop} {t : Ts} {h : Heap} (e : F t h) : wkA F t h := ⟨t, Wk.refl t, e⟩
theorem TRel.wk {ρ : Ren} {t t' : Ts} {a : Array Value} (h : TRel ρ n t a) (hw : Wk t t') : TRel ρ n t' a :=
  ⟨h.1, fun i => (hw i).elim (fun e => e ▸ h.2 i) fun e => e ▸ .any _⟩

/-- Slots forgotten; or things forgotten, frozen, named anew. -/
def gcT (h0 : Heap) (F : Ts → Heap → Prop) (t : Ts) (h : Heap) : Prop :=
  wkA F t h ∨ ∃ fr r t2 h2, Gh h0 fr r h h2 ∧ (∀ i, Gv fr r h (t2 i) (t i)) ∧ F t2 h2
theorem gcT.of {h0 : Heap} {F : Ts → Heap → Prop} {t : Ts} {h : Heap} (e : F t h) : gcT h0 F t h := .inl (wkA.of e)
theorem gcT.mono {h0 : Heap} {F F' : Ts → Heap → Prop} (hf : ∀ t h, F t h → F' t h) {t : Ts} {h : Heap} (e : gcT h0 F t h) : gcT h0 F' t h :=
  e.imp (fun ⟨t', h1, h2⟩ => ⟨t', h1, hf _ _ h2⟩) fun ⟨fr, r, t2, h2, g1, g2, g3⟩ => ⟨fr, r, t2, h2, g1, g2, hf _ _ g3⟩

theorem gcT_ok {h0 : Heap} {ρ0 ρ : Ren} (ow : Own ρ0 h0) (hle : ρ0.le ρ) {B : Fr} {w0 w : World} {F : Ts → Heap → Prop} {t : Ts} {h : Heap} {a : Array Value} (s : Sim B w0 ρ h w) (ht : TRel ρ n t a) (e : gcT h0 F t h) :
    ∃ ρ' t' h', ρ0.le ρ' ∧ Sim B w0 ρ' h' w ∧ TRel ρ' n t' a ∧ F t' h' := by
  rcases e with ⟨t', h1, h2⟩ | ⟨fr, r, t2, h2, g1, g2, g3⟩
  · exact ⟨ρ, t', h, hle, s, ht.wk h1, h2⟩
  · exact ⟨_, t2, h2, gc_le g1 ow hle, gc_sim s ow g1, ⟨ht.1, fun i => gc_rel s (g2 i) (ht.2 i)⟩, g3⟩

/-- Code on abstract values; 'h0' is the heap ahead of the call. -/
def awp (P : Program) (n : Nat) (h0 : Heap) : Code → (Exit → Ts → Heap → Prop) → Ts → Heap → Prop
  | .skip, Q, t, h => Q .normal t h
  | .region _ ops false, Q, t, h => ops.toList.all (dstOk n) = true ∧ awpL P n ops (Q .normal) ops.toList t h
  | .region _ ops true, Q, t, h => ops.toList.all (dstOk n) = true ∧ ∃ plan, planOk n ops plan (Array.replicate ops.size false) = true ∧ awpP P n ops (Q .normal) plan (fun _ _ => True) (undP ops plan t) h
  | .seq a b, Q, t, h => awp P n h0 a (thenA (gcT h0 (awp P n h0 b Q)) Q) t h
  | .cond c x y, Q, t, h => (evalO t c = .bool true ∧ awp P n h0 x Q t h) ∨ (evalO t c = .bool false ∧ awp P n h0 y Q t h)
  | .block id c, Q, t, h => awp P n h0 c (blockA id Q) t h
  | .loop c, Q, t, h => ∃ (I : Nat → Ts → Heap → Prop) (k : Nat), gcT h0 (I k) t h ∧ ∀ k t h, I k t h → awp P n h0 c (thenA (fun t' h' => ∃ m, m < k ∧ gcT h0 (I m) t' h') Q) t h
  | .exit id, Q, t, h => Q (.exit id) t h
  | .label _, Q, t, h => Q .normal t h
  | .scope c, Q, t, h => awp P n h0 c (fun e t h => (∀ l, e ≠ .goto l) ∧ Q e t h) t h
  | .ret, Q, t, h => Q .ret t h
  | _, _, _, _ => False

theorem awp_ok (hm : P.follows .mixedOrders = true) {B : Fr} {w0 : World} {h0 : Heap} {ρ0 : Ren} (ow : Own ρ0 h0) : ∀ (c : Code) {Q : Exit → Ts → Heap → Prop} {Q' : Exit → Act → World → Prop} {ρ : Ren} {t : Ts} {h : Heap} {a : Act} {w : World},
    ρ0.le ρ → Sim B w0 ρ h w → TRel ρ n t a.tmps → a.defers = [] →
    (∀ e ρ' t' h' a' w', ρ0.le ρ' → a'.defers = [] → TRel ρ' n t' a'.tmps → Sim B w0 ρ' h' w' → Q e t' h' → Q' e a' w') →
    awp P n h0 c Q t h → c.wp P Q' a w := by
  intro c
  induction c with
  | skip => intro Q Q' ρ t h a w hle hs ht hd hQ e; exact wp_skip (hQ _ ρ t h a w hle hd ht hs e)
  | region id ops draw =>
    intro Q Q' ρ t h a w hle hs ht hd hQ e
    cases draw with
    | false => exact region_ok e.1 hs ht hd (fun ρ' t' h' a' w' q => hQ .normal ρ' t' h' a' w' (hle.trans q)) e.2
    | true =>
      obtain ⟨e1, plan, e2, e4⟩ := e
      exact draw_ok hm e1 plan e2 hs ht hd (fun ρ' t' h' a' w' q => hQ .normal ρ' t' h' a' w' (hle.trans q)) e4
  | seq x y ihx ihy =>
    intro Q Q' ρ t h a w hle hs ht hd hQ e
    refine wp_seq (ihx hle hs ht hd (Q := thenA (gcT h0 (awp P n h0 y Q)) Q) (fun ex ρ' t' h' a' w' q1 q2 q3 q4 q5 => ?_) e)
    cases ex with
    | normal =>
      obtain ⟨ρ1, t1, h1, s1, s2, s3, s4⟩ := gcT_ok ow q1 q4 q3 q5
      exact ihy s1 s2 s3 q2 hQ s4
    | _ => exact hQ _ ρ' t' h' a' w' q1 q2 q3 q4 q5
  | cond c x y ihx ihy =>
    intro Q Q' ρ t h a w hle hs ht hd hQ e
    have hr := ht.eval c
    rcases e with ⟨hc, e⟩ | ⟨hc, e⟩
    · rw [hc] at hr
      generalize hE : a.eval c = ec at hr
      cases hr
      exact wp_cond_true hE (ihx hle hs ht hd hQ e)
    · rw [hc] at hr
      generalize hE : a.eval c = ec at hr
      cases hr
      exact wp_cond_false hE (ihy hle hs ht hd hQ e)
  | block id c ih =>
    intro Q Q' ρ t h a w hle hs ht hd hQ e
    refine wp_block (ih hle hs ht hd (Q := blockA id Q) (fun ex ρ' t' h' a' w' q1 q2 q3 q4 q5 => ?_) e)
    cases ex with
    | exit i =>
      simp only [Exit.inBlock]
      simp only [blockA] at q5
      split at q5
      · rename_i hi; rw [if_pos hi]; exact hQ _ ρ' t' h' a' w' q1 q2 q3 q4 q5
      · rename_i hi; rw [if_neg hi]; exact hQ _ ρ' t' h' a' w' q1 q2 q3 q4 q5
    | _ => exact hQ _ ρ' t' h' a' w' q1 q2 q3 q4 q5
  | loop c ih =>
    intro Q Q' ρ t h a w hle hs ht hd hQ e
    obtain ⟨I, k, hI0, hr⟩ := e
    obtain ⟨ρi, ti, hi, s1, s2, s3, s4⟩ := gcT_ok ow hle hs ht hI0
    refine wp_loop_ghost (fun k a w => ∃ ρ' t h, ρ0.le ρ' ∧ a.defers = [] ∧ TRel ρ' n t a.tmps ∧ Sim B w0 ρ' h w ∧ I k t h) k ⟨ρi, ti, hi, s1, hd, s3, s2, s4⟩ ?_
    rintro k a w ⟨ρ1, t1, h1, p1, p2, p3, p4, p5⟩
    refine ih p1 p4 p3 p2 (Q := thenA (fun t' h' => ∃ m, m < k ∧ gcT h0 (I m) t' h') Q) (fun ex ρ' t' h' a' w' q1 q2 q3 q4 q5 => ?_) (hr k t1 h1 p5)
    cases ex with
    | normal =>
      obtain ⟨m, hm, hI⟩ := q5
      obtain ⟨ρ2, t2, h2, s1, s2, s3, s4⟩ := gcT_ok ow q1 q4 q3 hI
      exact ⟨m, hm, ρ2, t2, h2, s1, q2, s3, s2, s4⟩
    | _ => exact hQ _ ρ' t' h' a' w' q1 q2 q3 q4 q5
  | exit id => intro Q Q' ρ t h a w hle hs ht hd hQ e; exact wp_exit (hQ _ ρ t h a w hle hd ht hs e)
  | label l => intro Q Q' ρ t h a w hle hs ht hd hQ e; exact wp_label (hQ _ ρ t h a w hle hd ht hs e)
  | scope c ih =>
    intro Q Q' ρ t h a w hle hs ht hd hQ e
    refine wp_scope_straight (ih hle hs ht hd (Q := fun e t h => (∀ l, e ≠ .goto l) ∧ Q e t h) (fun ex ρ' t' h' a' w' q1 q2 q3 q4 q5 => ?_) e)
    cases ex with
    | goto l => exact absurd rfl (q5.1 l)
    | _ => exact hQ _ ρ' t' h' a' w' q1 q2 q3 q4 q5.2
  | ret => intro Q Q' ρ t h a w hle hs ht hd hQ e; exact wp_ret (hQ _ ρ t h a w hle hd ht hs e)
  | goto l => intro Q Q' ρ t h a w hle hs ht hd hQ e; exact e.elim
  | refuse y => intro Q Q' ρ t h a w hle hs ht hd hQ e; exact e.elim
  | rangeFunc f ps x y _ _ => intro Q Q' ρ t h a w hle hs ht hd hQ e; exact e.elim

/-- The results, as they are read at the end. -/
def ares (P : Program) (h : Heap) (t : Ts) : List ResultVar → Option (List Value)
  | [] => some []
  | .tmp s :: rest => (ares P h t rest).map (t s :: ·)
  | .cell a ty :: rest => match aload P h ty (t a), ares P h t rest with
    | some v, some vs => some (v :: vs)
    | _, _ => none

def retV : List Value → Value
  | [v] => v
  | vs => .tuple vs.toArray

def rdRes (tmps : Array Value) : ResultVar → Sem Value
  | .tmp t => pure (tmps.getD t undef)
  | .cell b ty => do loadVar ty (← asAddr (tmps.getD b undef))

theorem results_eq (fn : Func) (tmps : Array Value) : results fn tmps = (do
    let vs ← fn.results.mapM (rdRes tmps)
    pure (if h : vs.size = 1 then vs[0] else .tuple vs)) := by
  have : (fun x => match x with
    | ResultVar.tmp t => (pure (tmps.getD t undef) : Sem Value)
    | ResultVar.cell a t => do loadVar t (← asAddr (tmps.getD a undef))) = rdRes tmps := by
    funext x; cases x <;> rfl
  unfold results
  rw [← this]
  rfl

theorem ares_ok {B : Fr} {w0 w : World} {ρ : Ren} {h : Heap} {t : Ts} {a : Act} (hs : Sim B w0 ρ h w) (ht : TRel ρ n t a.tmps) : ∀ {rs : List ResultVar} {vs : List Value}, ares P h t rs = some vs →
    ∃ vs', (rs.mapM (rdRes a.tmps)).run P w = .ok vs' w ∧ RelL ρ vs vs' := by
  intro rs
  induction rs with
  | nil => intro vs e; simp only [ares, Option.some.injEq] at e; subst e; exact ⟨[], by simp, RelL.nil ρ⟩
  | cons r rs ih =>
    intro vs e
    cases r with
    | tmp s =>
      simp only [ares, Option.map_eq_some_iff] at e
      obtain ⟨vs1, e1, rfl⟩ := e
      obtain ⟨vs', q1, q2⟩ := ih e1
      refine ⟨a.tmps.getD s undef :: vs', ?_, RelL.cons (ht.2 s) q2⟩
      rw [List.mapM_cons]
      simp only [rdRes, pure_bind, Sem.run_bind, q1, Result.andThen_ok, Sem.run_pure]
    | cell b ty =>
      unfold ares at e
      split at e
      · rename_i v vs1 e0 e1
        simp only [Option.some.injEq] at e; subst e
        obtain ⟨vs', q1, q2⟩ := ih e1
        obtain ⟨y, r1, r2⟩ := load_ok (P := P) hs (ht.2 b) e0
        refine ⟨y :: vs', ?_, RelL.cons r2 q2⟩
        have hrel := ht.2 b
        have : ∃ ad, a.tmps.getD b undef = .pointer (some ad) := by
          unfold aload at e0
          split at e0
          · rename_i i off hv
            rw [hv] at hrel
            generalize a.tmps.getD b undef = z at hrel
            cases hrel; exact ⟨_, rfl⟩
          · cases e0
        obtain ⟨ad, had⟩ := this
        rw [had] at r1
        simp only [Instr.loadAt, Instr.sureAddr, pure_bind] at r1
        have hcell : (rdRes a.tmps (.cell b ty)).run P w = .ok y w := by
          simp only [rdRes, had, asAddr, pure_bind, r1]
        rw [List.mapM_cons]
        simp only [Sem.run_bind, hcell, q1, Result.andThen_ok, Sem.run_pure]
      · cases e

def initT (args : List Value) : Ts := fun i => args.getD i undef

theorem acall_of_body (hm : P.follows .mixedOrders = true) {f : FuncId} {fn : Func} {c : Code} {args : List Value} {h : Heap} {Q : Value → Heap → Prop} (hf : P.funcs[f]? = some fn) (hb : fn.body = some c)
    (hnm : (fn.name == "runtime.NumGoroutine") = false) (hsz : args.length ≤ fn.ntmps)
    (e : awp P fn.ntmps h c (fun e t h => (e = .normal ∨ e = .ret) ∧ ∃ vs, ares P h t fn.results.toList = some vs ∧ Q (retV vs) h) (initT args) h) : acall P f args h Q := by
  refine ⟨⟨fn, hf, hnm, by rw [hb]; rfl⟩, fun B w0 ρ w args' s hr => calls_of_wp hf hb ?_⟩
  have hl : args'.size = args.length := by have := hr.1; simp at this; omega
  refine awp_ok hm s.own c (.refl _) s (a := { tmps := args' ++ Array.replicate (fn.ntmps - args'.size) undef, defers := [] }) (t := initT args) ⟨by simp; omega, fun i => ?_⟩ rfl (fun ex ρ' t' h' a' w' q1 q2 q3 q4 q5 => ?_) e
  · unfold initT
    by_cases hi : i < args.length
    · have h1 : args.getD i undef = args[i] := by simp [hi]
      have h2 : (args' ++ Array.replicate (fn.ntmps - args'.size) undef).getD i undef = args'[i] := by
        have : i < args'.size := by omega
        simp [Array.getElem?_append_left this, this]
      rw [h1, h2]
      exact hr.2 i _ _ (by simp) (by simp)
    · have h1 : args.getD i undef = undef := by simp [List.getElem?_eq_none (by omega : args.length ≤ i)]
      have h2 : (args' ++ Array.replicate (fn.ntmps - args'.size) undef).getD i undef = undef := by
        rw [Array.getD_eq_getD_getElem?, Array.getElem?_append_right (by omega)]
        by_cases q : i - args'.size < fn.ntmps - args'.size
        · simp [q]
        · simp [q]
      rw [h1, h2]
      exact Rel.undef ρ
  · obtain ⟨hex, vs, hv, hQ⟩ := q5
    obtain ⟨vs', r1, r2⟩ := ares_ok (P := P) q4 q3 hv
    have hres : ∃ v', (results fn a'.tmps).run P w' = .ok v' w' ∧ Rel ρ' (retV vs) v' := by
      refine ⟨if hq : vs'.toArray.size = 1 then vs'.toArray[0] else .tuple vs'.toArray, ?_, ?_⟩
      · rw [results_eq, Array.mapM_eq_mapM_toList]
        simp only [bind_map_left, Sem.run_bind, r1, Result.andThen_ok, Sem.run_pure]
      · have hlen := r2.1
        match vs, vs', r2, hlen with
        | [v], [v'], r2, _ => exact r2.2 0 v v' rfl rfl
        | [], [], r2, _ => exact .tuple _ _ rfl (fun i p _ => absurd p (by simp))
        | v1 :: v2 :: vs, u1 :: u2 :: us, r2, hl =>
          rw [dif_neg (by simp)]
          refine .tuple _ _ (by simpa using hl) (fun i p q => ?_)
          exact r2.2 i _ _ (by simp [p]) (by simp [q])
    obtain ⟨v', s1, s2⟩ := hres
    rcases hex with rfl | rfl
    · exact ⟨q2, v', s1, ρ', _, v', h', q1, rfl, s2, q4, hQ⟩
    · exact ⟨q2, v', s1, ρ', _, v', h', q1, rfl, s2, q4, hQ⟩

end
end Go.Ax
