/- Ax, part 14: copy; every operation that calls nothing, in one theorem. -/
import Derived.Test.YtoaohmmdhmefpaaA13
namespace Go.Ax
open Go.RowKit

section
variable {P : Program} {B : Fr} {w0 w : World} {ρ : Ren} {h : Heap}

theorem srcA_part (s : Sim B w0 ρ h w) {size n k : Nat} {x x' : Value} {vs : List Value} (hx : Rel ρ x x') (e : srcA h size x = some (n, vs)) (hk : k ≤ n) :
    ∃ ys : Array Value, (Builtin.firstCells size k x').run P w = .ok ys w ∧ RelL ρ (vs.take (k * size)) ys.toList := by
  unfold srcA at e
  split at e
  · simp only [Option.some.injEq, Prod.mk.injEq] at e
    obtain ⟨rfl, rfl⟩ := e
    cases hx
    exact ⟨#[], by simp [Builtin.firstCells], by simp; exact RelL.nil ρ⟩
  · rename_i i off len cap
    split at e
    · rename_i c md hrow
      split at e
      · rename_i hle
        simp only [Option.some.injEq, Prod.mk.injEq] at e
        obtain ⟨rfl, rfl⟩ := e
        cases hx with
        | slice i off len cap cap' b a' hb hl hcap ha =>
          obtain ⟨b', hb1, hok⟩ := s.row _ _ _ (getRow_eq hrow)
          rw [hb] at hb1; cases hb1
          have hmul : k * size ≤ len * size := Nat.mul_le_mul_right size hk
          obtain ⟨l, q1, q2, q3⟩ := hok.cells off (k * size) (by omega)
          refine ⟨l.toArray, ?_, ?_⟩
          · rcases ha with rfl | h0
            · have := run_loadCells_list (P := P) w ⟨b.block, b.base + off, none⟩ l (fun j v hv => by rw [addr_add]; exact q2 j v hv)
              rw [q1] at this
              simpa [Builtin.firstCells] using this
            · have e0 : k = 0 := by omega
              subst e0
              simp at q1
              subst q1
              simp [Builtin.firstCells, loadCells, loadCellsFrom]
          · rw [List.take_take, Nat.min_eq_left hmul]
            simpa using q3
      · cases e
    · cases e
  · rename_i str
    split at e
    · rename_i hs1
      simp only [Option.some.injEq, Prod.mk.injEq] at e
      obtain ⟨rfl, rfl⟩ := e
      cases hx
      subst hs1
      refine ⟨(Array.map (fun b : UInt8 => Value.int IntKind.u8 (b.toNat : Int)) (str.extract 0 k).data), by simp [Builtin.firstCells], ?_⟩
      have hx : (Array.map (fun b : UInt8 => Value.int IntKind.u8 (b.toNat : Int)) (str.extract 0 k).data).toList = (bytesV str).take (k * 1) := by
        rw [Array.toList_map, ByteArray.data_extract, Array.toList_extract]
        simp [bytesV, List.map_take]
      refine ⟨by rw [hx], fun i x y hx' hy => ?_⟩
      rw [hx, hx'] at hy; cases hy
      have hx := hx'
      rw [List.getElem?_take] at hx
      split at hx
      · simp only [bytesV, List.getElem?_map, Option.map_eq_some_iff] at hx
        obtain ⟨u, _, rfl⟩ := hx
        exact .int _ _
      · cases hx
    · cases e
  · simp only [Option.some.injEq, Prod.mk.injEq] at e
    obtain ⟨rfl, rfl⟩ := e
    have k0 : k = 0 := by omega
    subst k0
    cases hx with
    | func fn xs xs' cs cs' hf => cases hf
    | empS a cap => exact ⟨#[], by simp [Builtin.firstCells, loadCells, loadCellsFrom], by simpa using RelL.nil ρ⟩
  · rename_i f0 es
    split at e
    · rename_i hall
      simp only [Option.some.injEq, Prod.mk.injEq] at e
      obtain ⟨rfl, rfl⟩ := e
      have hz' : ∀ e ∈ es.toList, (cellsOf e).length = size := fun e he => by simpa using List.all_eq_true.1 hall e he
      cases hx with
      | func fn xs xs' cs cs' hf => cases hf
      | lit0 a cap =>
        have k0 : k = 0 := by simpa using hk
        subst k0
        exact ⟨#[], by cases a <;> simp [Builtin.firstCells, loadCells, loadCellsFrom], by simpa using RelL.nil ρ⟩
      | litS es b off sz cap cc hf hl hs hz hb hr =>
        by_cases h0 : es.size = 0
        · have : es = #[] := Array.size_eq_zero_iff.1 h0
          subst this
          have k0 : k = 0 := by simpa using hk
          subst k0
          exact ⟨#[], by simp [Builtin.firstCells, loadCells, loadCellsFrom], by simpa using RelL.nil ρ⟩
        · have hsz : sz = size := by
            have p : 0 < es.size := by omega
            rw [← hz 0 p]; exact hz' _ (by simp)
          subst hsz
          obtain ⟨l, q1, q2, q3⟩ := s.litCells hf hs hz hb hr k hk
          refine ⟨l.toArray, ?_, by simpa using q3⟩
          have := run_loadCells_list (P := P) w ⟨b, off, none⟩ l (fun j v hv => by rw [addr_add]; exact q2 j v hv)
          rw [q1] at this
          simpa [Builtin.firstCells] using this
    · cases e
  · cases e

theorem copyA_ok (s : Sim B w0 ρ h w) {dt xt ty : TypeId} {d d' x x' v : Value} {h' : Heap} (hd : Rel ρ d d') (hx : Rel ρ x x') (e : copyA P h dt d x = some (v, h')) :
    Comes1 P B w0 w ρ (Builtin.copy_ #[dt, xt] ty #[d', x']) v h' := by
  unfold copyA at e
  split at e
  case h_2 => cases e
  rename_i el r1 h1
  split at e
  case h_2 => cases e
  rename_i de z size bytes h2
  split at e
  · rename_i n vs hsrc
    simp only [Option.some.injEq, Prod.mk.injEq] at e
    obtain ⟨rfl, rfl⟩ := e
    cases hd
    obtain ⟨k1, k2, k3⟩ := srcA_ok s hx hsrc (P := P)
    obtain ⟨ys, q1, q2⟩ := srcA_part s hx hsrc (Nat.zero_le _) (P := P)
    refine .same s (.int .i64 0) ?_
    simp [Builtin.copy_, run_under h1, run_size h2, k2, q1, goInt]
  · rename_i n vs i off len cap hsrc
    split at e
    case h_1 => cases e
    rename_i c m hrow
    split at e
    case isFalse => cases e
    rename_i hc
    obtain ⟨c1, c2, c3, c4, c5, c6⟩ := hc
    simp only [Option.some.injEq, Prod.mk.injEq] at e
    obtain ⟨rfl, rfl⟩ := e
    obtain ⟨k1, k2, k3⟩ := srcA_ok s hx hsrc (P := P)
    obtain ⟨ys, q1, q2⟩ := srcA_part s hx hsrc (Nat.min_le_left n len) (P := P)
    cases hd with
    | slice i off len cap cap' b a' hb hl hcap haddr =>
      have hadd : a' = ⟨b.block, b.base + off, none⟩ := by
        rcases haddr with q | q
        · exact q
        · omega
      subst hadd
      have hmul : min n len * size ≤ n * size := Nat.mul_le_mul_right size (Nat.min_le_left n len)
      obtain ⟨w', e1, e2⟩ := s.store P (getRow_eq hrow) c1 hb off q2 c2 (by simp; omega)
      refine ⟨ρ, .int .i64 ((min n len : Nat) : Int), w', .refl _, .int _ _, e2, ?_⟩
      simp [Builtin.copy_, run_under h1, run_size h2, k2, q1, goInt, e1]
  · cases e

theorem clearA_ok (s : Sim B w0 ρ h w) {t ty : TypeId} {x x' : Value} {h' : Heap} (hx : Rel ρ x x') (e : clearA P h t x = some h') :
    Comes1 P B w0 w ρ (Builtin.clear_ #[t] ty #[x']) undef h' := by
  unfold clearA at e
  split at e
  · rename_i hty
    simp only [Option.some.injEq] at e; subst e
    cases hx
    exact .same s (Rel.tuple _ _ rfl (fun i p _ => absurd p (by simp [undef]))) (by simp [Builtin.clear_, run_under hty, undef])
  · rename_i el r i off n cap hty
    split at e
    · rename_i hn
      subst hn
      split at e
      · simp only [Option.some.injEq] at e; subst e
        cases hx with
        | slice i off len cap cap' b a' hb hl hcap haddr =>
          exact .same s (Rel.tuple _ _ rfl (fun i p _ => absurd p (by simp [undef]))) (by simp [Builtin.clear_, run_under hty, undef])
      · cases e
    · rename_i hn
      split at e
      · rename_i d z size by_ c m hte hrow
        split at e
        · rename_i hc
          obtain ⟨c1, c2, c3, c4, c5, c6, c7⟩ := hc
          simp only [Option.some.injEq] at e; subst e
          cases hx with
          | slice i off len cap cap' b a' hb hl hcap haddr =>
            have hadd : a' = ⟨b.block, b.base + off, none⟩ := by
              rcases haddr with q | q
              · exact q
              · omega
            subst hadd
            have hrep := rep_rel (ρ := ρ) n size c4 c3 c5
            have hlen : (repA (cellsOf (constV z)) n).length = n * size := by have := hrep.1; simpa using this
            obtain ⟨w', e1, e2⟩ := s.store P (getRow_eq hrow) c1 hb off hrep c6 (by rw [hlen]; omega)
            refine ⟨ρ, undef, w', .refl _, Rel.tuple _ _ rfl (fun i p _ => absurd p (by simp [undef])), e2, ?_⟩
            have hz : (Builtin.zeroCells z.cells n).toList = ((Array.range (n * size)).map (fun i => z.cells[i % z.cells.size]!)).toList := by
              simp [Builtin.zeroCells, c4]
            cases n with
            | zero => exact absurd rfl hn
            | succ n =>
              simp only [Builtin.clear_, Sem.run_bind, List.getElem?_toArray, List.getElem?_cons_zero, run_under hty, Result.andThen_ok, run_zero hte, hz, e1]
              simp [undef]
        · cases e
      · cases e
  · cases e

/-- What is owed of an operation: its run, as 'Comes1', or a step without a value. -/
def OpOk (P : Program) (E : Operand → Value) (o : Oper) (B : Fr) (w0 w : World) (ρ : Ren) (v : Value) (h' : Heap) : Prop :=
  ∃ ρ' v' w', ρ.le ρ' ∧ Rel ρ' v v' ∧ Sim B w0 ρ' h' w' ∧
    ((execOp E o).run P w = .ok (.value v') w' ∨ ((execOp E o).run P w = .ok .skip w' ∧ v' = undef))

theorem Comes1.opOk {m : Sem Value} {v : Value} {h' : Heap} {E : Operand → Value} {o : Oper} (hc : Comes1 P B w0 w ρ m v h')
    (he : execOp E o = (do pure (.value (← m)))) : OpOk P E o B w0 w ρ v h' := by
  obtain ⟨ρ', v', w', h1, h2, h3, h4⟩ := hc
  exact ⟨ρ', v', w', h1, h2, h3, .inl (by rw [he]; simp [h4])⟩

theorem unit_opOk {m : Sem Unit} {h' : Heap} {E : Operand → Value} {o : Oper} {w' : World} (hs : Sim B w0 ρ h' w') (hm : m.run P w = .ok () w')
    (he : execOp E o = (do m; pure .skip)) : OpOk P E o B w0 w ρ undef h' :=
  ⟨ρ, undef, w', .refl _, .tuple _ _ rfl (fun i p q => absurd p (by simp)), hs, .inr ⟨by rw [he]; simp [hm], rfl⟩⟩

theorem aop0_ok (s : Sim B w0 ρ h w) {t : Nat → Value} {E : Operand → Value} (ht : ∀ x, Rel ρ (evalO t x) (E x)) {o : Oper} {v : Value} {h' : Heap}
    (e : aop0 P t h o.op = some (v, h')) : OpOk P E o B w0 w ρ v h' := by
  obtain ⟨dst, op, type, pos, after, guard⟩ := o
  dsimp only at e
  cases op with
  | move x =>
    simp only [aop0, Option.some.injEq, Prod.mk.injEq] at e; obtain ⟨rfl, rfl⟩ := e
    exact ⟨ρ, _, w, .refl _, ht x, s, .inl (by simp [execOp])⟩
  | assign x =>
    simp only [aop0, Option.some.injEq, Prod.mk.injEq] at e; obtain ⟨rfl, rfl⟩ := e
    exact ⟨ρ, _, w, .refl _, ht x, s, .inl (by simp [execOp])⟩
  | pick c a b =>
    simp only [aop0] at e
    have hc := ht c
    split at e
    · rename_i hv; rw [hv] at hc
      simp only [Option.some.injEq, Prod.mk.injEq] at e; obtain ⟨rfl, rfl⟩ := e
      refine ⟨ρ, _, w, .refl _, ht a, s, .inl ?_⟩
      generalize hE : E c = ec at hc
      cases hc
      simp [execOp, hE, asBool]
    · rename_i hv; rw [hv] at hc
      simp only [Option.some.injEq, Prod.mk.injEq] at e; obtain ⟨rfl, rfl⟩ := e
      refine ⟨ρ, _, w, .refl _, ht b, s, .inl ?_⟩
      generalize hE : E c = ec at hc
      cases hc
      simp [execOp, hE, asBool]
    · cases e
  | alloc el =>
    simp only [aop0] at e
    split at e
    · rename_i d z r1 r2 hty
      split at e
      · rename_i hok
        simp only [Option.some.injEq] at e
        have := alloc_ok (P := P) s hty hok
        rw [e] at this
        exact this.opOk rfl
      · cases e
    · cases e
  | box el x =>
    simp only [aop0] at e
    split at e
    · rename_i hok
      simp only [Option.some.injEq] at e
      have := new_ok (P := P) s (ht x) hok el
      rw [e] at this
      exact this.opOk rfl
    · cases e
  | build ty ps => exact (build_ok s ht e).opOk rfl
  | buildSlice ty len ps => exact (buildSlice_ok s ht e).opOk rfl
  | load ty a =>
    simp only [aop0, Option.map_eq_some_iff, Prod.mk.injEq] at e
    obtain ⟨x, hx, rfl, rfl⟩ := e
    obtain ⟨y, h1, h2⟩ := load_ok (P := P) s (ht a) hx
    exact (Comes1.same s h2 h1).opOk rfl
  | store ty a x =>
    simp only [aop0, Option.map_eq_some_iff, Prod.mk.injEq] at e
    obtain ⟨h'', hx, rfl, rfl⟩ := e
    obtain ⟨w', h1, h2⟩ := store_ok (P := P) s (ht a) (ht x) hx
    exact unit_opOk h2 h1 rfl
  | nilCheck x =>
    simp only [aop0] at e
    have hx := ht x
    split at e
    · rename_i a hv; rw [hv] at hx
      simp only [Option.some.injEq, Prod.mk.injEq] at e; obtain ⟨rfl, rfl⟩ := e
      generalize hE : E x = ex at hx
      refine ⟨ρ, ex, w, .refl _, hx, s, .inl ?_⟩
      cases hx
      simp [execOp, hE]
    · rename_i f a b hv; rw [hv] at hx
      simp only [Option.some.injEq, Prod.mk.injEq] at e; obtain ⟨rfl, rfl⟩ := e
      generalize hE : E x = ex at hx
      refine ⟨ρ, ex, w, .refl _, hx, s, .inl ?_⟩
      cases hx
      simp [execOp, hE]
    · cases e
  | binOp op ty x y yt =>
    simp only [aop0, Option.map_eq_some_iff, Prod.mk.injEq] at e
    obtain ⟨u, hu, rfl, rfl⟩ := e
    obtain ⟨v', h1, h2⟩ := binA_ok (P := P) (x := x) (y := y) (ht x) (ht y) hu w
    exact (Comes1.same s h2 h1).opOk rfl
  | unOp op ty x =>
    simp only [aop0, Option.map_eq_some_iff, Prod.mk.injEq] at e
    obtain ⟨u, hu, rfl, rfl⟩ := e
    obtain ⟨v', h1, h2⟩ := unA_ok (P := P) (ht x) hu w
    exact (Comes1.same s h2 h1).opOk rfl
  | convert a b x => exact (convA_ok s (ht x) e).opOk rfl
  | makeFunc fn xs cs =>
    simp only [aop0] at e
    split at e
    case isFalse => cases e
    rename_i hfn
    simp only [Option.some.injEq, Prod.mk.injEq] at e; obtain ⟨rfl, rfl⟩ := e
    refine ⟨ρ, .func fn (xs.map E) (cs.map E), w, .refl _, ?_, s, .inl (by simp [execOp, Instr.makeFunc])⟩
    exact .func fn _ _ _ _ hfn (by simp) (by simp) (fun i p q => by simp; exact ht _) (fun i p q => by simp; exact ht _)
  | makeMap ty r =>
    cases r with
    | some _ => simp [aop0] at e
    | none =>
      simp only [aop0, Option.some.injEq, Prod.mk.injEq] at e; obtain ⟨rfl, rfl⟩ := e
      have hs := s.addMap 0
      exact ⟨_, .map (some w.heap.size), _, Ren.add_le _ s.fresh, .map _ _ (Ren.add_same _ _ _), hs, .inl (by simp [execOp, Instr.makeMap])⟩
  | makeSlice ty l c => exact (makeSlice_ok s (ht l) (ht c) e).opOk rfl
  | slice ty x lo hi mx =>
    simp only [aop0, Option.map_eq_some_iff, Prod.mk.injEq] at e
    obtain ⟨u, hu, rfl, rfl⟩ := e
    obtain ⟨v', h1, h2⟩ := slice_ok (P := P) s (ht x) (opt_rel ht lo) (opt_rel ht hi) (opt_rel ht mx) hu
    exact (Comes1.same s h2 h1).opOk rfl
  | fieldAddr st x f =>
    simp only [aop0] at e
    have hx := ht x
    split at e
    · rename_i fields r i off hty hv
      rw [hv] at hx
      split at e
      · rename_i fl hfl
        split at e
        · rename_i d z sz by_ hft
          split at e
          · cases e
          · rename_i hsz
            simp only [Option.some.injEq, Prod.mk.injEq] at e; obtain ⟨rfl, rfl⟩ := e
            generalize hE : E x = ex at hx
            cases hx with
            | ptr i off b hb =>
              refine ⟨ρ, .pointer (some ⟨b.block, b.base + (off + fl.offset), none⟩), w, .refl _, .ptr _ _ _ hb, s, .inl ?_⟩
              simp [execOp, hE, Instr.fieldAt, run_under hty, hfl, Instr.sureAddr, fieldPlace, run_size hft, hsz, addr_add, Nat.add_assoc]
        · cases e
      · cases e
    · cases e
  | field st x f =>
    simp only [aop0] at e
    have hx := ht x
    split at e
    · rename_i fields r cs hty hv
      rw [hv] at hx
      split at e
      · rename_i fl hfl
        simp only [Option.map_eq_some_iff, Prod.mk.injEq] at e
        obtain ⟨u, hu, rfl, rfl⟩ := e
        generalize hE : E x = ex at hx
        cases hx with
        | agg cs cs' h1 h2 =>
          obtain ⟨y, q1, q2⟩ := part_ok (P := P) (Rel.agg_list h1 h2) hu w
          exact ⟨ρ, y, w, .refl _, q2, s, .inl (by simp [execOp, hE, Instr.field, run_under hty, hfl, asAgg, q1])⟩
      · cases e
    · cases e
  | indexAddr ty x ix =>
    simp only [aop0] at e
    have hx := ht x
    have hi := ht ix
    split at e
    · rename_i len el r i off k n hty hv hvi
      rw [hv] at hx; rw [hvi] at hi
      split at e
      · rename_i d z sz by_ hel
        split at e
        · rename_i hb
          simp only [Option.some.injEq, Prod.mk.injEq] at e; obtain ⟨rfl, rfl⟩ := e
          generalize hE : E x = ex at hx
          generalize hEi : E ix = ei at hi
          cases hi
          cases hx with
          | ptr i off b hbb =>
            refine ⟨ρ, .pointer (some ⟨b.block, b.base + (off + n.toNat * sz), none⟩), w, .refl _, .ptr _ _ _ hbb, s, .inl ?_⟩
            simp [execOp, hE, hEi, Instr.indexAt, asIntOf, run_under hty, Instr.sureAddr, hb, run_size hel, addr_add, Nat.add_assoc]
        · cases e
      · cases e
    · rename_i el r i off len cap k n hty hv hvi
      rw [hv] at hx; rw [hvi] at hi
      split at e
      · rename_i d z sz by_ hel
        split at e
        · rename_i hb
          simp only [Option.some.injEq, Prod.mk.injEq] at e; obtain ⟨rfl, rfl⟩ := e
          generalize hE : E x = ex at hx
          generalize hEi : E ix = ei at hi
          cases hi
          cases hx with
          | slice i off len cap cap' b a' hbb hl hcap ha =>
            have hadd : a' = ⟨b.block, b.base + off, none⟩ := by
              rcases ha with q | q
              · exact q
              · omega
            subst hadd
            refine ⟨ρ, .pointer (some ⟨b.block, b.base + (off + n.toNat * sz), none⟩), w, .refl _, .ptr _ _ _ hbb, s, .inl ?_⟩
            simp [execOp, hE, hEi, Instr.indexAt, asIntOf, run_under hty, hb, run_size hel, addr_add, Nat.add_assoc]
        · cases e
      · cases e
    · cases e
  | index ty x ix =>
    simp only [aop0] at e
    have hx := ht x
    have hi := ht ix
    split at e
    · rename_i len el r cs k n hty hv hvi
      rw [hv] at hx; rw [hvi] at hi
      split at e
      · rename_i d z sz by_ hel
        split at e
        · rename_i hb
          simp only [Option.map_eq_some_iff, Prod.mk.injEq] at e
          obtain ⟨u, hu, rfl, rfl⟩ := e
          generalize hE : E x = ex at hx
          generalize hEi : E ix = ei at hi
          cases hi
          cases hx with
          | agg cs cs' h1 h2 =>
            obtain ⟨y, q1, q2⟩ := part_ok (P := P) (Rel.agg_list h1 h2) hu w
            exact ⟨ρ, y, w, .refl _, q2, s, .inl (by simp [execOp, hE, hEi, Instr.index, asIntOf, run_under hty, hb, run_size hel, q1])⟩
        · cases e
      · cases e
    · rename_i r str k n hty hv hvi
      rw [hv] at hx; rw [hvi] at hi
      split at e
      · rename_i hb
        simp only [Option.map_eq_some_iff, Prod.mk.injEq] at e
        obtain ⟨u, hu, rfl, rfl⟩ := e
        generalize hE : E x = ex at hx
        generalize hEi : E ix = ei at hi
        cases hi
        cases hx
        exact ⟨ρ, .int .u8 u.toNat, w, .refl _, .int _ _, s, .inl (by simp [execOp, hE, hEi, Instr.index, asIntOf, run_under hty, hb, hu])⟩
      · cases e
    · cases e
  | lookup ty m k ok =>
    simp only [aop0, Option.map_eq_some_iff, Prod.mk.injEq] at e
    obtain ⟨u, hu, rfl, rfl⟩ := e
    obtain ⟨v', h1, h2⟩ := lookupA_ok (P := P) s (ht m) (ht k) hu
    exact (Comes1.same s h2 h1).opOk rfl
  | mapUpdate ty m k x =>
    simp only [aop0, Option.map_eq_some_iff, Prod.mk.injEq] at e
    obtain ⟨h'', hx, rfl, rfl⟩ := e
    obtain ⟨w', h1, h2⟩ := updateA_ok (P := P) s (ht m) (ht k) (ht x) hx
    exact unit_opOk h2 h1 rfl
  | insert ty m k x =>
    simp only [aop0, Option.map_eq_some_iff, Prod.mk.injEq] at e
    obtain ⟨h'', hx, rfl, rfl⟩ := e
    obtain ⟨w', h1, h2⟩ := updateA_ok (P := P) s (ht m) (ht k) (ht x) hx
    exact unit_opOk h2 h1 rfl
  | extract x i =>
    simp only [aop0] at e
    have hx := ht x
    split at e
    · rename_i vs hv
      rw [hv] at hx
      split at e
      case isFalse => cases e
      rename_i h2s
      simp only [Option.map_eq_some_iff, Prod.mk.injEq] at e
      obtain ⟨u, hu, rfl, rfl⟩ := e
      generalize hE : E x = ex at hx
      cases hx with
      | any v => simp at h2s
      | tuple cs cs' h1 h2 =>
        have p : i < vs.size := (Array.getElem?_eq_some_iff.1 hu).1
        have hu' : vs[i] = u := (Array.getElem?_eq_some_iff.1 hu).2
        have q : i < cs'.size := h1 ▸ p
        refine ⟨ρ, cs'[i], w, .refl _, hu' ▸ h2 i p q, s, .inl ?_⟩
        have : cs'[i]? = some cs'[i] := by simp [q]
        simp [execOp, hE, Instr.extract, this]
    · cases e
  | makeInterface ty x =>
    simp only [aop0] at e
    split at e
    · cases e
    · rename_i r hni hty
      obtain ⟨d, r⟩ := r
      simp only [Option.some.injEq, Prod.mk.injEq] at e; obtain ⟨rfl, rfl⟩ := e
      refine ⟨ρ, .iface ty (E x), w, .refl _, .iface _ _ _ (ht x), s, .inl ?_⟩
      have : (Instr.makeInterface ty (E x)).run P w = .ok (.iface ty (E x)) w := by
        cases d <;> first
          | (simp [Instr.makeInterface, run_under hty]; done)
          | (exact absurd rfl (hni _ _))
      simp [execOp, this]
    · cases e
  | call c =>
    obtain ⟨callee, args, tys⟩ := c
    simp only [aop0] at e
    unfold abuiltin at e
    split at e
    · split at e
      · rename_i x ty ha hty
        have ha' : args = #[x] := by rw [← Array.toList_inj]; exact ha
        have ht' : tys = #[ty] := by rw [← Array.toList_inj]; exact hty
        subst ha'; subst ht'
        simp only [Option.map_eq_some_iff, Prod.mk.injEq] at e
        obtain ⟨u, hu, rfl, rfl⟩ := e
        obtain ⟨v', h1, h2⟩ := lenA_ok (P := P) (ty := type) (ts := #[ty]) s rfl (ht x) hu
        exact ⟨ρ, v', w, .refl _, h2, s, .inl (by simp [execOp, resolve, invoke, builtin, h1])⟩
      · cases e
    · split at e
      · rename_i a x st xt ha hty
        have ha' : args = #[a, x] := by rw [← Array.toList_inj]; exact ha
        have ht' : tys = #[st, xt] := by rw [← Array.toList_inj]; exact hty
        subst ha'; subst ht'
        obtain ⟨ρ', v', w', h1, h2, h3, h4⟩ := appendA_ok (P := P) (ty := type) s (ht a) (ht x) e
        exact ⟨ρ', v', w', h1, h2, h3, .inl (by simp [execOp, resolve, invoke, builtin, h4])⟩
      · cases e
    · split at e
      · rename_i a x st xt ha hty
        have ha' : args = #[a, x] := by rw [← Array.toList_inj]; exact ha
        have ht' : tys = #[st, xt] := by rw [← Array.toList_inj]; exact hty
        subst ha'; subst ht'
        obtain ⟨ρ', v', w', h1, h2, h3, h4⟩ := copyA_ok (P := P) (xt := xt) (ty := type) s (ht a) (ht x) e
        exact ⟨ρ', v', w', h1, h2, h3, .inl (by simp [execOp, resolve, invoke, builtin, h4])⟩
      · cases e
    · simp only [Option.map_eq_some_iff, Prod.mk.injEq] at e
      obtain ⟨u, hu, rfl, rfl⟩ := e
      have hrel : RelL ρ (args.toList.map (evalO t)) (args.toList.map E) := ⟨by simp, fun i x y hx hy => by
        simp only [List.getElem?_map, Option.map_eq_some_iff] at hx hy
        obtain ⟨a, ha, rfl⟩ := hx
        obtain ⟨b, hb, rfl⟩ := hy
        rw [ha] at hb; cases hb
        exact ht a⟩
      unfold minmaxA at hu
      split at hu
      · rename_i k a rest hl
        rw [hl] at hrel
        cases hE : args.toList.map E with
        | nil => rw [hE] at hrel; have := hrel.1; simp at this
        | cons y ys =>
          rw [hE] at hrel
          have h0 : Rel ρ (.int k a) y := hrel.2 0 _ y rfl rfl
          obtain ⟨r', q1, q2⟩ := minmax_ok (P := P) true (xs' := ys) ⟨by have := hrel.1; simpa using this, fun i a b ha hb => hrel.2 (i + 1) a b (by simpa using ha) (by simpa using hb)⟩ h0 hu w
          refine ⟨ρ, r', w, .refl _, q2, s, .inl ?_⟩
          simp only [if_true] at q1
          simp [execOp, resolve, invoke, builtin, Builtin.max_, hE, q1]
      · cases hu
    · simp only [Option.map_eq_some_iff, Prod.mk.injEq] at e
      obtain ⟨u, hu, rfl, rfl⟩ := e
      have hrel : RelL ρ (args.toList.map (evalO t)) (args.toList.map E) := ⟨by simp, fun i x y hx hy => by
        simp only [List.getElem?_map, Option.map_eq_some_iff] at hx hy
        obtain ⟨a, ha, rfl⟩ := hx
        obtain ⟨b, hb, rfl⟩ := hy
        rw [ha] at hb; cases hb
        exact ht a⟩
      unfold minmaxA at hu
      split at hu
      · rename_i k a rest hl
        rw [hl] at hrel
        cases hE : args.toList.map E with
        | nil => rw [hE] at hrel; have := hrel.1; simp at this
        | cons y ys =>
          rw [hE] at hrel
          have h0 : Rel ρ (.int k a) y := hrel.2 0 _ y rfl rfl
          obtain ⟨r', q1, q2⟩ := minmax_ok (P := P) false (xs' := ys) ⟨by have := hrel.1; simpa using this, fun i a b ha hb => hrel.2 (i + 1) a b (by simpa using ha) (by simpa using hb)⟩ h0 hu w
          refine ⟨ρ, r', w, .refl _, q2, s, .inl ?_⟩
          simp only [Bool.false_eq_true, if_false] at q1
          simp [execOp, resolve, invoke, builtin, Builtin.min_, hE, q1]
      · cases hu
    · split at e
      · rename_i x ty ha hty
        have ha' : args = #[x] := by rw [← Array.toList_inj]; exact ha
        have ht' : tys = #[ty] := by rw [← Array.toList_inj]; exact hty
        subst ha'; subst ht'
        simp only [Option.map_eq_some_iff, Prod.mk.injEq] at e
        obtain ⟨u, hu, rfl, rfl⟩ := e
        obtain ⟨ρ', v', w', h1, h2, h3, h4⟩ := clearA_ok (P := P) (ty := type) s (ht x) hu
        exact ⟨ρ', v', w', h1, h2, h3, .inl (by simp [execOp, resolve, invoke, builtin, h4])⟩
      · cases e
    · cases e
  | _ => simp [aop0] at e

theorem isPlit_eq {v : Value} {cs : List Value} (e : isPlit v = some cs) : ∃ f0, v = .func (.yield 1) f0 cs.toArray := by
  unfold isPlit at e
  split at e
  · cases e; exact ⟨_, rfl⟩
  · cases e
theorem isLit_eq {v : Value} {es : List Value} (e : isLit v = some es) : ∃ f0, v = .func (.yield 0) f0 es.toArray := by
  unfold isLit at e
  split at e
  · cases e; exact ⟨_, rfl⟩
  · cases e

/-- What a pointer to frozen cells stands for. -/
theorem plit_spec {v v' : Value} {cs : List Value} (hr : Rel ρ v v') (e : isPlit v = some cs) :
    v = plit cs ∧ ∃ b off cc, v' = .pointer (some ⟨b, off, none⟩) ∧ ρ.frz b = some cc ∧ off + cs.length ≤ cc.size ∧ ∀ (j : Nat) (p : j < cs.length) (r : off + j < cc.size), Rel ρ cs[j] cc[off + j] := by
  obtain ⟨f0, rfl⟩ := isPlit_eq e
  cases hr with
  | func fn xs xs' cs cs' hf => cases hf
  | litP cs' b off cc hf hb hr => exact ⟨rfl, b, off, cc, rfl, hf, by simpa using hb, fun j p r => hr j (by simpa using p) r⟩

theorem flat_one : ∀ {es : List Value}, (∀ e ∈ es, cellsOf e = [e]) → es.flatMap cellsOf = es := by
  intro es
  induction es with
  | nil => intro _; rfl
  | cons e es ih =>
    intro h
    rw [List.flatMap_cons, h e (by simp), ih fun x hx => h x (by simp [hx])]; rfl

theorem bytesOfV_one : ∀ {vs : List Value} {l : List UInt8}, bytesOfV vs = some l → ∀ e ∈ vs, cellsOf e = [e] := by
  intro vs
  induction vs with
  | nil => intro l _ e he; cases he
  | cons v vs ih =>
    intro l h e he
    unfold bytesOfV at h
    split at h
    · rename_i hh; cases hh
    · rename_i n rest hh
      simp only [List.cons.injEq] at hh
      obtain ⟨rfl, rfl⟩ := hh
      obtain ⟨l', hl', _⟩ := Option.map_eq_some_iff.1 h
      rcases List.mem_cons.1 he with rfl | he
      · rfl
      · exact ih hl' e he
    · cases h

theorem plit_sub {b off : Nat} {cc : Array Value} {cs : List Value} (hf : ρ.frz b = some cc) (hb : off + cs.length ≤ cc.size) (hr : ∀ (j : Nat) (p : j < cs.length) (r : off + j < cc.size), Rel ρ cs[j] cc[off + j])
    {o sz : Nat} {v : Value} (e : plitSub o sz cs = some v) : Rel ρ v (.pointer (some ⟨b, off + o, none⟩)) := by
  unfold plitSub at e
  split at e
  · rename_i hle
    cases e
    refine .litP _ b (off + o) cc hf (by simp; omega) fun j p r => ?_
    simp at p
    have e1 : off + (o + j) < cc.size := by omega
    have := hr (o + j) (by omega) e1
    simpa [Nat.add_assoc] using this
  · cases e

theorem litLoad_ok (s : Sim B w0 ρ h w) {t : TypeId} {v v' x : Value} {cs : List Value} (hr : Rel ρ v v') (he : isPlit v = some cs) {d : TypeDesc} {z : Value} {sz by_ : Nat} (ht : tinfo P t = some (d, z, sz, by_))
    (e : litLoad (isAggD d) sz cs = some x) : ∃ y, (Instr.loadAt t v').run P w = .ok y w ∧ Rel ρ x y := by
  obtain ⟨rfl, b, off, cc, rfl, hf, hb, hc⟩ := plit_spec hr he
  unfold litLoad at e
  split at e
  · rename_i hd
    split at e
    · rename_i hle
      simp only [Option.some.injEq] at e; subst e
      obtain ⟨l, h1, h2, h3⟩ := s.coldCells hf off sz (by omega) (vs := cs.take sz) (by simp; omega) (fun j p r => by
        simp at p
        simpa using hc j (by omega) r)
      refine ⟨.agg l.toArray, ?_, RelL.agg (by simpa using h3)⟩
      have hl := run_loadCells_list (P := P) w ⟨b, off, none⟩ l (fun j v hv => by rw [addr_add]; exact h2 j v hv)
      rw [h1] at hl
      simp [Instr.loadAt, Instr.sureAddr, loadVar, run_agg ht, hd, run_size ht, hl]
    · cases e
  · rename_i hd
    have hlt : 0 < cs.length := (List.getElem?_eq_some_iff.1 e).1
    have hx : cs[0] = x := (List.getElem?_eq_some_iff.1 e).2
    obtain ⟨el, fr, hw⟩ := s.cold b cc hf
    have q : off + 0 < cc.size := by omega
    refine ⟨cc[off + 0], ?_, hx ▸ hc 0 hlt q⟩
    have hcell : w.cell? ⟨b, off, none⟩ = some cc[off + 0] := by rw [cell_of hw]; simp [Array.getElem?_eq_getElem (show off < cc.size by omega)]
    simp [Instr.loadAt, Instr.sureAddr, loadVar, run_agg ht, hd, hcell]

theorem lit_ix {x x' : Value} (hx : Rel ρ x x') {es : List Value} (he : isLit x = some es) {n sz : Nat} {v : Value} (e : litIx sz n es = some v) :
    ∃ b off cap, x' = .slice (some ⟨b, off, none⟩) es.length cap ∧ n < es.length ∧ Rel ρ v (.pointer (some ⟨b, off + n * sz, none⟩)) := by
  obtain ⟨f0, rfl⟩ := isLit_eq he
  unfold litIx at e
  split at e
  case h_2 => cases e
  rename_i x1 hx1
  split at e
  case isFalse => cases e
  rename_i hlen
  cases e
  have hn : n < es.length := (List.getElem?_eq_some_iff.1 hx1).1
  have hxe : es[n] = x1 := (List.getElem?_eq_some_iff.1 hx1).2
  generalize hA : es.toArray = A at hx
  cases hx with
  | func fn xs xs' cs cs' hf => cases hf
  | lit0 a cap =>
    have h0 : es.toArray.size = 0 := by rw [hA]; rfl
    have h1 : es.length = 0 := h0
    omega
  | litS es' b off sz' cap cc hf hl hs hz hb hr =>
    subst hA
    have hsz : sz' = sz := by
      rw [← hz n (by simpa using hn)]; simpa [hxe] using hlen
    subst hsz
    refine ⟨b, off, cap, by simp, hn, .litP _ b (off + n * sz') cc hf ?_ fun j p r => ?_⟩
    · have := Nat.mul_le_mul_right sz' (show n + 1 ≤ es.length from hn)
      simp at hb
      rw [Nat.succ_mul] at this
      simp [hlen]; omega
    · have p' : j < (cellsOf x1).length := by simpa using p
      have r' : off + (n * sz' + j) < cc.size := by omega
      have := hr n j (by simpa using hn) (by simpa [hxe] using p') r'
      simpa [hxe, Nat.add_assoc] using this

theorem litNil_ok {x x' y y' : Value} (hx : Rel ρ x x') (hy : Rel ρ y y') {t : TypeId} (e : nilT P t x y = true) (u v : Operand) (w : World) :
    (binOp .eql t x' y').run P w = .ok (.bool false) w ∧ (binOp .neq t x' y').run P w = .ok (.bool true) w ∧ ∀ op, (eqGuard op t u v x' y').run P w = .ok () w := by
  unfold nilT at e
  split at e
  · rename_i el r hty
    split at e
    case h_2 =>
      rename_i hl
      simp only [Bool.and_eq_true] at e
      obtain ⟨e1, e2⟩ := e
      unfold isEmp at e1
      split at e1
      case h_2 => cases e1
      unfold nilE at e2
      split at e2
      case h_2 => cases e2
      cases hy
      cases hx with
      | func fn xs xs' cs cs' hf => cases hf
      | empS a cap =>
        have q := (fun n => by simp [Op.equalIn, run_under hty] : ∀ n, (Op.equalIn (n + 1) t (.slice (some a) 0 cap) (.slice none 0 0)).run P w = .ok false w) 9999
        exact ⟨by have q' : (Op.equal t _ _).run P w = .ok false w := q; simp [binOp, q'], by have q' : (Op.equal t _ _).run P w = .ok false w := q; simp [binOp, q'], fun op => eqGuard_ok rfl w⟩
    rename_i es hl
    obtain ⟨f0, rfl⟩ := isLit_eq hl
    unfold nilS at e
    split at e
    case h_2 => cases e
    rename_i e0 es
    cases hy
    generalize hA : (e0 :: es).toArray = A at hx
    cases hx with
    | func fn xs xs' cs cs' hf => cases hf
    | lit0 a cap => have := congrArg Array.size hA; simp at this
    | litS es' b off sz' cap cc hf hl hs hz hb hr => 
      have q := (fun n => by simp [Op.equalIn, run_under hty] : ∀ n, (Op.equalIn (n + 1) t (.slice (some ⟨b, off, none⟩) A.size cap) (.slice none 0 0)).run P w = .ok false w) 9999
      exact ⟨by have q' : (Op.equal t _ _).run P w = .ok false w := q; simp [binOp, q'], by have q' : (Op.equal t _ _).run P w = .ok false w := q; simp [binOp, q'], fun op => eqGuard_ok rfl w⟩
  · rename_i el r hty
    split at e
    case h_2 => cases e
    rename_i cs hl
    obtain ⟨rfl, b, off, cc, rfl, _⟩ := plit_spec hx hl
    unfold nilP at e
    split at e
    case h_2 => cases e
    cases hy
    have q := (fun n => by simp [Op.equalIn, run_under hty] : ∀ n, (Op.equalIn (n + 1) t (.pointer (some ⟨b, off, none⟩)) (.pointer none)).run P w = .ok false w) 9999
    exact ⟨by have q' : (Op.equal t _ _).run P w = .ok false w := q; simp [binOp, q'], by have q' : (Op.equal t _ _).run P w = .ok false w := q; simp [binOp, q'], fun op => eqGuard_ok rfl w⟩
  · cases e

theorem lit_slice (s : Sim B w0 ρ h w) {ty : TypeId} {x x' v : Value} {lo hi lo' hi' : Option Value} (hx : Rel ρ x x')
    (hlo : (∀ u, lo = some u → ∃ y, lo' = some y ∧ Rel ρ u y) ∧ (lo = none → lo' = none))
    (hhi : (∀ u, hi = some u → ∃ y, hi' = some y ∧ Rel ρ u y) ∧ (hi = none → hi' = none))
    {el : TypeId} {r : Value × Nat × Nat} (hty : tinfo P ty = some (.slice el, r)) {d : TypeDesc} {z : Value} {size by_ : Nat} (hte : tinfo P el = some (d, z, size, by_)) {es : List Value} (hl : isLit x = some es)
    (hall : es.all (fun e => (cellsOf e).length == size) = true)
    (e : litSlice es lo hi = some v) : ∃ v', (Instr.sliceAt ty x' lo' hi' none).run P w = .ok v' w ∧ Rel ρ v v' := by
  obtain ⟨f0, rfl⟩ := isLit_eq hl
  unfold litSlice at e
  split at e
  case h_2 => cases e
  rename_i l m hl1 hm1
  split at e
  case isFalse => cases e
  rename_i hc
  obtain ⟨c1, c2⟩ := hc
  cases e
  have hz' : ∀ e ∈ es, (cellsOf e).length = size := fun e he => by simpa using List.all_eq_true.1 hall e he
  generalize hA : es.toArray = A at hx
  have run : ∀ (a : Option Addr) (cap : Nat), es.length ≤ cap → (Instr.sliceAt ty (.slice a es.length cap) lo' hi' none).run P w =
      .ok (.slice (if cap = l then a else a.map (·.add (l * size))) (m - l) (cap - l)) w := fun a cap hcap => by
    have hb := slice_bounds_run (P := P) true es.length cap lo' hi' none l m cap (asNat_rel hlo.1 hlo.2 hl1) (asNat_rel hhi.1 hhi.2 hm1) (.inl ⟨rfl, rfl⟩) c1 (by omega) (Nat.le_refl _) (by simp) w
    simp only [Instr.sliceAt, Instr.slice, Sem.run_bind, run_under hty, Result.andThen_ok, hb, run_size hte, Sem.run_pure]
  cases hx with
  | func fn xs xs' cs cs' hf => cases hf
  | lit0 a cap =>
    have h1 : es.length = 0 := by
      have h0 : es.toArray.size = 0 := by rw [hA]; rfl
      exact h0
    have h2 : m - l = 0 := by omega
    have h3 : es = [] := List.length_eq_zero_iff.1 h1
    have := run a cap (by omega)
    rw [h1, h2] at this
    refine ⟨_, this, ?_⟩
    subst h3
    rename_i h0
    by_cases q : cap = l
    · rw [if_pos q]; simpa using Rel.lit0 _ _ (fun _ => by omega)
    · rw [if_neg q]; simpa using Rel.lit0 _ _ (fun ha => by cases a with | none => have := h0 rfl; omega | some a => cases ha)
  | litS es' b off sz cap cc hf hl hs hz hb hr =>
    subst hA
    simp only [List.size_toArray] at hl hb hr hz ⊢
    refine ⟨_, run _ cap hl, ?_⟩
    by_cases h0 : m - l = 0
    · rw [h0]
      have hne : ∀ x : Option Addr, x.isSome = true → (x = none → cap - l = 0) := fun x hx hn => by subst hn; cases hx
      simpa using Rel.lit0 _ _ (hne _ (by split <;> rfl))
    · have hsz : sz = size := by
        have p : 0 < es.length := by omega
        rw [← hz 0 p]; exact hz' _ (by simp)
      subst hsz
      have hne : ¬ cap = l := by omega
      rw [if_neg hne, Option.map_some, addr_add]
      have hlen : ((es.drop l).take (m - l)).toArray.size = m - l := by simp; omega
      have hmul : l * sz + (m - l) * sz ≤ es.length * sz := by rw [← Nat.add_mul]; exact Nat.mul_le_mul_right _ (by omega)
      have := Rel.litS (ρ := ρ) ((es.drop l).take (m - l)).toArray b (off + l * sz) sz (cap - l) cc hf (by omega) hs (fun i p => by
          have p2 : l + i < es.length := by omega
          simpa using hz (l + i) p2) (by rw [hlen]; omega) (fun i j p q r => by
          have p2 : l + i < es.length := by omega
          have q2 : j < (cellsOf es[l + i]).length := by simpa using q
          have e3 : off + ((l + i) * sz + j) = off + l * sz + (i * sz + j) := by rw [Nat.add_mul]; omega
          have := hr (l + i) j p2 q2 (by omega)
          simpa [e3] using this)
      rw [hlen] at this
      exact this

/-- What an operation yields of frozen things it yields in the model. -/
theorem lop_ok (s : Sim B w0 ρ h w) {t : Nat → Value} {E : Operand → Value} (ht : ∀ x, Rel ρ (evalO t x) (E x)) {o : Oper} {v : Value}
    (e : lop P t o.op = some v) : OpOk P E o B w0 w ρ v h := by
  obtain ⟨dst, op, type, pos, after, guard⟩ := o
  dsimp only at e
  cases op with
  | load ty a =>
    simp only [lop] at e
    split at e
    · rename_i cs d z sz by_ h1 h2
      obtain ⟨y, q1, q2⟩ := litLoad_ok (P := P) s (ht a) h1 h2 e
      exact (Comes1.same s q2 q1).opOk rfl
    · cases e
  | nilCheck x =>
    simp only [lop, Option.map_eq_some_iff] at e
    obtain ⟨cs, h1, rfl⟩ := e
    obtain ⟨h2, b, off, cc, h3, _⟩ := plit_spec (ht x) h1
    refine ⟨ρ, E x, w, .refl _, h2 ▸ ht x, s, .inl (by simp [execOp, h3])⟩
  | fieldAddr st x f =>
    simp only [lop] at e
    split at e
    case h_2 => cases e
    rename_i cs fields r h1 hty
    split at e
    case h_2 => cases e
    rename_i fl hfl
    split at e
    case h_2 => cases e
    rename_i d z sz by_ hft
    split at e
    case isTrue => cases e
    rename_i hsz
    obtain ⟨h2, b, off, cc, h3, hf, hb, hr⟩ := plit_spec (ht x) h1
    refine ⟨ρ, .pointer (some ⟨b, off + fl.offset, none⟩), w, .refl _, plit_sub hf hb hr e, s, .inl ?_⟩
    simp [execOp, h3, Instr.fieldAt, run_under hty, hfl, Instr.sureAddr, fieldPlace, run_size hft, hsz, addr_add]
  | indexAddr ty x ix =>
    simp only [lop] at e
    have hi := ht ix
    split at e
    · rename_i el r k n hty hvi
      rw [hvi] at hi
      generalize hEi : E ix = ei at hi
      cases hi
      split at e
      · rename_i d z sz by_ es hel hl
        split at e
        case isFalse => cases e
        rename_i hn
        obtain ⟨b, off, cap, h3, h4, h5⟩ := lit_ix (ht x) hl e
        refine ⟨ρ, _, w, .refl _, h5, s, .inl ?_⟩
        have hnl : n < es.length := by omega
        simp [execOp, h3, hEi, Instr.indexAt, asIntOf, run_under hty, hn, hnl, run_size hel, addr_add]
      · cases e
    · rename_i len el r k n hty hvi
      rw [hvi] at hi
      generalize hEi : E ix = ei at hi
      cases hi
      split at e
      · rename_i d z sz by_ cs hel hl
        split at e
        case isFalse => cases e
        rename_i hn
        obtain ⟨h2, b, off, cc, h3, hf, hb, hr⟩ := plit_spec (ht x) hl
        refine ⟨ρ, _, w, .refl _, plit_sub hf hb hr e, s, .inl ?_⟩
        simp [execOp, h3, hEi, Instr.indexAt, asIntOf, run_under hty, Instr.sureAddr, hn, run_size hel, addr_add]
      · cases e
    · cases e
  | slice ty x lo hi mx =>
    cases mx with
    | some _ => simp [lop] at e
    | none =>
      simp only [lop] at e
      split at e
      case h_2 => cases e
      rename_i el r es hty hl
      split at e
      case h_2 => cases e
      rename_i d z sz by_ hel
      split at e
      case isFalse => cases e
      rename_i hall
      obtain ⟨v', h1, h2⟩ := lit_slice (P := P) s (ht x) (opt_rel ht lo) (opt_rel ht hi) hty hel hl hall e
      exact (Comes1.same s h2 h1).opOk rfl
  | convert a b x =>
    simp only [lop] at e
    split at e
    case h_2 => cases e
    rename_i el r1 r2 es h1 h2 hl
    split at e
    case h_2 => cases e
    rename_i r3 h3
    simp only [Option.map_eq_some_iff] at e
    obtain ⟨l, hb, rfl⟩ := e
    have hx := ht x
    obtain ⟨f0, hv⟩ := isLit_eq hl
    rw [hv] at hx
    generalize hA : es.toArray = A at hx
    generalize hE : E x = ex at hx
    have key : ∀ {a' : Addr} {cap' : Nat} {ys : List Value}, RelL ρ es ys → (loadCells a' es.length).run P w = .ok ys.toArray w → (convert a b (.slice (some a') es.length cap')).run P w = .ok (.string ⟨l.toArray⟩) w := fun {a' cap' ys} q3 hload => by
      obtain ⟨ns, m1, m2⟩ := bytesOfV_rel hb q3
      have hload' : (loadCells a' es.length).run P w = .ok (ns.map (Value.int .u8)).toArray w := by rw [hload, m1]
      have := run_bytesToString (P := P) w a' es.length cap' ns hload'
      rw [foldl_push] at this
      simp [convert, run_under h1, run_under h2, run_under h3, this, m2]
    cases hx with
    | func fn xs xs' cs cs' hf => cases hf
    | lit0 a0 cap =>
      have h0 : es = [] := by
        have : es.toArray = #[] := hA
        simpa using this
      subst h0
      cases a0 with
      | none =>
        simp only [bytesOfV, Option.some.injEq] at hb; subst hb
        refine (Comes1.same s (.str _) ?_).opOk rfl
        rw [hE]
        simp [convert, run_under h1, run_under h2, run_under h3, Conv.bytesToString]
        rfl
      | some a0 =>
        refine (Comes1.same s (.str _) ?_).opOk rfl
        rw [hE]
        exact key (RelL.nil ρ) (by simp [loadCells, loadCellsFrom])
    | litS es' b0 off sz cap cc hf hl hs hz hb0 hr =>
      subst hA
      refine (Comes1.same s (.str _) ?_).opOk rfl
      rw [hE]
      by_cases h0 : es.length = 0
      · have : es = [] := List.length_eq_zero_iff.1 h0
        subst this
        exact key (RelL.nil ρ) (by simp [loadCells, loadCellsFrom])
      · have hone : ∀ e ∈ es, cellsOf e = [e] := fun e he => bytesOfV_one hb e he
        have hsz : sz = 1 := by
          have p : 0 < es.toArray.size := by simp; omega
          rw [← hz 0 p]
          simp [hone es[0] (by simp)]
        subst hsz
        obtain ⟨ys, q1, q2, q3⟩ := s.litCells hf hs hz hb0 hr es.toArray.size (Nat.le_refl _)
        have e4 : es.toArray.toList.flatMap cellsOf = es := flat_one hone
        rw [e4] at q3
        simp only [List.size_toArray, Nat.mul_one] at q1 q3
        rw [List.take_length] at q3
        have hload := run_loadCells_list (P := P) w ⟨b0, off, none⟩ ys (fun j v hv => by rw [addr_add]; exact q2 j v hv)
        rw [q1] at hload
        exact key q3 hload
  | binOp op ty x y yt =>
    cases op <;> simp only [lop] at e <;> first
      | (cases e; done)
      | (split at e
         case isFalse => cases e
         rename_i hn
         simp only [Option.some.injEq] at e; subst e
         obtain ⟨h1, h1', h2⟩ := litNil_ok (P := P) (ht x) (ht y) hn x y w
         refine (Comes1.same s (.bool _) ?_).opOk rfl
         simp [h2, h1, h1'])
  | call c =>
    obtain ⟨callee, args, tys⟩ := c
    cases callee with
    | builtin b =>
      cases b <;> first
        | (simp [lop] at e; done)
        | skip
      simp only [lop] at e
      split at e
      case h_2 => cases e
      rename_i x ty hargs htys
      split at e
      case h_3 => cases e
      case h_2 =>
        rename_i el r hty hl
        split at e
        case isFalse => cases e
        rename_i he
        cases e
        have ha' : args = #[x] := by rw [← Array.toList_inj]; exact hargs
        have ht' : tys = #[ty] := by rw [← Array.toList_inj]; exact htys
        subst ha'; subst ht'
        have hx := ht x
        unfold isEmp at he
        split at he
        case h_2 => cases he
        rename_i f0 es hv
        rw [hv] at hx
        generalize hE : E x = ex at hx
        refine ⟨ρ, .int .i64 0, w, .refl _, .int _ _, s, .inl ?_⟩
        cases hx with
        | func fn xs xs' cs cs' hf => cases hf
        | empS a cap => simp [execOp, resolve, invoke, builtin, Builtin.len_, run_under hty, goInt, hE]
      rename_i el r es hty hl
      cases e
      have ha' : args = #[x] := by rw [← Array.toList_inj]; exact hargs
      have ht' : tys = #[ty] := by rw [← Array.toList_inj]; exact htys
      subst ha'; subst ht'
      have hx := ht x
      obtain ⟨f0, hv⟩ := isLit_eq hl
      rw [hv] at hx
      generalize hA : es.toArray = A at hx
      generalize hE : E x = ex at hx
      refine ⟨ρ, .int .i64 es.length, w, .refl _, .int _ _, s, .inl ?_⟩
      cases hx with
      | func fn xs xs' cs cs' hf => cases hf
      | lit0 a0 cap =>
        have h0 : es.length = 0 := by
          have h0 : es.toArray.size = 0 := by rw [hA]; rfl
          exact h0
        simp [execOp, resolve, invoke, builtin, Builtin.len_, run_under hty, goInt, hE, h0]
      | litS es' b0 off sz cap cc hf hl hs hz hb0 hr =>
        subst hA
        simp [execOp, resolve, invoke, builtin, Builtin.len_, run_under hty, goInt, hE]
    | _ => simp [lop] at e
  | _ => simp [lop] at e

/-- An operation that calls nothing. -/
theorem aop_ok (s : Sim B w0 ρ h w) {t : Nat → Value} {E : Operand → Value} (ht : ∀ x, Rel ρ (evalO t x) (E x)) {o : Oper} {v : Value} {h' : Heap}
    (e : aop P t h o.op = some (v, h')) : OpOk P E o B w0 w ρ v h' := by
  unfold aop at e
  split at e
  · rename_i v1 hv
    cases e
    exact lop_ok s ht hv
  · exact aop0_ok s ht e

end
end Go.Ax
