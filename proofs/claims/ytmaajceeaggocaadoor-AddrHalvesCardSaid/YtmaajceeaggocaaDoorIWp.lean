/- Runs of the ideal interpreter, step by step: what is asked of the end is carried along. Over any program. -/
import Derived.Test.YtmaajceeaggocaaDoorIRun
set_option linter.unusedVariables false
set_option linter.unusedSimpArgs false
namespace Go.Ideal
open Go.RowKit

variable {P : Program} {O : Orc}

def Wp (P : Program) (O : Orc) (c : Code) (ts : List Value) (h : Heap) (Q : Ex → List Value → Heap → Prop) : Prop := ∃ x ts' h', Runs P O c ts h x ts' h' ∧ Q x ts' h'
def WpOps (P : Program) (O : Orc) (all l : List Oper) (ts : List Value) (h : Heap) (Q : List Value → Heap → Prop) : Prop := ∃ ts' h', Ops P O all l ts h ts' h' ∧ Q ts' h'
def CallW (P : Program) (O : Orc) (f : FuncId) (args : List Value) (h : Heap) (Q : Value → Heap → Prop) : Prop := ∃ v h', CallR P O f args h v h' ∧ Q v h'

section
variable {c a b : Code} {ts : List Value} {h h1 : Heap} {Q : Ex → List Value → Heap → Prop}

def thenQ (next : List Value → Heap → Prop) (Q : Ex → List Value → Heap → Prop) : Ex → List Value → Heap → Prop
  | .normal => next
  | x => Q x
def blockQ (id : Nat) (Q : Ex → List Value → Heap → Prop) : Ex → List Value → Heap → Prop
  | .exit id' => match Nat.beq id' id with
    | true => Q .normal
    | false => Q (.exit id')
  | x => Q x

theorem Wp.mono {Q' : Ex → List Value → Heap → Prop} (hw : Wp P O c ts h Q) (hq : ∀ x ts h, Q x ts h → Q' x ts h) : Wp P O c ts h Q' := let ⟨x, ts', h', r, q⟩ := hw; ⟨x, ts', h', r, hq _ _ _ q⟩
theorem Wp.skip (hq : Q .normal ts h) : Wp P O .skip ts h Q := ⟨_, _, _, .skip, hq⟩
theorem Wp.label {l : Nat} (hq : Q .normal ts h) : Wp P O (.label l) ts h Q := ⟨_, _, _, .label, hq⟩
theorem Wp.exit {id : Nat} (hq : Q (.exit id) ts h) : Wp P O (.exit id) ts h Q := ⟨_, _, _, .exit, hq⟩
theorem Wp.ret (hq : Q .ret ts h) : Wp P O .ret ts h Q := ⟨_, _, _, .ret, hq⟩
theorem Wp.seq (hw : Wp P O a ts h (thenQ (fun ts' h' => Wp P O b ts' h' Q) Q)) : Wp P O (.seq a b) ts h Q := by
  obtain ⟨x, ts', h', r, q⟩ := hw
  cases x with
  | normal => obtain ⟨x2, ts2, h2, r2, q2⟩ := q; exact ⟨x2, ts2, h2, .seq r r2, q2⟩
  | exit id => exact ⟨_, _, _, .seq_out r (by simp), q⟩
  | ret => exact ⟨_, _, _, .seq_out r (by simp), q⟩
theorem Wp.cond_true {o : Operand} (hc : evI ts o = .bool true) (hw : Wp P O a ts h Q) : Wp P O (.cond o a b) ts h Q := let ⟨x, ts', h', r, q⟩ := hw; ⟨x, ts', h', .cond_true hc r, q⟩
theorem Wp.cond_false {o : Operand} (hc : evI ts o = .bool false) (hw : Wp P O b ts h Q) : Wp P O (.cond o a b) ts h Q := let ⟨x, ts', h', r, q⟩ := hw; ⟨x, ts', h', .cond_false hc r, q⟩
theorem Wp.cond {o : Operand} {t : Bool} (hc : evI ts o = .bool t) (ht : t = true → Wp P O a ts h Q) (hf : t = false → Wp P O b ts h Q) : Wp P O (.cond o a b) ts h Q := by
  cases t with
  | true => exact .cond_true hc (ht rfl)
  | false => exact .cond_false hc (hf rfl)
theorem Wp.block {id : Nat} (hw : Wp P O a ts h (blockQ id Q)) : Wp P O (.block id a) ts h Q := by
  obtain ⟨x, ts', h', r, q⟩ := hw
  cases x with
  | normal => exact ⟨_, _, _, .block r, q⟩
  | ret => exact ⟨_, _, _, .block_ret r, q⟩
  | exit id' =>
    simp only [blockQ] at q
    cases hb : Nat.beq id' id with
    | true =>
      rw [hb] at q
      have := Nat.eq_of_beq_eq_true hb
      subst this
      exact ⟨_, _, _, .block_exit r, q⟩
    | false =>
      rw [hb] at q
      exact ⟨_, _, _, .block_other r hb, q⟩
theorem Wp.scope (hw : Wp P O a ts h Q) : Wp P O (.scope a) ts h Q := let ⟨x, ts', h', r, q⟩ := hw; ⟨x, ts', h', .scope r, q⟩
theorem Wp.loop (hw : Wp P O a ts h (thenQ (fun ts' h' => Wp P O (.loop a) ts' h' Q) Q)) : Wp P O (.loop a) ts h Q := by
  obtain ⟨x, ts', h', r, q⟩ := hw
  cases x with
  | normal => obtain ⟨x2, ts2, h2, r2, q2⟩ := q; exact ⟨x2, ts2, h2, .loop r r2, q2⟩
  | exit id => exact ⟨_, _, _, .loop_out r (by simp), q⟩
  | ret => exact ⟨_, _, _, .loop_out r (by simp), q⟩
/-- A loop: what holds at each round's head, and how many rounds there are at most. -/
theorem Wp.loop_inv (I : Nat → List Value → Heap → Prop) (n : Nat) (h0 : I n ts h)
    (hstep : ∀ (n : Nat) (ts : List Value) (h : Heap), I n ts h → Wp P O a ts h (thenQ (fun ts' h' => ∃ m, m < n ∧ I m ts' h') Q)) : Wp P O (.loop a) ts h Q := by
  induction n using Nat.strongRecOn generalizing ts h with
  | _ n ih =>
    refine .loop ((hstep n ts h h0).mono fun x ts' h' q => ?_)
    cases x with
    | normal => obtain ⟨m, hm, hI⟩ := q; exact ih m hm hI
    | exit id => exact q
    | ret => exact q
theorem Wp.region {id : Nat} {ops : Array Oper} (hw : WpOps P O ops.toList ops.toList ts h (Q .normal)) : Wp P O (.region id ops false) ts h Q := let ⟨ts', h', r, q⟩ := hw; ⟨_, ts', h', .region r, q⟩

theorem opsT_of_opsI {call : CallI} {all : List Oper} : ∀ {l : List Oper} {ts ts' : List Value} {h h' : Heap}, opsI P call all l ts h = some (ts', h') → ∃ ents, opsT P call all l ts h = some (ents, ts', h')
  | [], ts, ts', h, h', he => by simp only [opsI, Option.some.injEq, Prod.mk.injEq] at he; obtain ⟨rfl, rfl⟩ := he; exact ⟨[], rfl⟩
  | o :: l, ts, ts', h, h', he => by
    simp only [opsI] at he
    simp only [opsT]
    split at he
    · rename_i hw
      split at he
      · rename_i v h1 hv
        obtain ⟨ents, k⟩ := opsT_of_opsI he
        exact ⟨_, by rw [if_pos hw]; simp only [hv, k]; rfl⟩
      · cases he
    · rename_i hw
      obtain ⟨ents, k⟩ := opsT_of_opsI he
      exact ⟨_, by rw [if_neg hw]; simp only [k]; rfl⟩

theorem Wp.draw {id : Nat} {ops : Array Oper} (hd : (pairsOK P O.isPure ops (pres ops.toList []) 0 ops.toList && drawStill P O.isPure ops) = true) (hw : WpOps P O ops.toList ops.toList ts h (Q .normal)) : Wp P O (.region id ops true) ts h Q := by
  obtain ⟨ts', h', ⟨n, r⟩, q⟩ := hw
  simp only [Bool.and_eq_true] at hd
  obtain ⟨ents, k⟩ := opsT_of_opsI r
  exact ⟨_, ts', h', .draw ⟨n, k⟩ hd.1 (by unfold drawReads; rw [hd.2]; rfl), q⟩

variable {R : List Value → Heap → Prop} {all l : List Oper} {o : Oper}
theorem WpOps.nil (hr : R ts h) : WpOps P O all [] ts h R := ⟨ts, h, .nil, hr⟩
variable {t1 : List Value}
theorem WpOps.off (hw : wantedI o all ts = false) (ht : putI ts o.dst undef = t1) (hr : WpOps P O all l t1 h R) : WpOps P O all (o :: l) ts h R := let ⟨ts', h', r, q⟩ := hr; ⟨ts', h', .off hw (ht ▸ r), q⟩
theorem WpOps.op {v v' : Value} (hw : wantedI o all ts = true) (hc : ∀ call, operI P call o ts h = some (v, h1)) (hv : v = v') (ht : putI ts o.dst v' = t1) (hr : WpOps P O all l t1 h1 R) : WpOps P O all (o :: l) ts h R := let ⟨ts', h', r, q⟩ := hr; ⟨ts', h', .op hw hc (hv ▸ ht ▸ r), q⟩
/-- A call's answer is put into the frame. -/
def WpPut (P : Program) (O : Orc) (all l : List Oper) (ts : List Value) (dst : Option Tmp) (R : List Value → Heap → Prop) (v : Value) (h : Heap) : Prop := WpOps P O all l (putI ts dst v) h R
theorem WpPut.mk {dst : Option Tmp} {v v' : Value} (hv : v = v') (ht : putI ts dst v' = t1) (hr : WpOps P O all l t1 h R) : WpPut P O all l ts dst R v h := by subst hv; subst ht; exact hr
theorem WpOps.call {f : FuncId} {args : List Value} (hw : wantedI o all ts = true) (hc : ∀ call, operI P call o ts h = call f args h) (hf : CallW P O f args h (WpPut P O all l ts o.dst R)) : WpOps P O all (o :: l) ts h R := by
  obtain ⟨v, h1, k, ts', h', r, q⟩ := hf
  exact ⟨ts', h', .call hw hc k r, q⟩

variable {S : Value → Heap → Prop}
theorem CallW.mono {f : FuncId} {args : List Value} {S' : Value → Heap → Prop} (hc : CallW P O f args h S) (hs : ∀ v h, S v h → S' v h) : CallW P O f args h S' := let ⟨v, h', k, s⟩ := hc; ⟨v, h', k, hs _ _ s⟩
/-- At the end of a body: its results. -/
def RetQ (P : Program) (rs : List ResultVar) (S : Value → Heap → Prop) (x : Ex) (ts : List Value) (h : Heap) : Prop := (x = .normal ∨ x = .ret) ∧ ∃ l, resultsI P ts h rs = some l ∧ S (tupleI l) h
theorem CallW.text {f : FuncId} {fn : Func} {c : Code} {args : List Value} (hp : O.pure f = none) (hh : O.heap f args h = none) (hf : P.funcs[f]? = some fn) (hb : fn.body = some c)
    (ht : args ++ List.replicate (fn.ntmps - args.length) undef = ts) (hw : Wp P O c ts h (RetQ P fn.results.toList S)) : CallW P O f args h S := by
  subst ht
  obtain ⟨x, ts', h', r, hx, l, hl, s⟩ := hw
  exact ⟨_, _, .text hp hh hf hb r hx hl, s⟩
theorem CallW.pure {f : FuncId} {args : List Value} {g : List Value → Option Value} {v : Value} (hp : O.pure f = some g) (hg : g args = some v) (hs : S v h) : CallW P O f args h S := ⟨v, h, .pure hp hg, hs⟩
theorem CallW.heap {f : FuncId} {args : List Value} {v : Value} (hp : O.pure f = none) (hg : O.heap f args h = some (v, h1)) (hs : S v h1) : CallW P O f args h S := ⟨v, h1, .heap hp hg, hs⟩
theorem CallW.of (n : Nat) {f : FuncId} {args : List Value} {v : Value} (he : callI P O n f args h = some (v, h1)) (hs : S v h1) : CallW P O f args h S := ⟨v, h1, ⟨n, he⟩, hs⟩

/-! ### operations that ask something -/
theorem op_shl {t t2 : TypeId} {x y : Operand} {k k2 : IntKind} {a b : Int} (ho : o.op = .binOp .shl t x y t2) (fx : flatOp ts x = true) (fy : flatOp ts y = true)
    (hx : evI ts x = .int k a) (hy : evI ts y = .int k2 b) (hn : ¬ b < 0) (call : CallI) : operI P call o ts h = some (.int k (k.wrap (a * 2 ^ (min b.toNat k.bits))), h) := by
  obtain ⟨dst, op, ty, pos, after, guard⟩ := o
  simp only at ho; subst ho
  simp [operI, opI, fx, fy, execOp, hx, hy, eqGuard, binOp, Op.shift, hn, flat, flatN]
  rfl
theorem op_shr {t t2 : TypeId} {x y : Operand} {k k2 : IntKind} {a b : Int} (ho : o.op = .binOp .shr t x y t2) (fx : flatOp ts x = true) (fy : flatOp ts y = true)
    (hx : evI ts x = .int k a) (hy : evI ts y = .int k2 b) (hn : ¬ b < 0) (call : CallI) : operI P call o ts h = some (.int k (a.fdiv (2 ^ (min b.toNat k.bits))), h) := by
  obtain ⟨dst, op, ty, pos, after, guard⟩ := o
  simp only at ho; subst ho
  simp [operI, opI, fx, fy, execOp, hx, hy, eqGuard, binOp, Op.shift, hn, flat, flatN]
  rfl
theorem op_quo {t t2 : TypeId} {x y : Operand} {k : IntKind} {a b : Int} (ho : o.op = .binOp .quo t x y t2) (fx : flatOp ts x = true) (fy : flatOp ts y = true)
    (hx : evI ts x = .int k a) (hy : evI ts y = .int k b) (hn : b ≠ 0) (call : CallI) : operI P call o ts h = some (.int k (k.wrap (a.tdiv b)), h) := by
  obtain ⟨dst, op, ty, pos, after, guard⟩ := o
  simp only at ho; subst ho
  simp [operI, opI, fx, fy, execOp, hx, hy, eqGuard, binOp, Op.intDiv, hn, flat, flatN]
  rfl
theorem op_rem {t t2 : TypeId} {x y : Operand} {k : IntKind} {a b : Int} (ho : o.op = .binOp .rem t x y t2) (fx : flatOp ts x = true) (fy : flatOp ts y = true)
    (hx : evI ts x = .int k a) (hy : evI ts y = .int k b) (hn : b ≠ 0) (call : CallI) : operI P call o ts h = some (.int k (a.tmod b), h) := by
  obtain ⟨dst, op, ty, pos, after, guard⟩ := o
  simp only at ho; subst ho
  simp [operI, opI, fx, fy, execOp, hx, hy, eqGuard, binOp, Op.intDiv, hn, flat, flatN]
  rfl

theorem CallW.done {x : Ex} {l : List Value} {rs : List ResultVar} {v : Value} (hx : x = .normal ∨ x = .ret) (hl : resultsI P ts h rs = some l) (hv : tupleI l = v) (hs : S v h) :
    RetQ P rs S x ts h := ⟨hx, l, hl, hv ▸ hs⟩

end
end Go.Ideal
