/- What a piece of code, or a call, comes to, whatever world it runs in: rules. Over any program. -/
import Derived.Test.YtepijhnfeafmaaaIExec
set_option linter.unusedVariables false
set_option linter.unusedSimpArgs false
namespace Go.Ideal
open Go.RowKit

variable {P : Program}

def AfterS (P : Program) (B : Nat) (w0 : Org) (σ : Sg) (Q : Ex → List Value → Heap → Prop) : Exit → Act → World → Prop :=
  fun e a w => ∃ x ts h, e = x.toExit ∧ Q x ts h ∧ ∃ σ', σ.le σ' ∧ LRel σ' ts a.tmps.toList ∧ HRel P B w0 σ' h w ∧ a.defers = []

/-- Run from (ts, h), the code ends as Q says, in every world that is related. -/
def WpS (P : Program) (c : Code) (ts : List Value) (h : Heap) (Q : Ex → List Value → Heap → Prop) : Prop :=
  ∀ (B : Nat) (w0 : Org) (σ : Sg) (a : Act) (w : World), HRel P B w0 σ h w → LRel σ ts a.tmps.toList → a.defers = [] → c.wp P (AfterS P B w0 σ Q) a w

def CallS (P : Program) (f : FuncId) (args : List Value) (h : Heap) (S : Value → Heap → Prop) : Prop :=
  ∀ (B : Nat) (w0 : Org) (σ : Sg) (w : World) (args' : Array Value), HRel P B w0 σ h w → LRel σ args args'.toList →
    Calls P f args' w fun e w' => ∃ v v' h', e = .returned v' ∧ S v h' ∧ ∃ σ', σ.le σ' ∧ VRel σ' v v' ∧ HRel P B w0 σ' h' w'

theorem AfterS.weaken {B : Nat} {w0 : Org} {σ σ' : Sg} {Q Q' : Ex → List Value → Heap → Prop} (hle : σ.le σ') (hq : ∀ x ts h, Q x ts h → Q' x ts h) {e : Exit} {a : Act} {w : World} (k : AfterS P B w0 σ' Q e a w) : AfterS P B w0 σ Q' e a w := by
  obtain ⟨x, ts, h, k1, k2, σ2, k3, k4⟩ := k
  exact ⟨x, ts, h, k1, hq _ _ _ k2, σ2, Sg.le_trans hle k3, k4⟩

section
variable {c a b : Code} {ts : List Value} {h h1 : Heap} {Q : Ex → List Value → Heap → Prop}

theorem WpS.mono {Q' : Ex → List Value → Heap → Prop} (hw : WpS P c ts h Q) (hq : ∀ x ts h, Q x ts h → Q' x ts h) : WpS P c ts h Q' :=
  fun B w0 σ a w H hts hd => Go.wp_mono (hw B w0 σ a w H hts hd) fun _ _ _ k => k.weaken (Sg.le_refl σ) hq
theorem CallS.mono {f : FuncId} {args : List Value} {S S' : Value → Heap → Prop} (hc : CallS P f args h S) (hs : ∀ v h, S v h → S' v h) : CallS P f args h S' :=
  fun B w0 σ w args' H ha => (hc B w0 σ w args' H ha).mono fun _ _ ⟨v, v', h', k1, k2, k3⟩ => ⟨v, v', h', k1, hs _ _ k2, k3⟩

theorem WpS.skip (hq : Q .normal ts h) : WpS P .skip ts h Q := fun _ _ σ _ _ H hts hd => wp_skip ⟨.normal, ts, h, rfl, hq, σ, Sg.le_refl σ, hts, H, hd⟩
theorem WpS.label {l : Nat} (hq : Q .normal ts h) : WpS P (.label l) ts h Q := fun _ _ σ _ _ H hts hd => wp_label ⟨.normal, ts, h, rfl, hq, σ, Sg.le_refl σ, hts, H, hd⟩
theorem WpS.exit {id : Nat} (hq : Q (.exit id) ts h) : WpS P (.exit id) ts h Q := fun _ _ σ _ _ H hts hd => wp_exit ⟨.exit id, ts, h, rfl, hq, σ, Sg.le_refl σ, hts, H, hd⟩
theorem WpS.ret (hq : Q .ret ts h) : WpS P .ret ts h Q := fun _ _ σ _ _ H hts hd => wp_ret ⟨.ret, ts, h, rfl, hq, σ, Sg.le_refl σ, hts, H, hd⟩

def thenQ (next : List Value → Heap → Prop) (Q : Ex → List Value → Heap → Prop) : Ex → List Value → Heap → Prop
  | .normal => next
  | x => Q x
def blockQ (id : Nat) (Q : Ex → List Value → Heap → Prop) : Ex → List Value → Heap → Prop
  | .exit id' => match Nat.beq id' id with
    | true => Q .normal
    | false => Q (.exit id')
  | x => Q x

theorem WpS.seq (hw : WpS P a ts h (thenQ (fun ts' h' => WpS P b ts' h' Q) Q)) : WpS P (.seq a b) ts h Q := fun B w0 σ act w H hts hd => by
  refine wp_seq (Go.wp_mono (hw B w0 σ act w H hts hd) fun e a2 w2 k => ?_)
  obtain ⟨x, ts', h', rfl, q, σ', k1, k2, k3, k4⟩ := k
  cases x with
  | normal => exact Go.wp_mono (q B w0 σ' a2 w2 k3 k2 k4) fun _ _ _ k => k.weaken k1 fun _ _ _ h => h
  | exit id => exact ⟨.exit id, ts', h', rfl, q, σ', k1, k2, k3, k4⟩
  | ret => exact ⟨.ret, ts', h', rfl, q, σ', k1, k2, k3, k4⟩

theorem WpS.cond_true {o : Operand} (ho : operandOK P o = true) (hc : evI ts o = .bool true) (hw : WpS P a ts h Q) : WpS P (.cond o a b) ts h Q := fun B w0 σ act w H hts hd => by
  have k := ev_sound H hts ho
  rw [hc] at k
  generalize hq : act.eval o = q at k
  cases k
  exact wp_cond_true hq (hw B w0 σ act w H hts hd)
theorem WpS.cond_false {o : Operand} (ho : operandOK P o = true) (hc : evI ts o = .bool false) (hw : WpS P b ts h Q) : WpS P (.cond o a b) ts h Q := fun B w0 σ act w H hts hd => by
  have k := ev_sound H hts ho
  rw [hc] at k
  generalize hq : act.eval o = q at k
  cases k
  exact wp_cond_false hq (hw B w0 σ act w H hts hd)

theorem WpS.block {id : Nat} (hw : WpS P a ts h (blockQ id Q)) : WpS P (.block id a) ts h Q := fun B w0 σ act w H hts hd => by
  refine wp_block (Go.wp_mono (hw B w0 σ act w H hts hd) fun e a2 w2 k => ?_)
  obtain ⟨x, ts', h', rfl, q, k⟩ := k
  cases x with
  | normal => exact ⟨.normal, ts', h', rfl, q, k⟩
  | ret => exact ⟨.ret, ts', h', rfl, q, k⟩
  | exit id' =>
    simp only [blockQ] at q
    cases hb : Nat.beq id' id with
    | true =>
      rw [hb] at q
      have e := Nat.eq_of_beq_eq_true hb
      subst e
      simp only [Exit.inBlock, Ex.toExit, if_true]
      exact ⟨.normal, ts', h', rfl, q, k⟩
    | false =>
      rw [hb] at q
      have hne : ¬ id' = id := fun e => by rw [e, Nat.beq_refl] at hb; cases hb
      simp only [Exit.inBlock, Ex.toExit, hne, if_false]
      exact ⟨.exit id', ts', h', rfl, q, k⟩
theorem WpS.scope (hw : WpS P a ts h Q) : WpS P (.scope a) ts h Q := fun B w0 σ act w H hts hd => by
  refine wp_scope_straight (Go.wp_mono (hw B w0 σ act w H hts hd) fun e a2 w2 k => ?_)
  obtain ⟨x, ts', h', rfl, q, k⟩ := k
  cases x with
  | normal => exact ⟨.normal, ts', h', rfl, q, k⟩
  | exit id => exact ⟨.exit id, ts', h', rfl, q, k⟩
  | ret => exact ⟨.ret, ts', h', rfl, q, k⟩

theorem rounds_mono {c : Code} {Q Q' : Exit → Act → World → Prop} (hq : ∀ e a w, Q e a w → Q' e a w) : ∀ (n m : Nat) (a : Act) (w : World), n ≤ m → Code.rounds P c Q n a w → Code.rounds P c Q' m a w
  | 0, _, _, _, _, h => absurd h (by simp [Code.rounds])
  | n + 1, 0, _, _, hle, _ => absurd hle (by omega)
  | n + 1, m + 1, a, w, hle, h => by
    rw [rounds_succ] at h ⊢
    refine Go.wp_mono h fun e a2 w2 k => ?_
    cases e with
    | normal => exact rounds_mono hq n m a2 w2 (by omega) k
    | _ => exact hq _ _ _ k

/-- A loop: what holds at each round's head, and how many rounds there are at most. -/
theorem WpS.loop_inv (I : Nat → List Value → Heap → Prop) (n : Nat) (h0 : I n ts h)
    (hstep : ∀ (n : Nat) (ts : List Value) (h : Heap), I n ts h → WpS P a ts h (thenQ (fun ts' h' => ∃ m, m < n ∧ I m ts' h') Q)) : WpS P (.loop a) ts h Q := fun B w0 σ act w H hts hd => by
  have key : ∀ (n : Nat) (ts : List Value) (h : Heap) (σ : Sg) (act : Act) (w : World), I n ts h → HRel P B w0 σ h w → LRel σ ts act.tmps.toList → act.defers = [] → Code.rounds P a (AfterS P B w0 σ Q) (n + 1) act w := fun n => by
    induction n using Nat.strongRecOn with
    | _ n ih =>
      intro ts h σ act w hI H hts hd
      rw [rounds_succ]
      refine Go.wp_mono (hstep n ts h hI B w0 σ act w H hts hd) fun e a2 w2 k => ?_
      obtain ⟨x, ts', h', rfl, q, σ', k1, k2, k3, k4⟩ := k
      cases x with
      | normal =>
        obtain ⟨m, hm, hI'⟩ := q
        exact rounds_mono (fun _ _ _ k => k.weaken k1 fun _ _ _ h => h) (m + 1) n a2 w2 hm (ih m hm ts' h' σ' a2 w2 hI' k3 k2 k4)
      | exit id => exact ⟨.exit id, ts', h', rfl, q, σ', k1, k2, k3, k4⟩
      | ret => exact ⟨.ret, ts', h', rfl, q, σ', k1, k2, k3, k4⟩
  exact wp_loop_rounds (n + 1) (key n ts h σ act w h0 H hts hd)

/-! ### the same, seen otherwise -/
/-- Whatever is related to (ts, h) is related to (ts2, h2). -/
def Weak (P : Program) (ts : List Value) (h : Heap) (ts2 : List Value) (h2 : Heap) : Prop :=
  ∀ (B : Nat) (w0 : Org) (σ : Sg) (w : World) (l : List Value), HRel P B w0 σ h w → LRel σ ts l → ∃ σ2, σ.le σ2 ∧ HRel P B w0 σ2 h2 w ∧ LRel σ2 ts2 l
theorem Weak.refl (ts : List Value) (h : Heap) : Weak P ts h ts h := fun _ _ σ _ _ H hl => ⟨σ, Sg.le_refl σ, H, hl⟩
theorem Weak.trans {ts ts1 ts2 : List Value} {h h1 h2 : Heap} (k : Weak P ts h ts1 h1) (k' : Weak P ts1 h1 ts2 h2) : Weak P ts h ts2 h2 := fun B w0 σ w l H hl => by
  obtain ⟨σ1, a1, a2, a3⟩ := k B w0 σ w l H hl
  obtain ⟨σ2, b1, b2, b3⟩ := k' B w0 σ1 w l a2 a3
  exact ⟨σ2, Sg.le_trans a1 b1, b2, b3⟩
theorem WpS.weak {ts2 : List Value} {h2 : Heap} (k : Weak P ts h ts2 h2) (hw : WpS P c ts2 h2 Q) : WpS P c ts h Q := fun B w0 σ act w H hts hd => by
  obtain ⟨σ2, a1, a2, a3⟩ := k B w0 σ w _ H hts
  exact Go.wp_mono (hw B w0 σ2 act w a2 a3 hd) fun _ _ _ k => k.weaken a1 fun _ _ _ h => h
theorem WpS.post_weak (hw : WpS P c ts h fun x ts' h' => ∃ ts2 h2, Weak P ts' h' ts2 h2 ∧ Q x ts2 h2) : WpS P c ts h Q := fun B w0 σ act w H hts hd => by
  refine Go.wp_mono (hw B w0 σ act w H hts hd) fun e a2 w2 k => ?_
  obtain ⟨x, ts', h', rfl, ⟨ts2, h2, kw, q⟩, σ', k1, k2, k3, k4⟩ := k
  obtain ⟨σ2, b1, b2, b3⟩ := kw B w0 σ' w2 _ k3 k2
  exact ⟨x, ts2, h2, rfl, q, σ2, Sg.le_trans k1 b1, b3, b2, k4⟩
theorem CallS.weak {f : FuncId} {args args2 : List Value} {h2 : Heap} {S : Value → Heap → Prop} (k : Weak P args h args2 h2) (hc : CallS P f args2 h2 S) : CallS P f args h S := fun B w0 σ w args' H ha => by
  obtain ⟨σ2, a1, a2, a3⟩ := k B w0 σ w _ H ha
  exact (hc B w0 σ2 w args' a2 a3).mono fun _ _ ⟨v, v', h', k1, k2, σ', k3, k4⟩ => ⟨v, v', h', k1, k2, σ', Sg.le_trans a1 k3, k4⟩
theorem CallS.post_weak {f : FuncId} {args : List Value} {S : Value → Heap → Prop} (hc : CallS P f args h fun v h' => ∃ v2 h2, Weak P [v] h' [v2] h2 ∧ S v2 h2) : CallS P f args h S := fun B w0 σ w args' H ha => by
  refine (hc B w0 σ w args' H ha).mono fun e w2 ⟨v, v', h', k1, ⟨v2, h2, kw, s⟩, σ', k3, k4, k5⟩ => ?_
  obtain ⟨σ2, b1, b2, b3⟩ := kw B w0 σ' w2 [v'] k5 (.cons k4 .nil)
  cases b3 with
  | cons hv _ => exact ⟨v2, v', h2, k1, s, σ2, Sg.le_trans k3 b1, hv, b2⟩

/-! ### operations, one by one -/
/-- What an operation comes to. -/
def OpS (P : Program) (o : Oper) (ts : List Value) (h : Heap) (S : Value → Heap → Prop) : Prop :=
  ∀ (B : Nat) (w0 : Org) (σ : Sg) (a : Act) (w : World) (K : Act → World → Prop) (Q : Exit → Act → World → Prop), HRel P B w0 σ h w → LRel σ ts a.tmps.toList →
    (∀ (σ' : Sg) (w' : World) (v v' : Value) (h' : Heap), S v h' → σ.le σ' → VRel σ' v v' → HRel P B w0 σ' h' w' → K (a.put o.dst v') w') → o.wp P a w K Q
def WpOpsS (P : Program) (ops : Array Oper) (l : List Oper) (ts : List Value) (h : Heap) (R : List Value → Heap → Prop) : Prop :=
  ∀ (B : Nat) (w0 : Org) (σ : Sg) (a : Act) (w : World) (Q : Exit → Act → World → Prop), HRel P B w0 σ h w → LRel σ ts a.tmps.toList → a.defers = [] →
    (∀ (σ' : Sg) (a' : Act) (w' : World) (ts' : List Value) (h' : Heap), R ts' h' → σ.le σ' → LRel σ' ts' a'.tmps.toList → HRel P B w0 σ' h' w' → a'.defers = [] → Q .normal a' w') → wpList P ops Q l a w

theorem OpS.mono {o : Oper} {S S' : Value → Heap → Prop} (ho : OpS P o ts h S) (hs : ∀ v h, S v h → S' v h) : OpS P o ts h S' :=
  fun B w0 σ a w K Q H hts hK => ho B w0 σ a w K Q H hts fun σ' w' v v' h' k => hK σ' w' v v' h' (hs _ _ k)
theorem OpS.of {o : Oper} (hok : operOK P o = true) {v : Value} (hnc : ∀ call, operI P call o ts h = some (v, h1)) {S : Value → Heap → Prop} (hs : S v h1) : OpS P o ts h S := fun B w0 σ a w K Q H hts hK =>
  oper_wp (call := fun _ _ _ => none) (fun _ _ _ _ _ he => by cases he) H hts hok (hnc _) fun σ' w' v' k1 k2 k3 => hK σ' w' v v' h1 hs k1 k2 k3

/-- Functions that have a text. -/
def HasText (P : Program) (f : FuncId) : Prop := ∃ fn c, P.funcs[f]? = some fn ∧ fn.body = some c

theorem callee_sound {B : Nat} {w0 : Org} {σ : Sg} {a : Act} {w : World} {o : Oper} {c : Call} {f : FuncId} {args : List Value} (H : HRel P B w0 σ h w) (hts : LRel σ ts a.tmps.toList) (hok : operOK P o = true) (hop : o.op = .call c) (hc : calleeI ts c = some (f, args)) :
    ∃ args' : Array Value, LRel σ args args'.toList ∧ execOp a.eval o = callFunc f args' := by
  have hargs : c.args.toList.all (operandOK P) = true ∧ (∀ x, c.callee = .value x → operandOK P x = true) := by
    simp only [operOK, hop, Op.operands, Call.operands, Array.toList_append, List.all_append, Bool.and_eq_true] at hok
    exact ⟨hok.2, fun x hx => by have := hok.1; rw [hx] at this; simpa using this⟩
  have hr := args_rel H hts hargs.1
  unfold calleeI at hc
  have hexec : ∀ x, c.callee = .value x → execOp a.eval o = (do let d ← Deferred.ofValue (a.eval x) (c.args.map a.eval); invoke d.target d.args) := fun x hx => by
    unfold execOp; rw [hop]; simp only [resolve, hx]
  split at hc
  · rename_i f2 hcal
    simp only [Option.some.injEq, Prod.mk.injEq] at hc; obtain ⟨rfl, rfl⟩ := hc
    refine ⟨c.args.map a.eval, by rw [Array.toList_map]; exact hr, ?_⟩
    rw [hexec _ hcal]
    show callFunc f2 ((#[] ++ c.args.map a.eval) ++ #[]) = _
    simp
  · rename_i x hxne hcal
    split at hc
    · rename_i f2 first cap hev
      simp only [Option.some.injEq, Prod.mk.injEq] at hc; obtain ⟨rfl, rfl⟩ := hc
      have k := ev_sound H hts (hargs.2 _ hcal)
      rw [hev] at k
      generalize hq : a.eval x = q at k
      cases k with
      | func _ ha hcc h1 h2 =>
        rename_i a' c'
        obtain ⟨_, q1, q2⟩ := VRel.func_lists (.func (.func f2) ha hcc h1 h2)
        refine ⟨(a' ++ c.args.map a.eval) ++ c', ?_, ?_⟩
        · rw [Array.toList_append, Array.toList_append, Array.toList_map]
          exact (q1.append hr).append q2
        · rw [hexec _ hcal, hq]; rfl
    · cases hc
  · cases hc

theorem OpS.call (hP : ProgOK P) {o : Oper} {c : Call} {f : FuncId} {args : List Value} (hok : operOK P o = true) (hop : o.op = .call c) (hc : calleeI ts c = some (f, args)) (hf : HasText P f) {S : Value → Heap → Prop} (hs : CallS P f args h S) : OpS P o ts h S := fun B w0 σ a w K Q H hts hK => by
  obtain ⟨fn, body, hfn, hb⟩ := hf
  obtain ⟨args', ha, he⟩ := callee_sound H hts hok hop hc
  refine Calls.wp_enter hP hfn hb he (R := fun v' w' => ∃ v h', S v h' ∧ ∃ σ', σ.le σ' ∧ VRel σ' v v' ∧ HRel P B w0 σ' h' w') ((hs B w0 σ w args' H ha).mono fun e w' ⟨v, v', h', k1, k2, k3⟩ => ⟨v', k1, v, h', k2, k3⟩) fun v' w' hR => ?_
  obtain ⟨v, h', k1, σ', k2, k3, k4⟩ := hR
  exact hK σ' w' v v' h' k1 k2 k3 k4

/-- A call of a function that has a text. -/
theorem CallS.text (hP : ProgOK P) {f : FuncId} {fn : Func} {c : Code} {args : List Value} {S : Value → Heap → Prop} (hf : P.funcs[f]? = some fn) (hb : fn.body = some c)
    (hw : WpS P c (args ++ List.replicate (fn.ntmps - args.length) Go.undef) h fun x ts' h' => (x = .normal ∨ x = .ret) ∧ ∃ l, resultsI P ts' h' fn.results.toList = some l ∧ S (tupleI l) h') : CallS P f args h S := fun B w0 σ w args' H ha => by
  refine calls_of_wp hf hb (Go.wp_mono (hw B w0 σ _ w H ?_ rfl) fun e a w2 k => ?_)
  · have hl := ha.len
    simp only [Array.length_toList] at hl
    simp only [Array.toList_append, Array.toList_replicate]
    rw [hl]
    exact ha.append (LRel.replicate σ _)
  · obtain ⟨x, ts', h', rfl, ⟨hx, l, hl, hS⟩, σ', k2, k3, k4, k5⟩ := k
    obtain ⟨v', q1, q2⟩ := results_sound k4 k3 hl
    rcases hx with rfl | rfl <;> exact ⟨k5, v', q1, tupleI l, v', h', rfl, hS, σ', k2, q2, k4⟩

theorem WpOpsS.nil {ops : Array Oper} {R : List Value → Heap → Prop} (hr : R ts h) : WpOpsS P ops [] ts h R := fun B w0 σ a w Q H hts hd hQ => hQ σ a w ts h hr (Sg.le_refl σ) hts H hd
theorem WpOpsS.off {ops : Array Oper} {o : Oper} {l : List Oper} {R : List Value → Heap → Prop} (hw : wantedI o ops.toList ts = false) (hr : WpOpsS P ops l (putI ts o.dst undef) h R) : WpOpsS P ops (o :: l) ts h R := fun B w0 σ a w Q H hts hd hQ => by
  have hw2 := wanted_rel (a := a) (ops := ops) (o := o) hts
  simp only [wpList]
  rw [← hw2, hw, if_neg (by simp)]
  exact hr B w0 σ _ w Q H (put_rel hts (VRel.undef σ) o.dst) (by rw [put_defers]; exact hd) hQ
theorem WpOpsS.op {ops : Array Oper} {o : Oper} {l : List Oper} {R : List Value → Heap → Prop} (hw : wantedI o ops.toList ts = true) (ho : OpS P o ts h fun v h' => WpOpsS P ops l (putI ts o.dst v) h' R) : WpOpsS P ops (o :: l) ts h R := fun B w0 σ a w Q H hts hd hQ => by
  have hw2 := wanted_rel (a := a) (ops := ops) (o := o) hts
  simp only [wpList]
  rw [← hw2, hw, if_pos rfl]
  refine .inl (ho B w0 σ a w _ Q H hts fun σ' w' v v' h' k k1 k2 k3 => ?_)
  exact k B w0 σ' _ w' Q k3 (put_rel (hts.mono k1) k2 o.dst) (by rw [put_defers]; exact hd) fun σ2 a2 w2 ts2 h2 q q1 q2 q3 q4 => hQ σ2 a2 w2 ts2 h2 q (Sg.le_trans k1 q1) q2 q3 q4
theorem WpS.region {id : Nat} {ops : Array Oper} (hw : WpOpsS P ops ops.toList ts h (Q .normal)) : WpS P (.region id ops false) ts h Q := fun B w0 σ act w H hts hd =>
  wp_region_list (hw B w0 σ act w _ H hts hd fun σ' a' w' ts' h' q k1 k2 k3 k4 => ⟨.normal, ts', h', rfl, q, σ', k1, k2, k3, k4⟩)

end
end Go.Ideal
