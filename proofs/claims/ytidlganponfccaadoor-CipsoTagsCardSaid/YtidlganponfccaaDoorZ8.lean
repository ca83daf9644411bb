/- Texts packed together: ICall IDraw IDraw2 IDraw3. -/
import Derived.Tactics
import Derived.LoopN
import Derived.Scope
import Derived.Test.YtidlganponfccaaDoorZ7
section
/- An operation, or a call, comes up: what the ideal interpreter answers the model answers. Over any program. -/
set_option linter.unusedVariables false
set_option linter.unusedSimpArgs false
namespace Go.Ideal
open Go.RowKit

/-- What is asked of a program: no text names an address; no function is one that the model answers itself. -/
structure ProgOK (P : Program) : Prop where
  mixed : P.follows .mixedOrders = true
  code : ∀ (f : FuncId) (fn : Func) (c : Code), P.funcs[f]? = some fn → fn.body = some c → codeOK P c = true
  name : ∀ (f : FuncId) (fn : Func), P.funcs[f]? = some fn → fn.body.isSome = true → (fn.name == "runtime.NumGoroutine") = false

variable {P : Program} {B : Nat} {w0 : Org}

def CallSound (P : Program) (B : Nat) (w0 : Org) (call : CallI) : Prop :=
  ∀ (f : FuncId) (args : List Value) (h : Heap) (v : Value) (h' : Heap), call f args h = some (v, h') → ∀ (σ : Sg) (w : World) (args' : Array Value), HRel P B w0 σ h w → LRel σ args args'.toList →
    ∀ (o : Oper) (a : Act) (K : Act → World → Prop) (Q : Exit → Act → World → Prop), execOp a.eval o = callFunc f args' →
      (∀ (σ' : Sg) (w' : World) (v' : Value), σ.le σ' → VRel σ' v v' → HRel P B w0 σ' h' w' → K (a.put o.dst v') w') → o.wp P a w K Q

theorem callFunc_enter (hP : ProgOK P) {f : FuncId} {fn : Func} {c : Code} (hf : P.funcs[f]? = some fn) (hb : fn.body = some c) (args : Array Value) (w : World) : (callFunc f args).run P w = .ok (.enter f args) w := by
  have hn := hP.name f fn hf (by simp [hb])
  simp only [callFunc, Sem.run_bind, run_program, Result.andThen_ok, hf, hn, Bool.false_eq_true, if_false, hb, Option.isNone_some, Sem.run_pure]

theorem Calls.wp_enter (hP : ProgOK P) {f : FuncId} {fn : Func} {c : Code} (hf : P.funcs[f]? = some fn) (hb : fn.body = some c) {args : Array Value} {w : World} {R : Value → World → Prop} {o : Oper} {a : Act} {K : Act → World → Prop} {Q : Exit → Act → World → Prop}
    (ho : execOp a.eval o = callFunc f args) (hc : Calls P f args w fun e w' => ∃ v, e = .returned v ∧ R v w') (hK : ∀ v w', R v w' → K (a.put o.dst v) w') : o.wp P a w K Q := by
  unfold Oper.wp
  rw [ho, callFunc_enter hP hf hb, Oper.upon_enter]
  refine hc.mono fun e w' he => ?_
  obtain ⟨v, rfl, hr⟩ := he
  exact hK v w' hr

theorem oper_wp {call : CallI} (hcall : CallSound P B w0 call) {σ : Sg} {h h' : Heap} {w : World} {ts : List Value} {a : Act} {o : Oper} {v : Value} {K : Act → World → Prop} {Q : Exit → Act → World → Prop}
    (H : HRel P B w0 σ h w) (hts : LRel σ ts a.tmps.toList) (hok : operOK P o = true) (he : operI P call o ts h = some (v, h'))
    (hK : ∀ (σ' : Sg) (w' : World) (v' : Value), σ.le σ' → VRel σ' v v' → HRel P B w0 σ' h' w' → K (a.put o.dst v') w') : o.wp P a w K Q := by
  have plain : opI P o ts h = some (v, h') → o.wp P a w K Q := fun he => by
    obtain ⟨σ', w', nx, v', k1, k2, k3, k4, k5⟩ := op_sound H hts hok he
    unfold Oper.wp
    rw [k2]
    rcases k3 with rfl | ⟨rfl, rfl⟩
    · exact hK σ' w' v' k1 k4 k5
    · exact hK σ' w' _ k1 k4 k5
  unfold operI at he
  split at he
  · rename_i c hop
    split at he
    · exact plain he
    · rename_i hnb
      split at he
      · rename_i f args hc
        have hargs : c.args.toList.all (operandOK P) = true ∧ (∀ x, c.callee = .value x → operandOK P x = true) := by
          simp only [operOK, hop, Op.operands, Call.operands, Array.toList_append, List.all_append, Bool.and_eq_true] at hok
          exact ⟨hok.2, fun x hx => by have := hok.1; rw [hx] at this; simpa using this⟩
        have hr := args_rel H hts hargs.1
        unfold calleeI at hc
        have hexec : ∀ x, c.callee = .value x → execOp a.eval o = (do let d ← Deferred.ofValue (a.eval x) (c.args.map a.eval); invoke d.target d.args) := fun x hx => by
          unfold execOp; rw [hop]; simp only [resolve, hx]
        split at hc
        · rename_i f2 hcal
          simp only [Option.some.injEq, Prod.mk.injEq] at hc; obtain ⟨rfl, rfl⟩ := hc
          refine hcall _ _ _ _ _ he σ w (c.args.map a.eval) H (by rw [Array.toList_map]; exact hr) o a K Q ?_ hK
          rw [hexec _ hcal]
          show callFunc f2 ((#[] ++ c.args.map a.eval) ++ #[]) = _
          simp
        · rename_i x hxne hcal
          split at hc
          · rename_i f2 first cap hev
            simp only [Option.some.injEq, Prod.mk.injEq] at hc; obtain ⟨rfl, rfl⟩ := hc
            have k := ev_sound H hts (hargs.2 _ hcal)
            rw [hev] at k
            generalize hq : a.eval x = q at k
            cases k with
            | func _ ha hcc h1 h2 =>
              rename_i a' c'
              obtain ⟨_, q1, q2⟩ := VRel.func_lists (.func (.func f2) ha hcc h1 h2)
              refine hcall _ _ _ _ _ he σ w ((a' ++ c.args.map a.eval) ++ c') H ?_ o a K Q ?_ hK
              · rw [Array.toList_append, Array.toList_append, Array.toList_map]
                exact (q1.append hr).append q2
              · rw [hexec _ hcal, hq]; rfl
          · cases hc
        · cases hc
      · cases he
  · exact plain he

theorem wanted_rel {σ : Sg} {ops : Array Oper} {o : Oper} {ts : List Value} {a : Act} (hts : LRel σ ts a.tmps.toList) : wantedI o ops.toList ts = Region.wanted o (yielded ops a.tmps) := by
  unfold wantedI Region.wanted
  cases hg : o.guard with
  | none => rfl
  | some gw =>
    obtain ⟨j, want⟩ := gw
    simp only [yieldedI, yielded]
    rw [Array.getElem?_toList]
    cases hd : (ops[j]?).bind (·.dst) with
    | none => rfl
    | some t =>
      simp only [Option.bind_some]
      cases ht : ts[t]? with
      | none =>
        have : a.tmps[t]? = none := by
          rw [List.getElem?_eq_none_iff] at ht
          rw [Array.getElem?_eq_none_iff]
          have := hts.len
          simp only [Array.length_toList] at this
          omega
        rw [this]; rfl
      | some v =>
        obtain ⟨v', k1, k2⟩ := hts.get? _ _ ht
        rw [Array.getElem?_toList] at k1
        rw [k1]
        cases k2 with
        | frz t' _ hf => cases hf with
          | any hr => cases v' <;> first | rfl | (cases want <;> simp [refLike] at hr)
          | _ => cases want <;> rfl
        | _ => first | rfl | (cases want <;> rename_i b <;> cases b <;> rfl)

theorem put_rel {σ : Sg} {ts : List Value} {a : Act} (hts : LRel σ ts a.tmps.toList) {v v' : Value} (hv : VRel σ v v') (dst : Option Tmp) : LRel σ (putI ts dst v) (a.put dst v').tmps.toList := by
  cases dst with
  | none => exact hts
  | some d => simp only [putI, Act.put, Array.toList_setIfInBounds]; exact hts.set hv d

theorem put_defers (a : Act) (dst : Option Tmp) (v : Value) : (a.put dst v).defers = a.defers := by cases dst <;> rfl

/-- A region in the order of its text. -/
theorem ops_sound {call : Nat → CallI} (hcall : ∀ k, CallSound P B w0 (call k)) {ops : Array Oper} {Q : Exit → Act → World → Prop} : ∀ (l : List Oper) (σ : Sg) (h h' : Heap) (w : World) (ts ts' : List Value) (a : Act), l.all (operOK P) = true →
    HRel P B w0 σ h w → LRel σ ts a.tmps.toList → a.defers = [] → opsI P call ops.toList l ts h = some (ts', h') →
    (∀ (σ' : Sg) (a' : Act) (w' : World), σ.le σ' → LRel σ' ts' a'.tmps.toList → HRel P B w0 σ' h' w' → a'.defers = [] → Q .normal a' w') → wpList P ops Q l a w
  | [], σ, h, h', w, ts, ts', a, _, H, hts, hd, he, hK => by
    simp only [opsI, Option.some.injEq, Prod.mk.injEq] at he; obtain ⟨rfl, rfl⟩ := he
    exact hK σ a w (Sg.le_refl σ) hts H hd
  | o :: rest, σ, h, h', w, ts, ts', a, hok, H, hts, hd, he, hK => by
    simp only [List.all_cons, Bool.and_eq_true] at hok
    simp only [opsI] at he
    simp only [wpList]
    rw [wanted_rel (a := a) hts] at he
    split at he
    · rename_i hw
      rw [if_pos hw]
      split at he
      · rename_i v h1 ho
        refine .inl (oper_wp (hcall 0) H hts hok.1 ho fun σ' w' v' k1 k2 k3 => ?_)
        exact ops_sound (fun k => hcall (k + 1)) rest σ' h1 h' w' _ ts' _ hok.2 k3 (put_rel (hts.mono k1) k2 o.dst) (by rw [put_defers]; exact hd) he fun σ2 a2 w2 q1 q2 q3 q4 => hK σ2 a2 w2 (Sg.le_trans k1 q1) q2 q3 q4
      · cases he
    · rename_i hw
      rw [if_neg hw]
      exact ops_sound (fun k => hcall (k + 1)) rest σ h h' w _ ts' _ hok.2 H (put_rel hts (VRel.undef σ) o.dst) (by rw [put_defers]; exact hd) he hK

/-! ### results -/
theorem result_run {σ : Sg} {h : Heap} {w : World} {ts : List Value} {a : Act} (H : HRel P B w0 σ h w) (hts : LRel σ ts a.tmps.toList) {r : ResultVar} {v : Value} (hr : resultI P ts h r = some v) :
    ∃ v', ((match r with
      | .tmp t => pure (a.tmps.getD t Go.undef)
      | .cell x t => do loadVar t (← asAddr (a.tmps.getD x Go.undef))) : Sem Value).run P w = .ok v' w ∧ VRel σ v v' := by
  cases r with
  | tmp t =>
    simp only [resultI, Option.some.injEq] at hr; subst hr
    exact ⟨a.tmps.getD t Go.undef, by simp only [Sem.run_pure], by have := hts.getD t; simpa using this⟩
  | cell x t =>
    simp only [resultI] at hr
    split at hr
    · rename_i ad e
      have k := hts.getD x
      rw [e] at k
      obtain ⟨ad', e', hA⟩ := k.ptr_inv
      obtain ⟨v', k1, k2⟩ := load_sound H hr hA
      refine ⟨v', ?_, k2⟩
      have e2 : a.tmps.getD x Go.undef = .pointer (some ad') := by rw [← e']; simp
      simp only [e2, asAddr, Sem.run_bind, Sem.run_pure, Result.andThen_ok, k1]
    · cases hr

theorem results_mapM {σ : Sg} {h : Heap} {w : World} {ts : List Value} {a : Act} (H : HRel P B w0 σ h w) (hts : LRel σ ts a.tmps.toList) : ∀ {rs : List ResultVar} {l : List Value}, resultsI P ts h rs = some l →
    ∃ l', (rs.mapM fun r => ((match r with
      | .tmp t => pure (a.tmps.getD t Go.undef)
      | .cell x t => do loadVar t (← asAddr (a.tmps.getD x Go.undef))) : Sem Value)).run P w = .ok l' w ∧ LRel σ l l'
  | [], l, hr => by simp only [resultsI, Option.some.injEq] at hr; subst hr; exact ⟨[], by simp, .nil⟩
  | r :: rs, l, hr => by
    simp only [resultsI] at hr
    split at hr
    · rename_i v l2 h1 h2
      simp only [Option.some.injEq] at hr; subst hr
      obtain ⟨v', k1, k2⟩ := result_run H hts h1
      obtain ⟨l', q1, q2⟩ := results_mapM H hts h2
      exact ⟨v' :: l', by simp only [List.mapM_cons, Sem.run_bind, k1, Result.andThen_ok, q1, Sem.run_pure], .cons k2 q2⟩
    · cases hr

theorem results_sound {σ : Sg} {h : Heap} {w : World} {ts : List Value} {a : Act} (H : HRel P B w0 σ h w) (hts : LRel σ ts a.tmps.toList) {fn : Func} {l : List Value} (hr : resultsI P ts h fn.results.toList = some l) :
    ∃ v', (results fn a.tmps).run P w = .ok v' w ∧ VRel σ (tupleI l) v' := by
  obtain ⟨l', k1, k2⟩ := results_mapM H hts hr
  refine ⟨if h : l'.toArray.size = 1 then l'.toArray[0] else .tuple l'.toArray, ?_, ?_⟩
  · unfold results
    rw [Array.mapM_eq_mapM_toList]
    simp only [Sem.run_bind, Sem.run_map, k1, Result.andThen_ok, Sem.run_pure]
    exact congrArg (fun r : Result (List Value) => (r.andThen fun a w' => Result.ok a.toArray w').andThen fun a w' => Result.ok (if h : a.size = 1 then a[0] else Value.tuple a) w') k1
  · cases k2 with
    | nil => exact VRel.tuple_of .nil
    | cons hv ht => cases ht with
      | nil => simpa [tupleI] using hv
      | cons hv2 ht2 => simpa [tupleI] using VRel.tuple_of (a := (_ :: _ :: _ : List Value).toArray) (a' := (_ :: _ :: _ : List Value).toArray) (.cons hv (.cons hv2 ht2))

end Go.Ideal

end
section
/- A region that draws its order: whatever order it is, the ideal interpreter's answers in the text's order are the model's. Over any program. -/
set_option linter.unusedVariables false
set_option linter.unusedSimpArgs false
namespace Go.Ideal
open Go.RowKit

/-! ### what an operation hangs on -/
theorem flatOp_congr {ts ts2 : List Value} {x : Operand} (h : evI ts x = evI ts2 x) : flatOp ts x = flatOp ts2 x := by
  cases x with
  | global g => rfl
  | tmp t => simp only [flatOp, h]
  | const v => rfl
  | func f => rfl

theorem parts_congr {ts ts2 : List Value} : ∀ (l : List (Nat × Operand)), (∀ x ∈ l.map (·.2), evI ts x = evI ts2 x) → (l.map fun p => (p.1, evI ts p.2)) = l.map fun p => (p.1, evI ts2 p.2)
  | [], _ => rfl
  | p :: l, h => by simp only [List.map_cons]; rw [h p.2 (by simp), parts_congr l fun x hx => h x (by simp at hx ⊢; exact .inr hx)]

theorem opt_congr {ts ts2 : List Value} {x : Option Operand} (h : ∀ y ∈ x.toList, evI ts y = evI ts2 y) : x.map (evI ts) = x.map (evI ts2) := by
  cases x with
  | none => rfl
  | some x => simp [h x (by simp)]

theorem list_congr {ts ts2 : List Value} {l : List Operand} (h : ∀ y ∈ l, evI ts y = evI ts2 y) : l.map (evI ts) = l.map (evI ts2) := List.map_congr_left h

theorem all_flat_congr {ts ts2 : List Value} {l : List Operand} (h : ∀ y ∈ l, evI ts y = evI ts2 y) : l.all (flatOp ts) = l.all (flatOp ts2) := by
  induction l with
  | nil => rfl
  | cons x l ih => simp only [List.all_cons]; rw [flatOp_congr (h x (by simp)), ih fun y hy => h y (by simp [hy])]

theorem opB_congr (P : Program) {o : Oper} {ts ts2 : List Value} (h : Heap) (hx : ∀ x ∈ o.op.operands, evI ts x = evI ts2 x) : opB P o ts h = opB P o ts2 h := by
  obtain ⟨dst, op, ty, pos, after, guard⟩ := o
  cases op <;> simp only [Op.operands] at hx <;> simp only [opB]
  case build t ps => rw [parts_congr ps.toList fun x hx' => hx x (by simpa using hx')]
  case buildSlice t n ps => rw [parts_congr ps.toList fun x hx' => hx x (by simpa using hx')]
  case binOp op t x y t2 =>
    have h1 := hx x (by simp); have h2 := hx y (by simp)
    rw [flatOp_congr h1, flatOp_congr h2, h1, h2, execOp_congr (ρ := evI ts) (ρ' := evI ts2) ⟨dst, .binOp op t x y t2, ty, pos, after, guard⟩ (by intro cs b hh; cases hh) (by simpa [Op.operands] using ⟨h1, h2⟩)]
  case unOp op t x =>
    have h1 := hx x (by simp)
    rw [flatOp_congr h1, execOp_congr (ρ := evI ts) (ρ' := evI ts2) ⟨dst, .unOp op t x, ty, pos, after, guard⟩ (by intro cs b hh; cases hh) (by simpa [Op.operands] using h1)]
  case convert s d x => have h1 := hx x (by simp); rw [flatOp_congr h1, h1]
  case makeFunc fn x y => rw [list_congr fun z hz => hx z (by simp at hz ⊢; exact .inl hz), list_congr (l := y.toList) fun z hz => hx z (by simp at hz ⊢; exact .inr hz)]
  case slice t x lo hi mx =>
    rw [hx x (by simp), opt_congr (x := lo) fun z hz => hx z (by simp at hz ⊢; exact .inr (.inl hz)), opt_congr (x := hi) fun z hz => hx z (by simp at hz ⊢; exact .inr (.inr (.inl hz))),
      opt_congr (x := mx) fun z hz => hx z (by simp at hz ⊢; exact .inr (.inr (.inr hz)))]
  case next x b => cases b <;> simp only [opB]; rw [hx x (by simp)]
  case call c =>
    obtain ⟨callee, args, argTypes⟩ := c
    cases callee with
    | value f => rfl
    | invoke r m => rfl
    | builtin b =>
      have hl : ∀ y ∈ args.toList, evI ts y = evI ts2 y := fun y hy => hx y (by simpa [Call.operands] using hy)
      simp only [opB]
      rw [list_congr hl, all_flat_congr hl, execOp_congr (ρ := evI ts) (ρ' := evI ts2) ⟨dst, .call ⟨.builtin b, args, argTypes⟩, ty, pos, after, guard⟩ (by intro cs b hh; cases hh) (by intro y hy; exact hl y (by simpa [Op.operands, Call.operands] using hy))]
  all_goals (try rfl)
  all_goals (simp_all; done)


theorem builtin_still {P : Program} {b : Builtin} (hb : b = .len ∨ b = .max ∨ b = .min) (argTypes : Array TypeId) (l : List Value) (h h2 : Heap) : builtinI P h2 b argTypes l = (builtinI P h b argTypes l).map fun x => (x.1, h2) := by
  rcases hb with rfl | rfl | rfl
  · match l with
    | [] => rfl
    | [x] => simp only [builtinI]; (repeat' split) <;> simp_all
    | _ :: _ :: _ => rfl
  · match l with
    | [] => rfl
    | [x] => cases x <;> rfl
    | [x, y] => cases x <;> cases y <;> rfl
    | x :: y :: _ :: _ => cases x <;> first | rfl | (cases y <;> rfl)
  · match l with
    | [] => rfl
    | [x] => cases x <;> rfl
    | [x, y] => cases x <;> cases y <;> rfl
    | x :: y :: _ :: _ => cases x <;> first | rfl | (cases y <;> rfl)

theorem quietB_heap {P : Program} {pf : FuncId → Bool} {o : Oper} {ts : List Value} {h h' : Heap} {v : Value} (hq : isLoud P pf o.op = false) (he : opB P o ts h = some (v, h')) : h' = h := by
  have bind_same : ∀ {x : Option Next}, (x.bind fun
      | .value v => if flat v then some (v, h) else none
      | _ => none) = some (v, h') → h' = h := fun {x} hx => by
    cases x with
    | none => cases hx
    | some nx => cases nx <;> simp only [Option.bind_some] at hx <;> first | (cases hx; done) | (simp only [Option.ite_none_right_eq_some, Option.some.injEq, Prod.mk.injEq] at hx; exact hx.2.2.symm)
  have map_same : ∀ {α : Type} {f : α → Value} {x : Option α}, (x.map fun v => (f v, h)) = some (v, h') → h' = h := fun {α f x} hx => by
    cases x with
    | none => cases hx
    | some u => simp only [Option.map_some, Option.some.injEq, Prod.mk.injEq] at hx; exact hx.2.symm
  obtain ⟨dst, op, ty, pos, after, guard⟩ := o
  cases op <;> (try simp only [isLoud, Bool.true_eq_false] at hq) <;> (try simp only [opB] at he)
  case call c =>
    obtain ⟨callee, args, argTypes⟩ := c
    cases callee with
    | value f => simp [opB] at he
    | invoke r m => simp [isLoud] at hq
    | builtin b =>
      have hbb : b = .len ∨ b = .max ∨ b = .min := by cases b <;> simp [isLoud] at hq <;> simp
      simp only [opB] at he
      split at he
      · rename_i r hr
        simp only [Option.some.injEq] at he; subst he
        have := builtin_still (P := P) hbb argTypes (args.toList.map (evI ts)) h h
        rw [hr] at this
        simp only [Option.map_some, Option.some.injEq, Prod.mk.injEq, true_and] at this
        exact this
      · split at he
        · exact bind_same he
        · cases he
  case buildSlice t n ps =>
    split at he
    · split at he
      · simp only [hq, Bool.and_false, Bool.false_eq_true, if_false] at he; cases he
      · cases he
    · cases he
  case convert s d x =>
    split at he
    · rename_i hd _; simp [hd] at hq
    · split at he
      · split at he
        · simp only [Option.some.injEq, Prod.mk.injEq] at he; exact he.2.symm
        · split at he
          · exact (by
              generalize bytesI _ = bx at he
              cases bx with
              | none => cases he
              | some l => simp only [Option.map_some, Option.some.injEq, Prod.mk.injEq] at he; exact he.2.symm)
          · cases he
      · cases he
    · simp only [Option.ite_none_right_eq_some] at he
      generalize pureRun _ _ = px at he
      cases px with
      | none => simp at he
      | some u => simp only [Option.bind_some, Option.ite_none_right_eq_some, Option.some.injEq, Prod.mk.injEq] at he; exact he.2.2.2.symm
  all_goals
    first
      | (simp only [Option.some.injEq, Prod.mk.injEq] at he; exact he.2.symm)
      | exact map_same he
      | ((repeat' split at he) <;> first
          | (cases he; done)
          | exact map_same he
          | exact bind_same he
          | (simp only [Option.some.injEq, Prod.mk.injEq] at he; exact he.2.symm)
          | (simp only [Option.ite_none_right_eq_some, Option.some.injEq, Prod.mk.injEq] at he; exact he.2.2.symm)
          | (simp only [Option.ite_none_right_eq_some] at he; exact map_same he.2))

theorem pureB_any {P : Program} {pf : FuncId → Bool} {o : Oper} {ts : List Value} {h : Heap} {v : Value} (hq : isLoud P pf o.op = false) (hr : readsHeap o.op = false) (he : opB P o ts h = some (v, h)) (h2 : Heap) : opB P o ts h2 = some (v, h2) := by
  obtain ⟨dst, op, ty, pos, after, guard⟩ := o
  have map_any : ∀ {α : Type} {f : α → Value} {x : Option α}, (x.map fun v => (f v, h)) = some (v, h) → (x.map fun v => (f v, h2)) = some (v, h2) := fun {α f x} hx => by
    cases x with
    | none => cases hx
    | some u => simp only [Option.map_some, Option.some.injEq, Prod.mk.injEq] at hx ⊢; exact ⟨hx.1, trivial⟩
  have bind_any : ∀ {x : Option Next}, (x.bind fun
      | .value v => if flat v then some (v, h) else none
      | _ => none) = some (v, h) → (x.bind fun
      | .value v => if flat v then some (v, h2) else none
      | _ => none) = some (v, h2) := fun {x} hx => by
    cases x with
    | none => cases hx
    | some nx => cases nx <;> simp only [Option.bind_some] at hx ⊢ <;> first | (cases hx; done) | (simp only [Option.ite_none_right_eq_some, Option.some.injEq, Prod.mk.injEq] at hx ⊢; exact ⟨hx.1, hx.2.1, trivial⟩)
  cases op <;> (try simp only [isLoud, Bool.true_eq_false] at hq) <;> (try simp only [readsHeap, Bool.true_eq_false] at hr) <;> (try simp only [opB] at he ⊢)
  case call c =>
    obtain ⟨callee, args, argTypes⟩ := c
    cases callee with
    | value f => simp [opB] at he
    | invoke r m => simp [isLoud] at hq
    | builtin b =>
      have hbb : b = .len ∨ b = .max ∨ b = .min := by cases b <;> simp [isLoud] at hq <;> simp
      simp only [opB] at he ⊢
      rw [builtin_still hbb argTypes (args.toList.map (evI ts)) h h2]
      cases hc : builtinI P h b argTypes (args.toList.map (evI ts)) with
      | none => rw [hc] at he; simp only [Option.map_none] at he ⊢; split at he <;> first | (simp only [*]; exact bind_any he) | (cases he)
      | some r => rw [hc] at he; simp only [Option.some.injEq] at he; subst he; rfl
  case typeAssert x xt at_ ok =>
    split at he
    · cases he
    · cases he
    · simp only [Option.ite_none_right_eq_some, Option.some.injEq, Prod.mk.injEq] at he ⊢
      exact ⟨he.1, he.2.1, trivial⟩
    · cases he
  all_goals
    first
      | (simp only [Option.some.injEq, Prod.mk.injEq] at he ⊢; exact ⟨he.1, trivial⟩)
      | exact map_any he
      | ((repeat' split at he) <;> first
          | (cases he; done)
          | (simp_all; done)
          | (simp only [*]; exact map_any he)
          | (simp only [*]; exact bind_any he)
          | (simp_all; exact bind_any he))


theorem opV_congr (P : Program) {o : Oper} {ts ts2 : List Value} {told : Option Value} (hx : ∀ x ∈ o.op.operands, evI ts x = evI ts2 x) : opV P o ts told = opV P o ts2 told := by
  obtain ⟨dst, op, ty, pos, after, guard⟩ := o
  cases op <;> simp only [Op.operands] at hx <;> simp only [opV]
  case slice t x lo hi mx =>
    rw [hx x (by simp), opt_congr (x := lo) fun z hz => hx z (by simp at hz ⊢; exact .inr (.inl hz)), opt_congr (x := hi) fun z hz => hx z (by simp at hz ⊢; exact .inr (.inr (.inl hz))),
      opt_congr (x := mx) fun z hz => hx z (by simp at hz ⊢; exact .inr (.inr (.inr hz)))]
  case binOp op t x y t2 =>
    have h1 := hx x (by simp); have h2 := hx y (by simp)
    cases op <;> simp only [opV, h1, h2]
  case call c =>
    obtain ⟨callee, args, argTypes⟩ := c
    cases callee with
    | value f => rfl
    | invoke r m => rfl
    | builtin b =>
      have hl : ∀ y ∈ args.toList, evI ts y = evI ts2 y := fun y hy => hx y (by simpa [Call.operands] using hy)
      cases b <;> simp only [opV]
      rw [list_congr hl]
  case buildSlice t n ps => rw [parts_congr ps.toList fun x hx' => hx x (by simpa using hx')]
  all_goals (try rfl)
  all_goals (simp_all; done)

theorem opH_congr (P : Program) {o : Oper} {ts ts2 : List Value} {h : Heap} {told : Option Value} (hx : ∀ x ∈ o.op.operands, evI ts x = evI ts2 x) : opH P o ts h told = opH P o ts2 h told := by
  obtain ⟨dst, op, ty, pos, after, guard⟩ := o
  cases op <;> simp only [Op.operands] at hx <;> simp only [opH]
  case call c =>
    obtain ⟨callee, args, argTypes⟩ := c
    cases callee with
    | value f => rfl
    | invoke r m => rfl
    | builtin b =>
      have hl : ∀ y ∈ args.toList, evI ts y = evI ts2 y := fun y hy => hx y (by simpa [Call.operands] using hy)
      cases b <;> simp only [opH] <;> rw [list_congr hl]
  all_goals (try rfl)
  all_goals (simp_all; done)

theorem opP_congr (P : Program) {o : Oper} {ts ts2 : List Value} {h : Heap} {told : Option Value} (hx : ∀ x ∈ o.op.operands, evI ts x = evI ts2 x) : opP P o ts h told = opP P o ts2 h told := by
  obtain ⟨dst, op, ty, pos, after, guard⟩ := o
  cases op <;> simp only [Op.operands] at hx <;> (try rfl)
  case call c =>
    obtain ⟨callee, args, argTypes⟩ := c
    cases callee with
    | value f => rfl
    | invoke r m => rfl
    | builtin b =>
      have hl : ∀ y ∈ args.toList, evI ts y = evI ts2 y := fun y hy => hx y (by simpa [Call.operands] using hy)
      cases b <;> simp only [opP] <;> rw [list_congr hl]
  case slice t x lo hi mx =>
    cases mx with
    | some m =>
      cases lo with
      | some _ => rfl
      | none =>
        cases hi with
        | none => rfl
        | some y =>
          have e0 : evI ts x = evI ts2 x := hx x (by simp)
          have e1 : evI ts y = evI ts2 y := hx y (by simp)
          have e2 : evI ts m = evI ts2 m := hx m (by simp)
          simp only [opP, e0, e1, e2]
    | none =>
      have e0 : evI ts x = evI ts2 x := hx x (by simp)
      have e1 : lo.map (evI ts) = lo.map (evI ts2) := by
        cases lo with
        | none => rfl
        | some y => simp [hx y (by simp)]
      have e2 : hi.map (evI ts) = hi.map (evI ts2) := by
        cases hi with
        | none => rfl
        | some y => simp [hx y (by simp)]
      simp only [opP, e0, e1, e2]
  case binOp op t x y t2 =>
    have e0 : evI ts x = evI ts2 x := hx x (by simp)
    have e1 : evI ts y = evI ts2 y := hx y (by simp)
    cases op <;> simp only [opP, e0, e1]
  all_goals (simp only [opP]; simp_all; done)

theorem opI_congr (P : Program) {o : Oper} {ts ts2 : List Value} (h : Heap) (hx : ∀ x ∈ o.op.operands, evI ts x = evI ts2 x) : opI P o ts h = opI P o ts2 h := by
  unfold opI
  rw [opB_congr P h hx, opV_congr P hx, opH_congr P hx, opP_congr P hx]

theorem quietH_none {P : Program} {pf : FuncId → Bool} {o : Oper} {ts : List Value} {h : Heap} {told : Option Value} (hq : isLoud P pf o.op = false) : opH P o ts h told = none := by
  obtain ⟨dst, op, ty, pos, after, guard⟩ := o
  cases op <;> (try simp only [isLoud, Bool.true_eq_false] at hq) <;> (try rfl)
  case call c =>
    obtain ⟨callee, args, argTypes⟩ := c
    cases callee with
    | value f => rfl
    | invoke r m => rfl
    | builtin b =>
      cases b <;> (try simp only [isLoud, Bool.true_eq_false] at hq) <;> (try rfl)
      simp only [opH]
      split
      · rename_i i t ea h0
        split
        · rename_i kt et ks vs hu hm
          rw [h0] at hq
          simp only [Option.bind_some, hu, Bool.true_eq_false] at hq
        · rfl
      · rfl

theorem quietP_heap {P : Program} {pf : FuncId → Bool} {o : Oper} {ts : List Value} {h h' : Heap} {told : Option Value} {v : Value} {l : List Ask} (hq : isLoud P pf o.op = false) (he : opP P o ts h told = some (v, h', l)) : h' = h := by
  obtain ⟨dst, op, ty, pos, after, guard⟩ := o
  cases op <;> (try simp only [isLoud, Bool.true_eq_false] at hq) <;> (try (cases he; done))
  case call c =>
    obtain ⟨callee, args, argTypes⟩ := c
    cases callee with
    | value f => cases he
    | invoke r m => cases he
    | builtin b =>
      cases b <;> (try simp only [isLoud, Bool.true_eq_false] at hq) <;> (try (cases he; done))
      simp only [opP] at he
      repeat' split at he
      all_goals first | (cases he; done) | (simp only [Option.some.injEq, Prod.mk.injEq] at he; exact he.2.1.symm)
  case binOp op t x y t2 =>
    cases op <;> simp only [opP] at he <;> (try (cases he; done))
    all_goals
      repeat' split at he
      all_goals first | (cases he; done) | (simp only [Option.some.injEq, Prod.mk.injEq] at he; exact he.2.1.symm)
  case slice t x lo hi mx =>
    cases mx with
    | some m =>
      cases lo with
      | some _ => cases he
      | none =>
        cases hi with
        | none => cases he
        | some y =>
          simp only [opP] at he
          repeat' split at he
          all_goals first | (cases he; done) | (simp only [Option.some.injEq, Prod.mk.injEq] at he; exact he.2.1.symm)
    | none =>
      simp only [opP] at he
      repeat' split at he
      all_goals first | (cases he; done) | (simp only [Option.some.injEq, Prod.mk.injEq] at he; exact he.2.1.symm)
  all_goals
    simp only [opP] at he
    repeat' split at he
    all_goals first | (cases he; done) | (simp only [Option.some.injEq, Prod.mk.injEq] at he; exact he.2.1.symm)

theorem pureP_any {P : Program} {pf : FuncId → Bool} {o : Oper} {ts : List Value} {h : Heap} {told : Option Value} (hq : isLoud P pf o.op = false) (hr : readsHeap o.op = false) (h2 : Heap) : opP P o ts h2 told = (opP P o ts h told).map fun r => (r.1, h2, r.2.2) := by
  obtain ⟨dst, op, ty, pos, after, guard⟩ := o
  cases op <;> (try simp only [isLoud, Bool.true_eq_false] at hq) <;> (try simp only [readsHeap, Bool.true_eq_false] at hr) <;> (try rfl)
  case call c =>
    obtain ⟨callee, args, argTypes⟩ := c
    cases callee with
    | value f => rfl
    | invoke r m => rfl
    | builtin b =>
      cases b <;> (try simp only [isLoud, Bool.true_eq_false] at hq) <;> (try rfl)
      simp only [opP]
      repeat' split
      all_goals first | rfl | simp_all
  case binOp op t x y t2 =>
    cases op <;> (try rfl)
    all_goals
      simp only [opP]
      repeat' split
      all_goals first | rfl | simp_all
  all_goals
    simp only [opP]
    repeat' split
    all_goals first | rfl | simp_all

theorem quiet_heap {P : Program} {pf : FuncId → Bool} {o : Oper} {ts : List Value} {h h' : Heap} {v : Value} (hq : isLoud P pf o.op = false) (he : opI P o ts h = some (v, h')) : h' = h := by
  unfold opI at he
  split at he
  · rename_i r hr; simp only [Option.some.injEq] at he; subst he; exact quietB_heap hq hr
  · split at he
    · split at he
      · simp only [Option.some.injEq, Prod.mk.injEq] at he; exact he.2.symm
      · cases he
    · rw [quietH_none hq] at he
      simp only at he
      split at he
      · rename_i hp
        split at he
        · simp only [Option.some.injEq, Prod.mk.injEq] at he; rw [← he.2]; exact quietP_heap hq hp
        · cases he
      · cases he

theorem pure_any {P : Program} {pf : FuncId → Bool} {o : Oper} {ts : List Value} {h : Heap} {v : Value} (hq : isLoud P pf o.op = false) (hr : readsHeap o.op = false) (he : opI P o ts h = some (v, h)) (h2 : Heap) : opI P o ts h2 = some (v, h2) := by
  unfold opI at he ⊢
  split at he
  · rename_i r hb
    simp only [Option.some.injEq] at he; subst he
    rw [pureB_any hq hr hb h2]
  · rename_i hb
    have hb2 : opB P o ts h2 = none := by
      cases hc : opB P o ts h2 with
      | none => rfl
      | some r =>
        obtain ⟨u, h3⟩ := r
        have := quietB_heap hq hc
        subst this
        rw [pureB_any hq hr hc h] at hb; cases hb
    rw [hb2]
    simp only
    split at he
    · split at he
      · rename_i ht; simp only [Option.some.injEq, Prod.mk.injEq] at he; rw [he.1]
      · cases he
    · rw [quietH_none hq] at he ⊢
      simp only at he ⊢
      rw [pureP_any hq hr h2 (h := h)]
      split at he
      · rename_i hp
        rw [hp]
        simp only [Option.map_some]
        split at he
        · rename_i ht; simp only [Option.some.injEq, Prod.mk.injEq] at he; simp only [ht, he.1]
        · cases he
      · cases he

/-- Of these functions a call touches no memory, and hangs on none. -/
def PureCall (call : CallI) (pf : FuncId → Bool) : Prop :=
  ∀ f, pf f = true → ∀ args h v h', call f args h = some (v, h') → h' = h ∧ ∀ h2, call f args h2 = some (v, h2)

theorem operI_reads {P : Program} {call : CallI} {o : Oper} (hr : readsHeap o.op = true) (ts : List Value) (h : Heap) : operI P call o ts h = opI P o ts h := by
  unfold operI
  split
  · rename_i c hc; rw [hc] at hr; simp [readsHeap] at hr
  · rfl

theorem quietI_heap {P : Program} {pf : FuncId → Bool} {call : CallI} (hp : PureCall call pf) {o : Oper} {ts : List Value} {h h' : Heap} {v : Value} (hq : isLoud P pf o.op = false) (he : operI P call o ts h = some (v, h')) :
    h' = h ∧ (readsHeap o.op = false → ∀ h2, operI P call o ts h2 = some (v, h2)) := by
  unfold operI at he ⊢
  split at he
  · rename_i c hc
    split at he
    · have hh := quiet_heap hq he
      subst hh
      exact ⟨rfl, fun hr h2 => pure_any hq hr he h2⟩
    · rename_i hnb
      rw [hc] at hq
      obtain ⟨callee, args, argTypes⟩ := c
      cases callee with
      | builtin b => exact absurd rfl (hnb b)
      | invoke r m => simp [isLoud] at hq
      | value x =>
        cases x with
        | func f =>
          have hpf : pf f = true := by simpa [isLoud] using hq
          simp only [calleeI] at he ⊢
          obtain ⟨k1, k2⟩ := hp f hpf _ _ _ _ he
          exact ⟨k1, fun _ h2 => k2 h2⟩
        | tmp t => simp [isLoud] at hq
        | const v => simp [isLoud] at hq
        | global g => simp [isLoud] at hq
  · rename_i hnc
    have hh := quiet_heap hq he
    subst hh
    exact ⟨rfl, fun hr h2 => pure_any hq hr he h2⟩

end Go.Ideal

end
section
/- A region that draws its order: the proof that any order does. Over any program. -/
set_option linter.unusedVariables false
set_option linter.unusedSimpArgs false
namespace Go.Ideal
open Go.RowKit

variable {P : Program} {B : Nat} {w0 : Org} {pf : FuncId → Bool}

/-! ### the trace -/
def tsAt (ents : List Ent) (tf : List Value) (m : Nat) : List Value := match ents[m]? with
  | some e => e.ts
  | none => tf

def valAt (ents : List Ent) (m : Nat) : Value := match ents[m]? with
  | some e => e.val
  | none => Go.undef

structure Step (P : Program) (call : Nat → CallI) (all : List Oper) (ents : List Ent) (tf : List Value) (hf : Heap) (i : Nat) (o : Oper) (e : Ent) : Prop where
  at_ : ents[i]? = some e
  h : e.h = heapAt ents hf i
  ts : e.ts = tsAt ents tf i
  wanted : e.wanted = wantedI o all e.ts
  yes : e.wanted = true → operI P (call i) o e.ts e.h = some (e.val, heapAt ents hf (i + 1))
  no : e.wanted = false → e.val = Go.undef ∧ heapAt ents hf (i + 1) = e.h
  next : tsAt ents tf (i + 1) = putI e.ts o.dst e.val

theorem heapAt_cons (e : Ent) (es : List Ent) (hf : Heap) (i : Nat) : heapAt (e :: es) hf (i + 1) = heapAt es hf i := rfl
theorem tsAt_cons (e : Ent) (es : List Ent) (tf : List Value) (i : Nat) : tsAt (e :: es) tf (i + 1) = tsAt es tf i := rfl

theorem trace_facts {call : Nat → CallI} {all : List Oper} : ∀ {l : List Oper} {ts tf : List Value} {h hf : Heap} {ents : List Ent}, opsT P call all l ts h = some (ents, tf, hf) →
    ents.length = l.length ∧ heapAt ents hf 0 = h ∧ tsAt ents tf 0 = ts ∧ ∀ (i : Nat) (o : Oper), l[i]? = some o → ∃ e, Step P call all ents tf hf i o e
  | [], ts, tf, h, hf, ents, ht => by
    simp only [opsT, Option.some.injEq, Prod.mk.injEq] at ht; obtain ⟨rfl, rfl, rfl⟩ := ht
    exact ⟨rfl, rfl, rfl, fun i o hi => by simp at hi⟩
  | o :: l, ts, tf, h, hf, ents, ht => by
    have glue : ∀ {e : Ent} {es : List Ent} {h1 : Heap}, opsT P (fun n => call (n + 1)) all l (putI ts o.dst e.val) h1 = some (es, tf, hf) → e.h = h → e.ts = ts → e.wanted = wantedI o all ts →
        (e.wanted = true → operI P (call 0) o ts h = some (e.val, h1)) → (e.wanted = false → e.val = Go.undef ∧ h1 = h) →
        (e :: es).length = (o :: l).length ∧ heapAt (e :: es) hf 0 = h ∧ tsAt (e :: es) tf 0 = ts ∧ ∀ (i : Nat) (o' : Oper), (o :: l)[i]? = some o' → ∃ e', Step P call all (e :: es) tf hf i o' e' := fun {e es h1} hr eh ets ew ey en => by
      obtain ⟨k1, k2, k3, k4⟩ := trace_facts hr
      refine ⟨by simp [k1], eh, ets, fun i o' hi => ?_⟩
      cases i with
      | zero =>
        simp only [List.getElem?_cons_zero, Option.some.injEq] at hi; subst hi
        refine ⟨e, rfl, rfl, rfl, by rw [ets]; exact ew, fun hw => ?_, fun hw => ?_, ?_⟩
        · rw [heapAt_cons, k2, ets, eh]; exact ey hw
        · rw [heapAt_cons, k2, eh]; exact en hw
        · rw [tsAt_cons, k3, ets]
      | succ i =>
        obtain ⟨e', q⟩ := k4 i o' (by simpa using hi)
        exact ⟨e', q.at_, q.h, q.ts, q.wanted, q.yes, q.no, q.next⟩
    simp only [opsT] at ht
    split at ht
    · rename_i hw
      split at ht
      · rename_i v h1 ho
        split at ht
        · rename_i es r hr
          simp only [Option.some.injEq, Prod.mk.injEq] at ht; obtain ⟨rfl, rfl⟩ := ht
          exact glue (e := ⟨true, v, ts, h⟩) hr rfl rfl hw.symm (fun _ => ho) (fun h => by cases h)
        · cases ht
      · cases ht
    · rename_i hw
      split at ht
      · rename_i es r hr
        simp only [Option.some.injEq, Prod.mk.injEq] at ht; obtain ⟨rfl, rfl⟩ := ht
        exact glue (e := ⟨false, Go.undef, ts, h⟩) hr rfl rfl (by cases hq : wantedI o all ts with | true => exact absurd hq hw | false => rfl) (fun h => by cases h) (fun _ => ⟨rfl, rfl⟩)
      · cases ht

/-! ### what must come ahead -/
theorem preOf_spec (acc : List Nat) (j : Nat) : ∀ (es : List Edge) (s : Nat), (preOf acc es s).testBit j = true → s.testBit j = true ∨ ∃ e ∈ es, Region.binds .any e = true ∧ (e.on = j ∨ (acc.getD e.on 0).testBit j = true)
  | [], s, h => .inl h
  | e :: es, s, h => by
    simp only [preOf] at h
    rcases preOf_spec acc j es _ h with h1 | ⟨e', h1, h2⟩
    · split at h1
      · rename_i hb
        simp only [Nat.testBit_or, Bool.or_eq_true, Nat.testBit_two_pow, decide_eq_true_eq] at h1
        rcases h1 with (h1 | h1) | h1
        · exact .inl h1
        · exact .inr ⟨e, by simp, hb, .inl h1⟩
        · exact .inr ⟨e, by simp, hb, .inr h1⟩
      · exact .inl h1
    · exact .inr ⟨e', by simp [h1], h2⟩

theorem pres_prefix : ∀ (l : List Oper) (acc : List Nat) (i : Nat), i < acc.length → (pres l acc).getD i 0 = acc.getD i 0
  | [], _, _, _ => rfl
  | o :: l, acc, i, h => by
    simp only [pres]
    rw [pres_prefix l _ i (by simp; omega)]
    simp [List.getElem?_append_left h]

theorem pres_bit : ∀ (l : List Oper) (acc : List Nat) (i : Nat) (o : Oper), l[i]? = some o → ∀ j, ((pres l acc).getD (acc.length + i) 0).testBit j = true →
    ∃ e ∈ o.after.toList, Region.binds .any e = true ∧ (e.on = j ∨ ((pres l acc).getD e.on 0).testBit j = true)
  | [], _, _, _, h, _, _ => by simp at h
  | o' :: l, acc, 0, o, h, j, hb => by
    simp only [List.getElem?_cons_zero, Option.some.injEq] at h; subst h
    simp only [pres, Nat.add_zero] at hb ⊢
    rw [pres_prefix l _ _ (by simp)] at hb
    have : (acc ++ [preOf acc o'.after.toList 0]).getD acc.length 0 = preOf acc o'.after.toList 0 := by simp
    rw [this] at hb
    rcases preOf_spec acc j _ _ hb with h1 | ⟨e, h1, h2, h3⟩
    · simp at h1
    · refine ⟨e, h1, h2, h3.imp id fun h3 => ?_⟩
      have hlt : e.on < acc.length := by
        rcases Nat.lt_or_ge e.on acc.length with hl | hl
        · exact hl
        · have : acc.getD e.on 0 = 0 := by simp [List.getD, List.getElem?_eq_none hl]
          rw [this] at h3; simp at h3
      rw [pres_prefix l _ _ (by simp; omega)]
      have : (acc ++ [preOf acc o'.after.toList 0]).getD e.on 0 = acc.getD e.on 0 := by simp [List.getElem?_append_left hlt]
      rw [this]; exact h3
  | o' :: l, acc, i + 1, o, h, j, hb => by
    simp only [pres] at hb ⊢
    refine pres_bit l (acc ++ [preOf acc o'.after.toList 0]) i o (by simpa using h) j ?_
    rw [← hb]; congr 2; simp; omega

/-! ### pairs -/
theorem row_spec {ops : Array Oper} {pre : List Nat} {i : Nat} {oi : Oper} : ∀ (l : List Oper) (k : Nat), rowOK P pf ops pre i oi k l = true → ∀ (j : Nat) (oj : Oper), l[j]? = some oj → pairOK P pf ops pre i (k + j) oi oj = true
  | [], _, _, j, oj, h => by simp at h
  | o :: l, k, hr, j, oj, h => by
    simp only [rowOK, Bool.and_eq_true] at hr
    cases j with
    | zero => simp only [List.getElem?_cons_zero, Option.some.injEq] at h; subst h; exact hr.1
    | succ j =>
      have := row_spec l (k + 1) hr.2 j oj (by simpa using h)
      rwa [show k + 1 + j = k + (j + 1) by omega] at this

theorem pairs_spec {ops : Array Oper} {pre : List Nat} : ∀ (l : List Oper) (k : Nat), pairsOK P pf ops pre k l = true →
    (∀ (i : Nat) (oi : Oper), l[i]? = some oi → edgesOK (k + i) oi = true) ∧ ∀ (i j : Nat) (oi oj : Oper), i < j → l[i]? = some oi → l[j]? = some oj → pairOK P pf ops pre (k + i) (k + j) oi oj = true
  | [], _, _ => ⟨fun i oi h => by simp at h, fun i j oi oj _ h => by simp at h⟩
  | o :: l, k, hp => by
    simp only [pairsOK, Bool.and_eq_true] at hp
    obtain ⟨⟨h0, h1⟩, h2⟩ := hp
    obtain ⟨q1, q2⟩ := pairs_spec l (k + 1) h2
    refine ⟨fun i oi hi => ?_, fun i j oi oj hij hi hj => ?_⟩
    · cases i with
      | zero => simp only [List.getElem?_cons_zero, Option.some.injEq] at hi; subst hi; exact h0
      | succ i => have := q1 i oi (by simpa using hi); rwa [show k + 1 + i = k + (i + 1) by omega] at this
    · cases j with
      | zero => omega
      | succ j =>
        cases i with
        | zero =>
          simp only [List.getElem?_cons_zero, Option.some.injEq] at hi; subst hi
          have := row_spec l (k + 1) h1 j oj (by simpa using hj)
          rwa [show k + 1 + j = k + (j + 1) by omega] at this
        | succ i =>
          have := q2 i j oi oj (by omega) (by simpa using hi) (by simpa using hj)
          rwa [show k + 1 + j = k + (j + 1) by omega, show k + 1 + i = k + (i + 1) by omega] at this

theorem louds_spec : ∀ (l : List Oper) (k x : Nat), x ∈ loudBits P pf l k → ∃ i o, x = k + i ∧ l[i]? = some o ∧ isLoud P pf o.op = true
  | [], _, _, h => by simp [loudBits] at h
  | o :: l, k, x, h => by
    simp only [loudBits] at h
    have rec_ : x ∈ loudBits P pf l (k + 1) → ∃ i o', x = k + i ∧ (o :: l)[i]? = some o' ∧ isLoud P pf o'.op = true := fun h => by
      obtain ⟨i, o', e, h1, h2⟩ := louds_spec l (k + 1) x h
      exact ⟨i + 1, o', by omega, by simpa using h1, h2⟩
    split at h
    · rename_i hl
      rcases List.mem_cons.1 h with rfl | h
      · exact ⟨0, o, rfl, rfl, hl⟩
      · exact rec_ h
    · exact rec_ h

theorem fixed_spec {pre louds : List Nat} {all : List Oper} : ∀ (l : List Oper) (k : Nat), readsFixed P pf pre louds all k l = true → ∀ (i : Nat) (o : Oper), l[i]? = some o → readsHeap o.op = true → isLoud P pf o.op = false →
    ∀ x ∈ louds, (pre.getD (k + i) 0).testBit x = true ∨ (pre.getD x 0).testBit (k + i) = true ∨ (isLoad o.op = true ∧ k + i < x ∧ allocAt all x = true)
  | [], _, _, i, o, h, _, _, _, _ => by simp at h
  | o' :: l, k, hr, i, o, h, h1, h2, x, hx => by
    simp only [readsFixed, Bool.and_eq_true] at hr
    cases i with
    | zero =>
      simp only [List.getElem?_cons_zero, Option.some.injEq] at h; subst h
      have := hr.1
      simp only [h1, h2, Bool.not_false, Bool.and_self, Bool.not_true, Bool.false_or] at this
      have := List.all_eq_true.1 this x hx
      simpa [or_assoc, and_assoc] using this
    | succ i =>
      have := fixed_spec l (k + 1) hr.2 i o (by simpa using h) h1 h2 x hx
      rwa [show k + 1 + i = k + (i + 1) by omega] at this

theorem louds_mem : ∀ (l : List Oper) (k i : Nat) (o : Oper), l[i]? = some o → isLoud P pf o.op = true → k + i ∈ loudBits P pf l k
  | [], _, i, o, h, _ => by simp at h
  | o' :: l, k, i, o, h, hl => by
    simp only [loudBits]
    cases i with
    | zero => simp only [List.getElem?_cons_zero, Option.some.injEq] at h; subst h; simp [hl]
    | succ i =>
      have := louds_mem l (k + 1) i o (by simpa using h) hl
      rw [show k + 1 + i = k + (i + 1) by omega] at this
      split
      · exact List.mem_cons_of_mem _ this
      · exact this

theorem readOK_spec {pre louds : List Nat} {ents : List Ent} {hf : Heap} {i : Nat} {o : Oper} {e : Ent} : ∀ (k : Nat), readOK P pre louds ents hf i o e k = true → ∀ m, m < k → feasible pre louds i m = true →
    ∃ v h2, opI P o e.ts (heapAt ents hf m) = some (v, h2) ∧ v = e.val
  | 0, _, m, hm, _ => absurd hm (Nat.not_lt_zero _)
  | k + 1, hr, m, hm, hfe => by
    simp only [readOK, Bool.and_eq_true] at hr
    rcases Nat.lt_or_ge m k with h | h
    · exact readOK_spec k hr.2 m h hfe
    · obtain rfl : m = k := by omega
      have := hr.1
      rw [hfe] at this
      simp only [Bool.not_true, Bool.false_or] at this
      split at this
      · rename_i v h2 hv
        exact ⟨v, h2, hv, sameN_eq 4 _ _ this⟩
      · cases this

theorem reads_spec {pre louds : List Nat} {ents : List Ent} {hf : Heap} : ∀ (l : List Oper) (es : List Ent) (k : Nat), readsOK P pf pre louds ents hf k l es = true → ∀ (i : Nat) (o : Oper) (e : Ent), l[i]? = some o → es[i]? = some e →
    readsHeap o.op = true → isLoud P pf o.op = false → e.wanted = true → readOK P pre louds ents hf (k + i) o e (ents.length + 1) = true
  | [], _, _, _, i, o, e, h, _, _, _, _ => by simp at h
  | _ :: _, [], _, _, i, o, e, _, h, _, _, _ => by simp at h
  | o' :: l, e' :: es, k, hr, i, o, e, hi, he, h1, h2, h3 => by
    simp only [readsOK, Bool.and_eq_true] at hr
    cases i with
    | zero =>
      simp only [List.getElem?_cons_zero, Option.some.injEq] at hi he; subst hi; subst he
      have := hr.1
      simpa [h1, h2, h3] using this
    | succ i =>
      have := reads_spec l es (k + 1) hr.2 i o e (by simpa using hi) (by simpa using he) h1 h2 h3
      rwa [show k + 1 + i = k + (i + 1) by omega] at this

/-! ### the frame behind some of the operations -/
def curL (D : Nat → Bool) (val : Nat → Value) : List Oper → Nat → List Value → List Value
  | [], _, ts => ts
  | o :: r, k, ts => curL D val r (k + 1) (if D k then putI ts o.dst (val k) else ts)

theorem putI_length (ts : List Value) (dst : Option Tmp) (v : Value) : (putI ts dst v).length = ts.length := by cases dst <;> simp [putI]
theorem curL_length (D : Nat → Bool) (val : Nat → Value) : ∀ (l : List Oper) (k : Nat) (ts : List Value), (curL D val l k ts).length = ts.length
  | [], _, _ => rfl
  | o :: l, k, ts => by simp only [curL]; rw [curL_length D val l]; split <;> simp [putI_length]

theorem putI_ne {ts : List Value} {dst : Option Tmp} {v : Value} {t : Nat} (h : dst ≠ some t) : (putI ts dst v).getD t Go.undef = ts.getD t Go.undef := by
  cases dst with
  | none => rfl
  | some d =>
    have : d ≠ t := fun e => h (by rw [e])
    simp [putI, List.getD, List.getElem?_set_ne this]
theorem putI_eq {ts : List Value} {v : Value} {t : Nat} (h : t < ts.length) : (putI ts (some t) v).getD t Go.undef = v := by
  simp [putI, List.getD, List.getElem?_set_self h]

theorem getD_ge {ts : List Value} {t : Nat} (h : ts.length ≤ t) : ts.getD t Go.undef = Go.undef := by simp [List.getD, List.getElem?_eq_none h]

theorem curL_agree {D D2 : Nat → Bool} {val : Nat → Value} {t : Nat} : ∀ (l : List Oper) (k : Nat) (ts ts2 : List Value), ts.length = ts2.length → ts.getD t Go.undef = ts2.getD t Go.undef →
    (∀ (i : Nat) (o : Oper), l[i]? = some o → o.dst = some t → D (k + i) = D2 (k + i)) → (curL D val l k ts).getD t Go.undef = (curL D2 val l k ts2).getD t Go.undef
  | [], _, _, _, _, h, _ => h
  | o :: l, k, ts, ts2, hl, h, hd => by
    simp only [curL]
    refine curL_agree l (k + 1) _ _ ?_ ?_ fun i o' hi hdst => ?_
    · split <;> split <;> simp [putI_length, hl]
    · by_cases e : o.dst = some t
      · have := hd 0 o rfl e
        simp only [Nat.add_zero] at this
        rw [this]
        split
        · rw [e]
          rcases Nat.lt_or_ge t ts.length with hlt | hge
          · rw [putI_eq hlt, putI_eq (by omega)]
          · rw [getD_ge (by rw [putI_length]; omega), getD_ge (by rw [putI_length]; omega)]
        · exact h
      · split <;> split <;> (try simp only [putI_ne e]) <;> exact h
    · have := hd (i + 1) o' (by simpa using hi) hdst
      rwa [show k + (i + 1) = k + 1 + i by omega] at this

theorem curL_none {val : Nat → Value} : ∀ (l : List Oper) (k : Nat) (ts : List Value), curL (fun _ => false) val l k ts = ts
  | [], _, _ => rfl
  | o :: l, k, ts => by simp only [curL, Bool.false_eq_true, if_false]; exact curL_none l _ _

theorem curL_last {D : Nat → Bool} {val : Nat → Value} {t : Nat} : ∀ (l : List Oper) (k : Nat) (ts : List Value) (i : Nat) (o : Oper), l[i]? = some o → o.dst = some t → D (k + i) = true → t < ts.length →
    (∀ (j : Nat) (oj : Oper), i < j → l[j]? = some oj → oj.dst = some t → D (k + j) = false) → (curL D val l k ts).getD t Go.undef = val (k + i)
  | [], _, _, _, _, h, _, _, _, _ => by simp at h
  | o' :: l, k, ts, 0, o, h, hd, hD, hlt, hno => by
    simp only [List.getElem?_cons_zero, Option.some.injEq] at h; subst h
    simp only [Nat.add_zero] at hD ⊢
    simp only [curL, hD, if_true]
    rw [curL_agree (D2 := fun _ => false) l (k + 1) _ (putI ts o'.dst (val k)) rfl rfl fun i oi hi hdi => ?_, curL_none, hd, putI_eq hlt]
    have := hno (i + 1) oi (by omega) (by simpa using hi) hdi
    rwa [show k + (i + 1) = k + 1 + i by omega] at this
  | o' :: l, k, ts, i + 1, o, h, hd, hD, hlt, hno => by
    simp only [curL]
    have := curL_last (D := D) (val := val) l (k + 1) (if D k then putI ts o'.dst (val k) else ts) i o (by simpa using h) hd (by rwa [show k + 1 + i = k + (i + 1) by omega]) (by split <;> simp [putI_length, hlt]) fun j oj hj hoj hdj => ?_
    · rwa [show k + 1 + i = k + (i + 1) by omega] at this
    · have := hno (j + 1) oj (by omega) (by simpa using hoj) hdj
      rwa [show k + (j + 1) = k + 1 + j by omega] at this

theorem operI_congr (P : Program) (call : CallI) {o : Oper} {ts ts2 : List Value} (h : Heap) (hx : ∀ x ∈ o.op.operands, evI ts x = evI ts2 x) : operI P call o ts h = operI P call o ts2 h := by
  unfold operI
  split
  · rename_i c hop
    split
    · exact opI_congr P h hx
    · have hargs : c.args.toList.map (evI ts) = c.args.toList.map (evI ts2) := list_congr fun y hy => hx y (by rw [hop]; simp only [Op.operands, Call.operands]; exact Array.mem_append.2 (.inr (by simpa using hy)))
      have hcal : calleeI ts c = calleeI ts2 c := by
        unfold calleeI
        split
        · rw [hargs]
        · rename_i x _ hc
          have : evI ts x = evI ts2 x := hx x (by rw [hop]; simp [Op.operands, Call.operands, hc])
          rw [hargs, this]
        · rfl
      rw [hcal]
  · exact opI_congr P h hx

theorem wantedI_congr {o : Oper} {ops : Array Oper} {ts ts2 : List Value} (hl : ts.length = ts2.length) (hx : ∀ t ∈ o.looksAt ops, ts.getD t Go.undef = ts2.getD t Go.undef) : wantedI o ops.toList ts = wantedI o ops.toList ts2 := by
  unfold wantedI
  cases hg : o.guard with
  | none => rfl
  | some gw =>
    obtain ⟨j, want⟩ := gw
    have : yieldedI ops.toList ts j = yieldedI ops.toList ts2 j := by
      unfold yieldedI
      rw [Array.getElem?_toList]
      cases hd : (ops[j]?).bind (·.dst) with
      | none => rfl
      | some t =>
        have := hx t (by simp [Oper.looksAt, hg, hd])
        simp only [List.getD] at this
        have ht : ts[t]? = ts2[t]? := by
          rcases Nat.lt_or_ge t ts.length with hlt | hge
          · rw [List.getElem?_eq_getElem hlt, List.getElem?_eq_getElem (by omega)] at this ⊢
            simp only [Option.getD_some] at this
            rw [this]
          · rw [List.getElem?_eq_none hge, List.getElem?_eq_none (by omega)]
        simp only [ht]
    simp only [this]

end Go.Ideal

end
section
/- A region that draws its order: the ideal interpreter's answers in the text's order are the model's in every order. Over any program. -/
set_option linter.unusedVariables false
set_option linter.unusedSimpArgs false
namespace Go.Ideal
open Go.RowKit

variable {P : Program} {B : Nat} {w0 : Org} {pf : FuncId → Bool}

/-- From a to a + d no operation changes the heap. -/
def sameR (fl : List Bool) (a : Nat) : Nat → Bool
  | 0 => true
  | d + 1 => fl.getD (a + d) false && sameR fl a d
def sameTo (fl : List Bool) (i m : Nat) : Bool := match Nat.ble i m with
  | true => sameR fl i (m - i)
  | false => sameR fl m (i - m)
/-- Flagged operations leave the heap as it is. -/
def FlagsOK (fl : List Bool) (ents : List Ent) (hf : Heap) : Prop := ∀ j, fl.getD j false = true → heapAt ents hf (j + 1) = heapAt ents hf j
theorem FlagsOK.nil (ents : List Ent) (hf : Heap) : FlagsOK [] ents hf := fun j h => by simp at h
theorem sameR_eq {fl : List Bool} {ents : List Ent} {hf : Heap} (h : FlagsOK fl ents hf) (a : Nat) : ∀ d, sameR fl a d = true → heapAt ents hf (a + d) = heapAt ents hf a
  | 0, _ => rfl
  | d + 1, hs => by
    simp only [sameR, Bool.and_eq_true] at hs
    rw [← Nat.add_assoc, h _ hs.1]
    exact sameR_eq h a d hs.2
theorem sameTo_eq {fl : List Bool} {ents : List Ent} {hf : Heap} (h : FlagsOK fl ents hf) {i m : Nat} (hs : sameTo fl i m = true) : heapAt ents hf m = heapAt ents hf i := by
  unfold sameTo at hs
  split at hs
  · rename_i hb
    have hb := Nat.le_of_ble_eq_true hb
    have := sameR_eq h i _ hs
    rwa [show i + (m - i) = m by omega] at this
  · rename_i hb
    have hb : ¬ i ≤ m := fun h => by rw [Nat.ble_eq_true_of_le h] at hb; cases hb
    have := sameR_eq h m _ hs
    rw [show m + (i - m) = i by omega] at this
    exact this.symm

/-- What is to be the same where a read comes up elsewhere. -/
def readL (P : Program) (pre louds : List Nat) (fl : List Bool) (ents : List Ent) (hf : Heap) (i : Nat) (o : Oper) (e : Ent) : Nat → Option (List (Value × Value))
  | 0 => some []
  | m + 1 => match feasible pre louds i m && !sameTo fl i m with
    | false => readL P pre louds fl ents hf i o e m
    | true => match readL P pre louds fl ents hf i o e m with
      | none => none
      | some l => match opI P o e.ts (heapAt ents hf m) with
        | some (v, _) => some ((v, e.val) :: l)
        | none => none
def readsL (P : Program) (pf : FuncId → Bool) (pre louds : List Nat) (fl : List Bool) (ents : List Ent) (hf : Heap) : Nat → List Oper → List Ent → Option (List (Value × Value))
  | i, o :: r, e :: es => match readsHeap o.op && !isLoud P pf o.op && e.wanted with
    | false => readsL P pf pre louds fl ents hf (i + 1) r es
    | true => match readL P pre louds fl ents hf i o e (ents.length + 1) with
      | none => none
      | some l => match readsL P pf pre louds fl ents hf (i + 1) r es with
        | some l' => some (l ++ l')
        | none => none
  | _, _, _ => some []
def EqL : List (Value × Value) → Prop
  | [] => True
  | [(a, b)] => a = b
  | (a, b) :: r => a = b ∧ EqL r
theorem EqL.all : ∀ {l : List (Value × Value)}, EqL l → ∀ p ∈ l, p.1 = p.2
  | [], _ => fun p hp => by cases hp
  | [(a, b)], h => fun p hp => by simp at hp; subst hp; exact h
  | (a, b) :: c :: r, h => fun p hp => by
    rcases List.mem_cons.1 hp with rfl | hp
    · exact h.1
    · exact EqL.all h.2 p hp
theorem readL_spec {pre louds : List Nat} {fl : List Bool} {ents : List Ent} {hf : Heap} {i : Nat} {o : Oper} {e : Ent} (hfl : FlagsOK fl ents hf) (h0 : ∃ h2, opI P o e.ts (heapAt ents hf i) = some (e.val, h2)) : ∀ (k : Nat) (l : List (Value × Value)), readL P pre louds fl ents hf i o e k = some l → (∀ p ∈ l, p.1 = p.2) → ∀ m, m < k → feasible pre louds i m = true →
    ∃ v h2, opI P o e.ts (heapAt ents hf m) = some (v, h2) ∧ v = e.val
  | 0, _, _, _, m, hm, _ => absurd hm (Nat.not_lt_zero _)
  | k + 1, l, hr, hl, m, hm, hfe => by
    simp only [readL] at hr
    split at hr
    · rename_i hno
      rcases Nat.lt_or_ge m k with h | h
      · exact readL_spec hfl h0 k l hr hl m h hfe
      · obtain rfl : m = k := by omega
        rw [hfe, Bool.true_and, Bool.not_eq_false'] at hno
        obtain ⟨h2, h0⟩ := h0
        exact ⟨e.val, h2, by rw [sameTo_eq hfl hno]; exact h0, rfl⟩
    · split at hr
      · cases hr
      · rename_i l0 hl0
        split at hr
        · rename_i v h2 hv
          simp only [Option.some.injEq] at hr; subst hr
          rcases Nat.lt_or_ge m k with h | h
          · exact readL_spec hfl h0 k l0 hl0 (fun p hp => hl p (List.mem_cons_of_mem _ hp)) m h hfe
          · obtain rfl : m = k := by omega
            exact ⟨v, h2, hv, hl (v, e.val) (List.mem_cons_self ..)⟩
        · cases hr
theorem readsL_spec {pre louds : List Nat} {fl : List Bool} {ents : List Ent} {hf : Heap} : ∀ (l : List Oper) (es : List Ent) (k : Nat) (L : List (Value × Value)), readsL P pf pre louds fl ents hf k l es = some L → (∀ p ∈ L, p.1 = p.2) → ∀ (i : Nat) (o : Oper) (e : Ent), l[i]? = some o → es[i]? = some e →
    readsHeap o.op = true → isLoud P pf o.op = false → e.wanted = true → ∃ L', readL P pre louds fl ents hf (k + i) o e (ents.length + 1) = some L' ∧ ∀ p ∈ L', p.1 = p.2
  | [], _, _, _, _, _, i, o, e, h, _, _, _, _ => by simp at h
  | _ :: _, [], _, _, _, _, i, o, e, _, h, _, _, _ => by simp at h
  | o' :: l, e' :: es, k, L, hr, hL, i, o, e, hi, he, h1, h2, h3 => by
    simp only [readsL] at hr
    split at hr
    · rename_i hno
      cases i with
      | zero =>
        simp only [List.getElem?_cons_zero, Option.some.injEq] at hi he; subst hi; subst he
        rw [h1, h2, h3] at hno; cases hno
      | succ i =>
        have := readsL_spec l es (k + 1) L hr hL i o e (by simpa using hi) (by simpa using he) h1 h2 h3
        rwa [show k + 1 + i = k + (i + 1) by omega] at this
    · split at hr
      · cases hr
      · rename_i l1 hl1
        split at hr
        · rename_i l2 hl2
          simp only [Option.some.injEq] at hr; subst hr
          cases i with
          | zero =>
            simp only [List.getElem?_cons_zero, Option.some.injEq] at hi he; subst hi; subst he
            exact ⟨l1, hl1, fun p hp => hL p (List.mem_append_left _ hp)⟩
          | succ i =>
            have := readsL_spec l es (k + 1) l2 hl2 (fun p hp => hL p (List.mem_append_right _ hp)) i o e (by simpa using hi) (by simpa using he) h1 h2 h3
            rwa [show k + 1 + i = k + (i + 1) by omega] at this
        · cases hr

/-- What is known of a region and of its run in the text's order. -/
structure Reg (P : Program) (B : Nat) (w0 : Org) (pf : FuncId → Bool) (call : Nat → CallI) (ops : Array Oper) (ents : List Ent) (ts tf : List Value) (hf : Heap) : Prop where
  sound : ∀ k, CallSound P B w0 (call k)
  pure : ∀ k, PureCall (call k) pf
  ok : ops.toList.all (operOK P) = true
  len : ents.length = ops.size
  ts0 : tsAt ents tf 0 = ts
  step : ∀ (i : Nat) (o : Oper), ops[i]? = some o → ∃ e, Step P call ops.toList ents tf hf i o e
  edges : ∀ (i : Nat) (o : Oper), ops[i]? = some o → ∀ e ∈ o.after, Region.binds .any e = true → e.on < i
  pairs : ∀ (i j : Nat) (oi oj : Oper), i < j → ops[i]? = some oi → ops[j]? = some oj → ((pres ops.toList []).getD j 0).testBit i = true ∨ (oi.apart ops oj = true ∧ (isLoud P pf oi.op && isLoud P pf oj.op) = false)
  bits : ∀ (i : Nat) (o : Oper), ops[i]? = some o → ∀ j, ((pres ops.toList []).getD i 0).testBit j = true → ∃ e ∈ o.after, Region.binds .any e = true ∧ (e.on = j ∨ ((pres ops.toList []).getD e.on 0).testBit j = true)
  reads : (∀ (i : Nat) (o : Oper), ops[i]? = some o → readsHeap o.op = true → isLoud P pf o.op = false → ∀ (l : Nat) (ol : Oper), ops[l]? = some ol → isLoud P pf ol.op = true →
    ((pres ops.toList []).getD i 0).testBit l = true ∨ ((pres ops.toList []).getD l 0).testBit i = true ∨ (isLoad o.op = true ∧ i < l ∧ isAlloc ol.op = true)) ∨ ∀ (i : Nat) (o : Oper) (e : Ent), ops[i]? = some o → ents[i]? = some e → readsHeap o.op = true → isLoud P pf o.op = false → e.wanted = true → ∀ m, m ≤ ops.size →
    (∀ (l : Nat) (ol : Oper), ops[l]? = some ol → isLoud P pf ol.op = true → (((pres ops.toList []).getD i 0).testBit l = true → l < m) ∧ (((pres ops.toList []).getD l 0).testBit i = true → m ≤ l)) →
    ∃ h2, opI P o e.ts (heapAt ents hf m) = some (e.val, h2)

variable {call : Nat → CallI} {ops : Array Oper} {ents : List Ent} {ts tf : List Value} {hf : Heap}

theorem Reg.of (hcall : ∀ k, CallSound P B w0 (call k)) (hpure : ∀ k, PureCall (call k) pf) (hok : ops.toList.all (operOK P) = true) {h : Heap} (ht : opsT P call ops.toList ops.toList ts h = some (ents, tf, hf))
    (hp : pairsOK P pf ops (pres ops.toList []) 0 ops.toList = true)
    (hr : drawReads P pf ops ents hf = true ∨ ∃ fl L, FlagsOK fl ents hf ∧ readsL P pf (pres ops.toList []) (loudBits P pf ops.toList 0) fl ents hf 0 ops.toList ents = some L ∧ ∀ p ∈ L, p.1 = p.2) :
    Reg P B w0 pf call ops ents ts tf hf ∧ heapAt ents hf 0 = h := by
  obtain ⟨k1, k2, k3, k4⟩ := trace_facts ht
  obtain ⟨p1, p2⟩ := pairs_spec ops.toList 0 hp
  refine ⟨⟨hcall, hpure, hok, by simpa using k1, k3, fun i o hi => k4 i o (by simpa using hi), fun i o hi e he hb => ?_, fun i j oi oj hij hi hj => ?_, fun i o hi j hb => ?_, ?_⟩, k2⟩
  · have := p1 i o (by simpa using hi)
    simp only [edgesOK, Nat.zero_add] at this
    have := List.all_eq_true.1 this e (by simpa using he)
    simpa [hb] using this
  · have := p2 i j oi oj hij (by simpa using hi) (by simpa using hj)
    simp only [Nat.zero_add, pairOK, Bool.or_eq_true, Bool.and_eq_true, Bool.not_eq_true'] at this
    exact this
  · obtain ⟨e, q1, q2⟩ := pres_bit ops.toList [] i o (by simpa using hi) j (by simpa using hb)
    exact ⟨e, by simpa using q1, q2⟩
  · rw [drawReads, Bool.or_eq_true, or_assoc] at hr
    rcases hr with hr | hr
    · left
      intro i o hi h1 h2 l ol hl hll
      have hmem := louds_mem ops.toList 0 l ol (by simpa using hl) hll
      rw [Nat.zero_add] at hmem
      unfold drawStill at hr
      split at hr
      · rename_i hno; rw [hno] at hmem; cases hmem
      · have := fixed_spec ops.toList 0 hr i o (by simpa using hi) h1 h2 l hmem
        rw [Nat.zero_add] at this
        refine this.imp_right (Or.imp_right fun k => ⟨k.1, k.2.1, ?_⟩)
        have k3 := k.2.2
        unfold allocAt at k3
        rwa [show ops.toList[l]? = some ol by simpa using hl] at k3
    have hfea : ∀ (i m : Nat), (∀ (l : Nat) (ol : Oper), ops[l]? = some ol → isLoud P pf ol.op = true → (((pres ops.toList []).getD i 0).testBit l = true → l < m) ∧ (((pres ops.toList []).getD l 0).testBit i = true → m ≤ l)) → feasible (pres ops.toList []) (loudBits P pf ops.toList 0) i m = true := fun i m hfe => (by
      refine List.all_eq_true.2 fun l hl => ?_
      obtain ⟨l', ol, e1, e2, e3⟩ := louds_spec ops.toList 0 l hl
      rw [Nat.zero_add] at e1; subst e1
      obtain ⟨f1, f2⟩ := hfe l ol (by simpa using e2) e3
      simp only [Bool.and_eq_true, Bool.or_eq_true, Bool.not_eq_true', Nat.blt_eq, Nat.ble_eq]
      refine ⟨?_, ?_⟩
      · cases hb : ((pres ops.toList []).getD i 0).testBit l with
        | false => exact .inl rfl
        | true => exact .inr (f1 hb)
      · cases hb : ((pres ops.toList []).getD l 0).testBit i with
        | false => exact .inl rfl
        | true => exact .inr (f2 hb))
    right
    intro i o e hi he h1 h2 h3 m hm hfe
    rcases hr with hr | ⟨fl, L, hfl, hr, hL⟩
    · have := reads_spec ops.toList ents 0 hr i o e (by simpa using hi) he h1 h2 h3
      rw [Nat.zero_add] at this
      obtain ⟨v, h2', q1, q2⟩ := readOK_spec (ents.length + 1) this m (by rw [k1]; simp; omega) (hfea i m hfe)
      subst q2
      exact ⟨h2', q1⟩
    · obtain ⟨L', e1, e2⟩ := readsL_spec ops.toList ents 0 L hr hL i o e (by simpa using hi) he h1 h2 h3
      rw [Nat.zero_add] at e1
      have h0 : ∃ h2, opI P o e.ts (heapAt ents hf i) = some (e.val, h2) := by
        obtain ⟨e', s⟩ := k4 i o (by simpa using hi)
        have : e' = e := by have := s.at_; rw [he] at this; exact (Option.some.inj this).symm
        subst this
        have hy := s.yes h3
        rw [s.h] at hy
        rw [operI_reads h1] at hy
        exact ⟨_, hy⟩
      obtain ⟨v, h2', q1, q2⟩ := readL_spec hfl h0 (ents.length + 1) L' e1 e2 m (by rw [k1]; simp; omega) (hfea i m hfe)
      subst q2
      exact ⟨h2', q1⟩

theorem Reg.heap_step (R : Reg P B w0 pf call ops ents ts tf hf) {i : Nat} {o : Oper} (hi : ops[i]? = some o) (hq : isLoud P pf o.op = false) : heapAt ents hf (i + 1) = heapAt ents hf i := by
  obtain ⟨e, s⟩ := R.step i o hi
  cases hw : e.wanted with
  | false => rw [(s.no hw).2, s.h]
  | true =>
    rw [(quietI_heap (R.pure i) hq (s.yes hw)).1, s.h]

theorem Reg.heap_const (R : Reg P B w0 pf call ops ents ts tf hf) (m : Nat) : ∀ (d : Nat), m + d ≤ ops.size → (∀ (l : Nat) (o : Oper), m ≤ l → l < m + d → ops[l]? = some o → isLoud P pf o.op = false) → heapAt ents hf (m + d) = heapAt ents hf m
  | 0, _, _ => rfl
  | d + 1, hd, hl => by
    have hi : ops[m + d]? = some ops[m + d] := Array.getElem?_eq_getElem (by omega)
    rw [← R.heap_const m d (by omega) fun l o h1 h2 => hl l o h1 (by omega)]
    exact R.heap_step hi (hl _ _ (by omega) (by omega) hi)

def Grows (h h' : Heap) : Prop := ∀ j x, h.get j = some x → h'.get j = some x
theorem rdCells_grows {h h' : Heap} (g : Grows h h') {a : Addr} {n : Nat} {l : List Value} (hr : rdCells h a n = some l) : rdCells h' a n = some l := by
  unfold rdCells at hr ⊢
  cases hb : h.get a.block with
  | none => rw [hb] at hr; cases hr
  | some b => rw [hb] at hr; rw [g _ _ hb]; exact hr
theorem loadI_grows {h h' : Heap} (g : Grows h h') {t : TypeId} {a : Addr} {v : Value} (hl : loadI P h t a = some v) : loadI P h' t a = some v := by
  unfold loadI at hl ⊢
  split at hl
  · obtain ⟨cs, k1, k2⟩ := Option.map_eq_some_iff.1 hl
    rw [rdCells_grows g k1, ← k2]; rfl
  · split at hl
    · rename_i v' hv; rw [rdCells_grows g hv]; exact hl
    · cases hl
  · cases hl

theorem opI_load_grows {h h2 h' : Heap} {o : Oper} {ts : List Value} {v : Value} (ho : isLoad o.op = true) (g : Grows h h2) (he : opI P o ts h = some (v, h')) : opI P o ts h2 = some (v, h2) := by
  obtain ⟨dst, op, ty, pos, after, guard⟩ := o
  cases op <;> first | (cases ho; done) | skip
  rename_i t a2
  unfold opI at he ⊢
  cases hv2 : evI ts a2 with
  | pointer ad0 =>
    have hV : ∀ told, opV P ⟨dst, .load t a2, ty, pos, after, guard⟩ ts told = none := fun told => by simp only [opV, hv2, asPt]
    have hPp : ∀ hh told, opP P ⟨dst, .load t a2, ty, pos, after, guard⟩ ts hh told = none := fun hh told => by simp only [opP, hv2, asRp]
    simp only [hV, opH, hPp] at he ⊢
    simp only [opB, hv2] at he ⊢
    cases ad0 with
    | none => cases he
    | some ad =>
      cases hl : loadI P h t ad with
      | none => simp [hl] at he
      | some u =>
        simp only [hl, Option.map_some, Option.some.injEq, Prod.mk.injEq] at he
        simp only [loadI_grows g hl, Option.map_some, he.1]
  | _ =>
    simp only [opB, hv2] at he ⊢
    split at he
    · rename_i v1 l1 hV
      split at he
      · rename_i ht; simp only [Option.some.injEq, Prod.mk.injEq] at he; simp only [ht, he.1]
      · cases he
    · simp only [opH] at he ⊢
      split at he
      · rename_i v1 h1 l1 hp
        have hp2 : opP P ⟨dst, .load t a2, ty, pos, after, guard⟩ ts h2 none = some (v1, h2, l1) ∧ h1 = h := by
          simp only [opP] at hp ⊢
          split at hp
          · rename_i p r off hq
            cases hra : rowsAt h p with
            | none => simp [hra] at hp
            | some rows =>
              have hg : h.get p = some (.pool rows) := by
                unfold rowsAt at hra
                split at hra
                · rename_i hg; simp only [Option.some.injEq] at hra; subst hra; exact hg
                · cases hra
              have hra2 : rowsAt h2 p = some rows := by unfold rowsAt; rw [g _ _ hg]
              rw [hra] at hp
              rw [hra2]
              try simp only at hp ⊢
              split at hp
              · cases hp; contradiction
              · simp only [Option.some.injEq, Prod.mk.injEq] at hp; obtain ⟨rfl, rfl, rfl⟩ := hp; first | exact ⟨rfl, rfl⟩ | exact ⟨trivial, rfl⟩ | simp
              · cases hp; contradiction
              · split at hp
                · rename_i hu
                  simp only [Option.some.injEq, Prod.mk.injEq] at hp; obtain ⟨rfl, rfl, rfl⟩ := hp
                  simp only [hu]; first | exact ⟨rfl, rfl⟩ | exact ⟨trivial, rfl⟩ | simp
                · cases hp
              · cases hp
          · cases hp
        rw [hp2.1]
        simp only
        split at he
        · rename_i ht; simp only [Option.some.injEq, Prod.mk.injEq] at he; simp only [ht, he.1]
        · cases he
      · cases he

theorem Reg.heap_grow (R : Reg P B w0 pf call ops ents ts tf hf) (m : Nat) : ∀ (d : Nat), m + d ≤ ops.size → (∀ (l : Nat) (o : Oper), m ≤ l → l < m + d → ops[l]? = some o → isLoud P pf o.op = true → isAlloc o.op = true) → Grows (heapAt ents hf m) (heapAt ents hf (m + d))
  | 0, _, _ => fun _ _ h => h
  | d + 1, hd, hl => by
    have hi : ops[m + d]? = some ops[m + d] := Array.getElem?_eq_getElem (by omega)
    have ih := R.heap_grow m d (by omega) fun l o h1 h2 => hl l o h1 (by omega)
    cases hq : isLoud P pf ops[m + d].op with
    | false => rw [show m + (d + 1) = m + d + 1 by omega, R.heap_step hi hq]; exact ih
    | true =>
      have ha := hl _ _ (by omega) (by omega) hi hq
      obtain ⟨e, s⟩ := R.step (m + d) _ hi
      intro j x hj
      have hj := ih j x hj
      rw [show m + (d + 1) = m + d + 1 by omega]
      cases hw : e.wanted with
      | false => rw [(s.no hw).2, s.h]; exact hj
      | true =>
        have hy := s.yes hw
        rw [s.h] at hy
        cases ho : ops[m + d].op <;> rw [ho] at ha <;> first | (cases ha; done) | skip
        rename_i t
        rw [show operI P (call (m + d)) ops[m + d] e.ts (heapAt ents hf (m + d)) = opI P ops[m + d] e.ts (heapAt ents hf (m + d)) by simp only [operI, ho]] at hy
        have hB : opI P ops[m + d] e.ts (heapAt ents hf (m + d)) = opB P ops[m + d] e.ts (heapAt ents hf (m + d)) := by
          unfold opI
          cases hq3 : opB P ops[m + d] e.ts (heapAt ents hf (m + d)) with
          | some r => rfl
          | none => simp only [opV, opH, opP, ho]
        rw [hB] at hy
        simp only [opB, ho] at hy
        split at hy
        · simp only [newI, Option.some.injEq, Prod.mk.injEq] at hy
          rw [← hy.2]; exact Heap.push_mono hj
        · cases hy

/-- The frame of the text's order ahead of operation i. -/
theorem Reg.frame (R : Reg P B w0 pf call ops ents ts tf hf) : ∀ (i : Nat), i ≤ ops.size → (tsAt ents tf i).length = ts.length ∧ ∀ t, (tsAt ents tf i).getD t Go.undef = (curL (fun j => decide (j < i)) (valAt ents) ops.toList 0 ts).getD t Go.undef
  | 0, _ => by
    refine ⟨by rw [R.ts0], fun t => ?_⟩
    have : (fun j => decide (j < 0)) = fun _ : Nat => false := by funext j; simp
    rw [R.ts0, this, curL_none]
  | i + 1, hle => by
    obtain ⟨l1, l2⟩ := R.frame i (by omega)
    have hi : ops[i]? = some ops[i] := Array.getElem?_eq_getElem (by omega)
    obtain ⟨e, s⟩ := R.step i _ hi
    have hv : valAt ents i = e.val := by simp [valAt, s.at_]
    refine ⟨by rw [s.next, putI_length, s.ts, l1], fun t => ?_⟩
    rw [s.next, s.ts]
    by_cases hd : ops[i].dst = some t
    · rcases Nat.lt_or_ge t ts.length with hlt | hge
      · rw [hd, putI_eq (by omega)]
        rw [curL_last ops.toList 0 ts i ops[i] (by simp) hd (by simp) hlt fun j oj hj hoj _ => by simp; omega, Nat.zero_add, hv]
      · rw [getD_ge (by rw [putI_length]; omega), getD_ge (by rw [curL_length]; omega)]
    · rw [putI_ne hd, l2]
      refine curL_agree ops.toList 0 ts ts rfl rfl fun j oj hj hdj => ?_
      rw [Nat.zero_add]
      have : j ≠ i := fun e => by
        subst e
        have : ops[j]? = some oj := by simpa using hj
        rw [hi] at this; simp only [Option.some.injEq] at this
        exact hd (by rw [this]; exact hdj)
      simp only [decide_eq_decide]; omega

/-- How many are still to come. -/
def todo (n : Nat) (listed : Array Bool) : Nat := ((List.range n).filter fun i => !listed.getD i true).length

theorem filter_lt {α : Type} {p q : α → Bool} : ∀ {l : List α}, (∀ x ∈ l, q x = true → p x = true) → (∃ x ∈ l, p x = true ∧ q x = false) → (l.filter q).length < (l.filter p).length
  | [], _, ⟨_, h, _⟩ => by cases h
  | a :: l, hpq, ⟨x, hx, hp, hq⟩ => by
    have hle : (l.filter q).length ≤ (l.filter p).length := by
      clear hx
      induction l with
      | nil => simp
      | cons b l ih =>
        have hb := hpq b (by simp)
        have := ih fun y hy => hpq y (by simp at hy ⊢; exact hy.imp id .inr)
        simp only [List.filter_cons]
        cases hqb : q b with
        | false => simp only [Bool.false_eq_true, if_false]; split <;> simp <;> omega
        | true => simp only [hb hqb, if_true, List.length_cons]; omega
    simp only [List.filter_cons]
    rcases List.mem_cons.1 hx with rfl | hx
    · simp only [hp, hq, if_true, Bool.false_eq_true, if_false, List.length_cons]; omega
    · have := filter_lt (l := l) (fun y hy => hpq y (by simp [hy])) ⟨x, hx, hp, hq⟩
      cases hqa : q a with
      | false => simp only [Bool.false_eq_true, if_false]; split <;> simp <;> omega
      | true => simp only [hpq a (by simp) hqa, if_true, List.length_cons]; omega

theorem todo_set {n i : Nat} {listed : Array Bool} (hn : listed.size = n) (hi : listed.getD i true = false) : todo n (listed.setIfInBounds i true) < todo n listed := by
  have hlt : i < listed.size := by
    rcases Nat.lt_or_ge i listed.size with h | h
    · exact h
    · simp [Array.getElem?_eq_none h] at hi
  refine filter_lt (fun x _ hx => ?_) ⟨i, by simp; omega, by simp [hi], by simp [hlt]⟩
  by_cases e : i = x
  · subst e; simp [hlt] at hx
  · rw [getD_set_ne true e] at hx; exact hx

structure Sim (P : Program) (B : Nat) (w0 : Org) (pf : FuncId → Bool) (σ : Sg) (ops : Array Oper) (ents : List Ent) (ts : List Value) (hf : Heap) (listed : Array Bool) (a : Act) (w : World) : Prop where
  size : listed.size = ops.size
  closed : ∀ (i : Nat) (o : Oper), ops[i]? = some o → listed.getD i false = true → ∀ j, ((pres ops.toList []).getD i 0).testBit j = true → listed.getD j false = true
  st : ∃ m σ', σ.le σ' ∧ m ≤ ops.size ∧ (∀ (l : Nat) (o : Oper), ops[l]? = some o → isLoud P pf o.op = true → (listed.getD l false = true ↔ l < m)) ∧ HRel P B w0 σ' (heapAt ents hf m) w ∧
    LRel σ' (curL (fun j => listed.getD j false) (valAt ents) ops.toList 0 ts) a.tmps.toList
  defers : a.defers = []

theorem draw_any (R : Reg P B w0 pf call ops ents ts tf hf) {σ : Sg} {Q : Exit → Act → World → Prop}
    (hQ : ∀ (σ' : Sg) (a' : Act) (w' : World), σ.le σ' → LRel σ' tf a'.tmps.toList → HRel P B w0 σ' hf w' → a'.defers = [] → Q .normal a' w') :
    ∀ (fuel : Nat) (listed : Array Bool) (a : Act) (w : World), Sim P B w0 pf σ ops ents ts hf listed a w → todo ops.size listed ≤ fuel → wpAny P .any ops Q fuel listed a w := by
  /- all have come up -/
  have done : ∀ (listed : Array Bool) (a : Act) (w : World), Sim P B w0 pf σ ops ents ts hf listed a w → (∀ i, i < ops.size → listed.getD i false = true) → Q .normal a w := fun listed a w S hall => by
    obtain ⟨m, σ', k1, k2, k3, k4, k5⟩ := S.st
    have hh : heapAt ents hf m = hf := by
      have := R.heap_const m (ops.size - m) (by omega) fun l o h1 h2 hl => by
        cases hq : isLoud P pf o.op with
        | false => rfl
        | true => have := (k3 l o hl hq).1 (hall l (by omega)); omega
      rw [show m + (ops.size - m) = ops.size by omega] at this
      rw [← this, ← R.len]
      simp [heapAt]
    rw [hh] at k4
    refine hQ σ' a w k1 ?_ k4 S.defers
    obtain ⟨f1, f2⟩ := R.frame ops.size (Nat.le_refl _)
    have htf : tsAt ents tf ops.size = tf := by rw [← R.len]; simp [tsAt]
    rw [htf] at f1 f2
    have hl := k5.len
    rw [curL_length] at hl
    refine LRel.of_getD (by omega) fun t _ => ?_
    rw [f2 t, ← curL_agree (D := fun j => listed.getD j false) ops.toList 0 ts ts rfl rfl fun i o hi _ => by
      have : i < ops.size := by
        have := (List.getElem?_eq_some_iff.1 hi).1
        simpa using this
      rw [Nat.zero_add, hall i this]; simp [this]]
    exact k5.getD t
  /- one is ready as long as not all have come up -/
  have some_ready : ∀ (listed : Array Bool), listed.size = ops.size → Region.ready .any ops listed = [] → ∀ i, i < ops.size → listed.getD i false = true := fun listed hs hr i => by
    induction i using Nat.strongRecOn with
    | _ i ih =>
      intro hi
      cases hb : listed.getD i false with
      | true => rfl
      | false =>
        have hoi : ops[i]? = some ops[i] := Array.getElem?_eq_getElem hi
        have : i ∈ Region.ready .any ops listed := mem_ready.2 ⟨by
          have hlt : i < listed.size := by omega
          simp [hlt] at hb ⊢; exact hb, ops[i], hoi, fun e he hbi => ih e.on (R.edges i _ hoi e he hbi) (by have := R.edges i _ hoi e he hbi; omega)⟩
        rw [hr] at this; cases this
  intro fuel
  induction fuel with
  | zero =>
    intro listed a w S ht
    have hall : ∀ i, i < ops.size → listed.getD i false = true := fun i hi => by
      have h0 : (List.range ops.size).filter (fun i => !listed.getD i true) = [] := List.length_eq_zero_iff.1 (Nat.le_zero.1 ht)
      have := List.filter_eq_nil_iff.1 h0 i (by simpa using hi)
      have hlt : i < listed.size := by rw [S.size]; exact hi
      simpa [hlt] using this
    refine ⟨?_, done listed a w S hall⟩
    unfold Region.ready
    refine List.filter_eq_nil_iff.2 fun i hi => ?_
    have := hall i (by simpa using hi)
    have hlt : i < listed.size := by rw [S.size]; simpa using hi
    simp only [Array.getD_eq_getD_getElem?, Array.getElem?_eq_getElem hlt, Option.getD_some] at this
    simp [hlt, this]
  | succ fuel ih =>
    intro listed a w S ht
    refine ⟨fun hr => done listed a w S (some_ready listed S.size hr), fun i hi => ?_⟩
    obtain ⟨hun, o, ho, hpre⟩ := mem_ready.1 hi
    have hil : i < listed.size := by
      rcases Nat.lt_or_ge i listed.size with h | h
      · exact h
      · simp [Array.getElem?_eq_none h] at hun
    have hin : i < ops.size := by have := S.size; omega
    have hDi : listed.getD i false = false := by simp [hil] at hun ⊢; exact hun
    obtain ⟨m, σ', k1, k2, k3, k4, k5⟩ := S.st
    obtain ⟨e, s⟩ := R.step i o ho
    have hv : valAt ents i = e.val := by simp [valAt, s.at_]
    /- what must come ahead has come -/
    have ahead : ∀ j, ((pres ops.toList []).getD i 0).testBit j = true → listed.getD j false = true := fun j hj => by
      obtain ⟨ed, q1, q2, q3⟩ := R.bits i o ho j hj
      have hon := hpre ed q1 q2
      rcases q3 with rfl | q3
      · exact hon
      · have hlt : ed.on < ops.size := by
          rw [← S.size]
          rcases Nat.lt_or_ge ed.on listed.size with h | h
          · exact h
          · simp [Array.getElem?_eq_none h] at hon
        exact S.closed ed.on _ (Array.getElem?_eq_getElem hlt) hon j q3
    have behind : ∀ j oj, ops[j]? = some oj → ((pres ops.toList []).getD j 0).testBit i = true → listed.getD j false = false := fun j oj hj hb => by
      cases hD : listed.getD j false with
      | false => rfl
      | true => rw [S.closed j oj hj hD i hb] at hDi; cases hDi
    /- the frame agrees at what the operation looks at -/
    have hlen0 := k5.len
    rw [curL_length] at hlen0
    obtain ⟨f1, f2⟩ := R.frame i (by omega)
    have agree : ∀ t ∈ o.looksAt ops, (curL (fun j => listed.getD j false) (valAt ents) ops.toList 0 ts).getD t Go.undef = e.ts.getD t Go.undef := fun t ht => by
      rw [s.ts, f2 t]
      refine curL_agree ops.toList 0 ts ts rfl rfl fun j oj hj hdj => ?_
      rw [Nat.zero_add]
      have hj' : ops[j]? = some oj := by simpa using hj
      rcases Nat.lt_trichotomy j i with hlt | rfl | hgt
      · have : listed.getD j false = true := by
          rcases R.pairs j i oj o hlt hj' ho with h | ⟨h, _⟩
          · exact ahead j h
          · exact absurd ht ((Oper.apart_spec h).1 t hdj)
        rw [this]; simp [hlt]
      · rw [hDi]; simp
      · have : listed.getD j false = false := by
          rcases R.pairs i j o oj hgt ho hj' with h | ⟨h, _⟩
          · exact behind j oj hj' h
          · exact absurd ht ((Oper.apart_spec h).2.2 t hdj)
        rw [this]; simp; omega
    have hops : ∀ x ∈ o.op.operands, evI (curL (fun j => listed.getD j false) (valAt ents) ops.toList 0 ts) x = evI e.ts x := fun x hx => by
      cases x with
      | tmp t => exact agree t (List.mem_append_left _ (List.mem_filterMap.2 ⟨.tmp t, by simpa using hx, rfl⟩))
      | const v => rfl
      | global g => rfl
      | func f => rfl
    have hwant : wantedI o ops.toList (curL (fun j => listed.getD j false) (valAt ents) ops.toList 0 ts) = e.wanted := by
      rw [s.wanted]
      exact wantedI_congr (by rw [curL_length, s.ts, f1]) agree
    /- behind it -/
    have next : ∀ (σ2 : Sg) (m2 : Nat) (w2 : World) (v' : Value), σ'.le σ2 → m2 ≤ ops.size → (∀ (l : Nat) (ol : Oper), ops[l]? = some ol → isLoud P pf ol.op = true → ((listed.setIfInBounds i true).getD l false = true ↔ l < m2)) →
        HRel P B w0 σ2 (heapAt ents hf m2) w2 → VRel σ2 e.val v' → wpAny P .any ops Q fuel (listed.setIfInBounds i true) (a.put o.dst v') w2 := fun σ2 m2 w2 v' q1 q2 q3 q4 q5 => by
      refine ih _ _ _ ⟨by rw [Array.size_setIfInBounds]; exact S.size, fun j oj hj hD j2 hb => ?_, ⟨m2, σ2, Sg.le_trans k1 q1, q2, q3, q4, ?_⟩, by rw [put_defers]; exact S.defers⟩ (by have := todo_set (n := ops.size) S.size hun; omega)
      · refine getD_set_true ?_
        by_cases e1 : i = j
        · subst e1; exact ahead j2 hb
        · rw [getD_set_ne false e1] at hD
          exact S.closed j oj hj hD j2 hb
      · have hk := k5.mono q1
        have hsz : (a.put o.dst v').tmps.toList.length = a.tmps.toList.length := by cases hdd : o.dst <;> simp [Act.put]
        refine LRel.of_getD (by rw [curL_length, hsz]; exact hlen0) fun t _ => ?_
        by_cases hd : o.dst = some t
        · rcases Nat.lt_or_ge t ts.length with hlt | hge
          · rw [curL_last ops.toList 0 ts i o (by simpa using ho) hd (by simp [hil]) hlt fun j oj hj hoj hdj => ?_, Nat.zero_add, hv]
            · have : (a.put o.dst v').tmps.toList.getD t Go.undef = v' := by
                rw [hd]
                have : t < a.tmps.size := by simp at hlen0; omega
                simp [Act.put, this]
              rw [this]; exact q5
            · rw [Nat.zero_add, getD_set_ne false (by omega)]
              have hoj' : ops[j]? = some oj := by simpa using hoj
              rcases R.pairs i j o oj hj ho hoj' with h | ⟨h, _⟩
              · exact behind j oj hoj' h
              · exact absurd hdj ((Oper.apart_spec h).2.1 t hd)
          · rw [getD_ge (by rw [curL_length]; omega), getD_ge (by rw [hsz, ← hlen0]; omega)]
            exact VRel.undef σ2
        · rw [curL_agree (D2 := fun j => listed.getD j false) ops.toList 0 ts ts rfl rfl fun j oj hj hdj => ?_]
          · have : (a.put o.dst v').tmps.toList.getD t Go.undef = a.tmps.toList.getD t Go.undef := by
              cases hdd : o.dst with
              | none => rfl
              | some d =>
                have hne : d ≠ t := fun e => hd (by rw [hdd, e])
                simp [Act.put, List.getElem?_set_ne hne]
            rw [this]; exact hk.getD t
          · rw [Nat.zero_add]
            refine getD_set_ne false fun e1 => ?_
            subst e1
            have : ops[i]? = some oj := by simpa using hj
            rw [ho] at this; simp only [Option.some.injEq] at this
            exact hd (by rw [this]; exact hdj)
    have louds_keep : isLoud P pf o.op = false → ∀ (l : Nat) (ol : Oper), ops[l]? = some ol → isLoud P pf ol.op = true → ((listed.setIfInBounds i true).getD l false = true ↔ l < m) := fun hq l ol hl hll => by
      have : i ≠ l := fun e1 => by subst e1; rw [ho] at hl; simp only [Option.some.injEq] at hl; subst hl; rw [hq] at hll; cases hll
      rw [getD_set_ne false this]
      exact k3 l ol hl hll
    have loud_next : isLoud P pf o.op = true → heapAt ents hf m = heapAt ents hf i ∧ ∀ (l : Nat) (ol : Oper), ops[l]? = some ol → isLoud P pf ol.op = true → ((listed.setIfInBounds i true).getD l false = true ↔ l < i + 1) := fun hq => by
      have hlow : ∀ (l : Nat) (ol : Oper), ops[l]? = some ol → isLoud P pf ol.op = true → l < i → listed.getD l false = true := fun l ol hl hll hlt => by
        rcases R.pairs l i ol o hlt hl ho with h | ⟨_, h⟩
        · exact ahead l h
        · simp [hll, hq] at h
      have hhigh : ∀ (l : Nat) (ol : Oper), ops[l]? = some ol → isLoud P pf ol.op = true → i < l → listed.getD l false = false := fun l ol hl hll hgt => by
        rcases R.pairs i l o ol hgt ho hl with h | ⟨_, h⟩
        · exact behind l ol hl h
        · simp [hll, hq] at h
      have hmi : m ≤ i := by
        rcases Nat.lt_or_ge i m with h | h
        · have := (k3 i o ho hq).2 h; rw [hDi] at this; cases this
        · exact h
      refine ⟨?_, fun l ol hl hll => ?_⟩
      · have := R.heap_const m (i - m) (by omega) fun l ol h1 h2 hl => by
          cases hll : isLoud P pf ol.op with
          | false => rfl
          | true => have := (k3 l ol hl hll).1 (hlow l ol hl hll (by omega)); omega
        rw [show m + (i - m) = i by omega] at this
        exact this.symm
      · rcases Nat.lt_trichotomy l i with hlt | rfl | hgt
        · rw [getD_set_ne false (by omega), hlow l ol hl hll hlt]; simp; omega
        · simp [hil]
        · rw [getD_set_ne false (by omega), hhigh l ol hl hll hgt]; simp; omega
    unfold wpOp
    simp only [ho]
    rw [← wanted_rel (a := a) k5, hwant]
    cases hw : e.wanted with
    | false =>
      simp only [Bool.false_eq_true, if_false]
      obtain ⟨n1, n2⟩ := s.no hw
      have hvr : ∀ σ2, VRel σ2 e.val Go.undef := fun σ2 => by rw [n1]; exact VRel.undef σ2
      cases hq : isLoud P pf o.op with
      | false => exact next σ' m w _ (Sg.le_refl _) k2 (louds_keep hq) k4 (hvr _)
      | true =>
        obtain ⟨l1, l2⟩ := loud_next hq
        refine next σ' (i + 1) w _ (Sg.le_refl _) (by omega) l2 ?_ (hvr _)
        rw [n2, s.h, ← l1]; exact k4
    | true =>
      simp only [if_true]
      left
      have hok : operOK P o = true := List.all_eq_true.1 R.ok o (by simpa using Array.mem_of_getElem? ho)
      have hyes := s.yes hw
      cases hq : isLoud P pf o.op with
      | true =>
        obtain ⟨l1, l2⟩ := loud_next hq
        refine oper_wp (v := e.val) (h' := heapAt ents hf (i + 1)) (R.sound i) k4 k5 hok ?_ fun σ2 w2 v' q1 q2 q3 => next σ2 (i + 1) w2 v' q1 (by omega) l2 q3 q2
        rw [operI_congr P (call i) _ hops, l1, ← s.h]; exact hyes
      | false =>
        obtain ⟨hq2, hq3⟩ := quietI_heap (R.pure i) hq hyes
        have hopm : operI P (call i) o e.ts (heapAt ents hf m) = some (e.val, heapAt ents hf m) := by
          cases hr : readsHeap o.op with
          | false => exact hq3 hr _
          | true =>
            rcases R.reads with hfix | hreads
            · have pre_lt : ∀ (x : Nat) (ox : Oper), ops[x]? = some ox → ∀ j, ((pres ops.toList []).getD x 0).testBit j = true → j < x := fun x => by
                induction x using Nat.strongRecOn with
                | _ x ihx =>
                  intro ox hx j hj
                  obtain ⟨ed, q1, q2, q3⟩ := R.bits x ox hx j hj
                  have hlt := R.edges x ox hx ed q1 q2
                  rcases q3 with rfl | q3
                  · exact hlt
                  · have hxs : x < ops.size := (Array.getElem?_eq_some_iff.1 hx).1
                    have := ihx ed.on hlt _ (Array.getElem?_eq_getElem (by omega)) j q3
                    omega
              cases hL : isLoad o.op with
              | true =>
                have hlo : ∀ (l : Nat) (ol : Oper), ops[l]? = some ol → isLoud P pf ol.op = true → l < i → l < m := fun l ol hl hll hlt => by
                  rcases hfix i o ho hr hq l ol hl hll with hb | hb | hb
                  · exact (k3 l ol hl hll).1 (ahead l hb)
                  · have h1 := pre_lt l ol hl i hb; omega
                  · omega
                have hhi : ∀ (l : Nat) (ol : Oper), ops[l]? = some ol → isLoud P pf ol.op = true → i ≤ l → l < m → isAlloc ol.op = true := fun l ol hl hll h1 h2 => by
                  rcases hfix i o ho hr hq l ol hl hll with hb | hb | hb
                  · have h1 := pre_lt i o ho l hb; omega
                  · have h3 := behind l ol hl hb
                    rw [(k3 l ol hl hll).2 h2] at h3; cases h3
                  · exact hb.2.2
                have hg : Grows (heapAt ents hf i) (heapAt ents hf m) := by
                  rcases Nat.le_total m i with hle | hle
                  · have := R.heap_const m (i - m) (by omega) fun l ol h1 h2 hl => by
                      cases hll : isLoud P pf ol.op with
                      | false => rfl
                      | true => have := hlo l ol hl hll (by omega); omega
                    rw [show m + (i - m) = i by omega] at this; rw [this]; exact fun _ _ h => h
                  · have := R.heap_grow i (m - i) (by omega) fun l ol h1 h2 hl hll => hhi l ol hl hll h1 (by omega)
                    rw [show i + (m - i) = m by omega] at this; exact this
                rw [s.h] at hyes
                rw [show operI P (call i) o e.ts (heapAt ents hf m) = opI P o e.ts (heapAt ents hf m) from operI_reads hr _ _]
                rw [operI_reads hr] at hyes
                exact opI_load_grows hL hg hyes
              | false =>
              have hiff : ∀ (l : Nat) (ol : Oper), ops[l]? = some ol → isLoud P pf ol.op = true → (l < m ↔ l < i) := fun l ol hl hll => by
                rcases hfix i o ho hr hq l ol hl hll with hb | hb | hb
                · have h1 := pre_lt i o ho l hb
                  have h2 := (k3 l ol hl hll).1 (ahead l hb)
                  omega
                · have h1 := pre_lt l ol hl i hb
                  have h2 := behind l ol hl hb
                  have h3 : ¬ l < m := fun h => by rw [(k3 l ol hl hll).2 h] at h2; cases h2
                  omega
                · rw [hL] at hb; exact absurd hb.1 (by simp)
              have hm0 : heapAt ents hf m = heapAt ents hf i := by
                rcases Nat.le_total m i with hle | hle
                · have := R.heap_const m (i - m) (by omega) fun l ol h1 h2 hl => by
                    cases hll : isLoud P pf ol.op with
                    | false => rfl
                    | true => have := hiff l ol hl hll; omega
                  rw [show m + (i - m) = i by omega] at this; exact this.symm
                · have := R.heap_const i (m - i) (by omega) fun l ol h1 h2 hl => by
                    cases hll : isLoud P pf ol.op with
                    | false => rfl
                    | true => have := hiff l ol hl hll; omega
                  rw [show i + (m - i) = m by omega] at this; exact this
              rw [hm0, ← s.h, hyes, hq2]
            obtain ⟨h2, hh⟩ := hreads i o e ho s.at_ hr hq hw m k2 fun l ol hl hll => ⟨fun hb => (k3 l ol hl hll).1 (ahead l hb), fun hb => by
              have := behind l ol hl hb
              rcases Nat.lt_or_ge l m with h | h
              · rw [(k3 l ol hl hll).2 h] at this; cases this
              · exact h⟩
            rw [operI_reads hr, hh, quiet_heap hq hh]
        refine oper_wp (v := e.val) (h' := heapAt ents hf m) (R.sound i) k4 k5 hok ?_ fun σ2 w2 v' q1 q2 q3 => next σ2 m w2 v' q1 k2 (louds_keep hq) q3 q2
        rw [operI_congr P (call i) _ hops]; exact hopm

theorem draw_soundL (hm : P.follows .mixedOrders = true) (hcall : ∀ k, CallSound P B w0 (call k)) (hpure : ∀ k, PureCall (call k) pf) (hok : ops.toList.all (operOK P) = true) {h : Heap} (ht : opsT P call ops.toList ops.toList ts h = some (ents, tf, hf))
    (hp : pairsOK P pf ops (pres ops.toList []) 0 ops.toList = true)
    (hr : drawReads P pf ops ents hf = true ∨ ∃ fl L, FlagsOK fl ents hf ∧ readsL P pf (pres ops.toList []) (loudBits P pf ops.toList 0) fl ents hf 0 ops.toList ents = some L ∧ ∀ p ∈ L, p.1 = p.2)
    {σ : Sg} {a : Act} {w : World} (H : HRel P B w0 σ h w) (hts : LRel σ ts a.tmps.toList) (hd : a.defers = []) {id : Nat} {Q : Exit → Act → World → Prop}
    (hQ : ∀ (σ' : Sg) (a' : Act) (w' : World), σ.le σ' → LRel σ' tf a'.tmps.toList → HRel P B w0 σ' hf w' → a'.defers = [] → Q .normal a' w') : (Code.region id ops true).wp P Q a w := by
  obtain ⟨R, h0⟩ := Reg.of hcall hpure hok ht hp hr
  have hrep : ∀ j, (Array.replicate ops.size false).getD j false = false := fun j => by
    simp only [Array.getD_eq_getD_getElem?, Array.getElem?_replicate]
    split <;> rfl
  refine wp_region_any hm (draw_any R hQ ops.size _ a _ ⟨by simp, fun i o hi hD => ?_, ⟨0, σ, Sg.le_refl σ, Nat.zero_le _, fun l o hl _ => ?_, by rw [h0]; exact H.drew, ?_⟩, hd⟩ ?_)
  · rw [hrep] at hD; cases hD
  · rw [hrep]; simp
  · have : (fun j => (Array.replicate ops.size false).getD j false) = fun _ => false := by
      funext j
      exact hrep j
    rw [this, curL_none]; exact hts
  · unfold todo
    exact Nat.le_trans (List.length_filter_le _ _) (by simp)

theorem draw_sound (hm : P.follows .mixedOrders = true) (hcall : ∀ k, CallSound P B w0 (call k)) (hpure : ∀ k, PureCall (call k) pf) (hok : ops.toList.all (operOK P) = true) {h : Heap} (ht : opsT P call ops.toList ops.toList ts h = some (ents, tf, hf))
    (hp : pairsOK P pf ops (pres ops.toList []) 0 ops.toList = true) (hr : drawReads P pf ops ents hf = true)
    {σ : Sg} {a : Act} {w : World} (H : HRel P B w0 σ h w) (hts : LRel σ ts a.tmps.toList) (hd : a.defers = []) {id : Nat} {Q : Exit → Act → World → Prop}
    (hQ : ∀ (σ' : Sg) (a' : Act) (w' : World), σ.le σ' → LRel σ' tf a'.tmps.toList → HRel P B w0 σ' hf w' → a'.defers = [] → Q .normal a' w') : (Code.region id ops true).wp P Q a w :=
  draw_soundL hm hcall hpure hok ht hp (.inl hr) H hts hd hQ

end Go.Ideal

end
