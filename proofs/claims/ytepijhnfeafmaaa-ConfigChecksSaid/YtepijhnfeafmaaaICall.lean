/- An operation, or a call, comes up: what the ideal interpreter answers the model answers. Over any program. -/
import Derived.Test.YtepijhnfeafmaaaIMap
import Derived.Tactics
import Derived.LoopN
import Derived.Scope
set_option linter.unusedVariables false
set_option linter.unusedSimpArgs false
namespace Go.Ideal
open Go.RowKit

/-- What is asked of a program: no text names an address; no function is one that the model answers itself. -/
structure ProgOK (P : Program) : Prop where
  mixed : P.follows .mixedOrders = true
  code : ∀ (f : FuncId) (fn : Func) (c : Code), P.funcs[f]? = some fn → fn.body = some c → codeOK P c = true
  name : ∀ (f : FuncId) (fn : Func), P.funcs[f]? = some fn → fn.body.isSome = true → (fn.name == "runtime.NumGoroutine") = false

variable {P : Program} {B : Nat} {w0 : Org}

def CallSound (P : Program) (B : Nat) (w0 : Org) (call : CallI) : Prop :=
  ∀ (f : FuncId) (args : List Value) (h : Heap) (v : Value) (h' : Heap), call f args h = some (v, h') → ∀ (σ : Sg) (w : World) (args' : Array Value), HRel P B w0 σ h w → LRel σ args args'.toList →
    ∀ (o : Oper) (a : Act) (K : Act → World → Prop) (Q : Exit → Act → World → Prop), execOp a.eval o = callFunc f args' →
      (∀ (σ' : Sg) (w' : World) (v' : Value), σ.le σ' → VRel σ' v v' → HRel P B w0 σ' h' w' → K (a.put o.dst v') w') → o.wp P a w K Q

theorem callFunc_enter (hP : ProgOK P) {f : FuncId} {fn : Func} {c : Code} (hf : P.funcs[f]? = some fn) (hb : fn.body = some c) (args : Array Value) (w : World) : (callFunc f args).run P w = .ok (.enter f args) w := by
  have hn := hP.name f fn hf (by simp [hb])
  simp only [callFunc, Sem.run_bind, run_program, Result.andThen_ok, hf, hn, Bool.false_eq_true, if_false, hb, Option.isNone_some, Sem.run_pure]

theorem Calls.wp_enter (hP : ProgOK P) {f : FuncId} {fn : Func} {c : Code} (hf : P.funcs[f]? = some fn) (hb : fn.body = some c) {args : Array Value} {w : World} {R : Value → World → Prop} {o : Oper} {a : Act} {K : Act → World → Prop} {Q : Exit → Act → World → Prop}
    (ho : execOp a.eval o = callFunc f args) (hc : Calls P f args w fun e w' => ∃ v, e = .returned v ∧ R v w') (hK : ∀ v w', R v w' → K (a.put o.dst v) w') : o.wp P a w K Q := by
  unfold Oper.wp
  rw [ho, callFunc_enter hP hf hb, Oper.upon_enter]
  refine hc.mono fun e w' he => ?_
  obtain ⟨v, rfl, hr⟩ := he
  exact hK v w' hr

theorem oper_wp {call : CallI} (hcall : CallSound P B w0 call) {σ : Sg} {h h' : Heap} {w : World} {ts : List Value} {a : Act} {o : Oper} {v : Value} {K : Act → World → Prop} {Q : Exit → Act → World → Prop}
    (H : HRel P B w0 σ h w) (hts : LRel σ ts a.tmps.toList) (hok : operOK P o = true) (he : operI P call o ts h = some (v, h'))
    (hK : ∀ (σ' : Sg) (w' : World) (v' : Value), σ.le σ' → VRel σ' v v' → HRel P B w0 σ' h' w' → K (a.put o.dst v') w') : o.wp P a w K Q := by
  have plain : opI P o ts h = some (v, h') → o.wp P a w K Q := fun he => by
    obtain ⟨σ', w', nx, v', k1, k2, k3, k4, k5⟩ := op_sound H hts hok he
    unfold Oper.wp
    rw [k2]
    rcases k3 with rfl | ⟨rfl, rfl⟩
    · exact hK σ' w' v' k1 k4 k5
    · exact hK σ' w' _ k1 k4 k5
  unfold operI at he
  split at he
  · rename_i c hop
    split at he
    · exact plain he
    · rename_i hnb
      split at he
      · rename_i f args hc
        have hargs : c.args.toList.all (operandOK P) = true ∧ (∀ x, c.callee = .value x → operandOK P x = true) := by
          simp only [operOK, hop, Op.operands, Call.operands, Array.toList_append, List.all_append, Bool.and_eq_true] at hok
          exact ⟨hok.2, fun x hx => by have := hok.1; rw [hx] at this; simpa using this⟩
        have hr := args_rel H hts hargs.1
        unfold calleeI at hc
        have hexec : ∀ x, c.callee = .value x → execOp a.eval o = (do let d ← Deferred.ofValue (a.eval x) (c.args.map a.eval); invoke d.target d.args) := fun x hx => by
          unfold execOp; rw [hop]; simp only [resolve, hx]
        split at hc
        · rename_i f2 hcal
          simp only [Option.some.injEq, Prod.mk.injEq] at hc; obtain ⟨rfl, rfl⟩ := hc
          refine hcall _ _ _ _ _ he σ w (c.args.map a.eval) H (by rw [Array.toList_map]; exact hr) o a K Q ?_ hK
          rw [hexec _ hcal]
          show callFunc f2 ((#[] ++ c.args.map a.eval) ++ #[]) = _
          simp
        · rename_i x hxne hcal
          split at hc
          · rename_i f2 first cap hev
            simp only [Option.some.injEq, Prod.mk.injEq] at hc; obtain ⟨rfl, rfl⟩ := hc
            have k := ev_sound H hts (hargs.2 _ hcal)
            rw [hev] at k
            generalize hq : a.eval x = q at k
            cases k with
            | func _ ha hcc h1 h2 =>
              rename_i a' c'
              obtain ⟨_, q1, q2⟩ := VRel.func_lists (.func (.func f2) ha hcc h1 h2)
              refine hcall _ _ _ _ _ he σ w ((a' ++ c.args.map a.eval) ++ c') H ?_ o a K Q ?_ hK
              · rw [Array.toList_append, Array.toList_append, Array.toList_map]
                exact (q1.append hr).append q2
              · rw [hexec _ hcal, hq]; rfl
          · cases hc
        · cases hc
      · cases he
  · exact plain he

theorem wanted_rel {σ : Sg} {ops : Array Oper} {o : Oper} {ts : List Value} {a : Act} (hts : LRel σ ts a.tmps.toList) : wantedI o ops.toList ts = Region.wanted o (yielded ops a.tmps) := by
  unfold wantedI Region.wanted
  cases hg : o.guard with
  | none => rfl
  | some gw =>
    obtain ⟨j, want⟩ := gw
    simp only [yieldedI, yielded]
    rw [Array.getElem?_toList]
    cases hd : (ops[j]?).bind (·.dst) with
    | none => rfl
    | some t =>
      simp only [Option.bind_some]
      cases ht : ts[t]? with
      | none =>
        have : a.tmps[t]? = none := by
          rw [List.getElem?_eq_none_iff] at ht
          rw [Array.getElem?_eq_none_iff]
          have := hts.len
          simp only [Array.length_toList] at this
          omega
        rw [this]; rfl
      | some v =>
        obtain ⟨v', k1, k2⟩ := hts.get? _ _ ht
        rw [Array.getElem?_toList] at k1
        rw [k1]
        cases k2 with
        | frz t' _ hf => cases hf with
          | any hr => cases v' <;> first | rfl | (cases want <;> simp [refLike] at hr)
          | _ => cases want <;> rfl
        | _ => first | rfl | (cases want <;> rename_i b <;> cases b <;> rfl)

theorem put_rel {σ : Sg} {ts : List Value} {a : Act} (hts : LRel σ ts a.tmps.toList) {v v' : Value} (hv : VRel σ v v') (dst : Option Tmp) : LRel σ (putI ts dst v) (a.put dst v').tmps.toList := by
  cases dst with
  | none => exact hts
  | some d => simp only [putI, Act.put, Array.toList_setIfInBounds]; exact hts.set hv d

theorem put_defers (a : Act) (dst : Option Tmp) (v : Value) : (a.put dst v).defers = a.defers := by cases dst <;> rfl

/-- A region in the order of its text. -/
theorem ops_sound {call : Nat → CallI} (hcall : ∀ k, CallSound P B w0 (call k)) {ops : Array Oper} {Q : Exit → Act → World → Prop} : ∀ (l : List Oper) (σ : Sg) (h h' : Heap) (w : World) (ts ts' : List Value) (a : Act), l.all (operOK P) = true →
    HRel P B w0 σ h w → LRel σ ts a.tmps.toList → a.defers = [] → opsI P call ops.toList l ts h = some (ts', h') →
    (∀ (σ' : Sg) (a' : Act) (w' : World), σ.le σ' → LRel σ' ts' a'.tmps.toList → HRel P B w0 σ' h' w' → a'.defers = [] → Q .normal a' w') → wpList P ops Q l a w
  | [], σ, h, h', w, ts, ts', a, _, H, hts, hd, he, hK => by
    simp only [opsI, Option.some.injEq, Prod.mk.injEq] at he; obtain ⟨rfl, rfl⟩ := he
    exact hK σ a w (Sg.le_refl σ) hts H hd
  | o :: rest, σ, h, h', w, ts, ts', a, hok, H, hts, hd, he, hK => by
    simp only [List.all_cons, Bool.and_eq_true] at hok
    simp only [opsI] at he
    simp only [wpList]
    rw [wanted_rel (a := a) hts] at he
    split at he
    · rename_i hw
      rw [if_pos hw]
      split at he
      · rename_i v h1 ho
        refine .inl (oper_wp (hcall 0) H hts hok.1 ho fun σ' w' v' k1 k2 k3 => ?_)
        exact ops_sound (fun k => hcall (k + 1)) rest σ' h1 h' w' _ ts' _ hok.2 k3 (put_rel (hts.mono k1) k2 o.dst) (by rw [put_defers]; exact hd) he fun σ2 a2 w2 q1 q2 q3 q4 => hK σ2 a2 w2 (Sg.le_trans k1 q1) q2 q3 q4
      · cases he
    · rename_i hw
      rw [if_neg hw]
      exact ops_sound (fun k => hcall (k + 1)) rest σ h h' w _ ts' _ hok.2 H (put_rel hts (VRel.undef σ) o.dst) (by rw [put_defers]; exact hd) he hK

/-! ### results -/
theorem result_run {σ : Sg} {h : Heap} {w : World} {ts : List Value} {a : Act} (H : HRel P B w0 σ h w) (hts : LRel σ ts a.tmps.toList) {r : ResultVar} {v : Value} (hr : resultI P ts h r = some v) :
    ∃ v', ((match r with
      | .tmp t => pure (a.tmps.getD t Go.undef)
      | .cell x t => do loadVar t (← asAddr (a.tmps.getD x Go.undef))) : Sem Value).run P w = .ok v' w ∧ VRel σ v v' := by
  cases r with
  | tmp t =>
    simp only [resultI, Option.some.injEq] at hr; subst hr
    exact ⟨a.tmps.getD t Go.undef, by simp only [Sem.run_pure], by have := hts.getD t; simpa using this⟩
  | cell x t =>
    simp only [resultI] at hr
    split at hr
    · rename_i ad e
      have k := hts.getD x
      rw [e] at k
      obtain ⟨ad', e', hA⟩ := k.ptr_inv
      obtain ⟨v', k1, k2⟩ := load_sound H hr hA
      refine ⟨v', ?_, k2⟩
      have e2 : a.tmps.getD x Go.undef = .pointer (some ad') := by rw [← e']; simp
      simp only [e2, asAddr, Sem.run_bind, Sem.run_pure, Result.andThen_ok, k1]
    · cases hr

theorem results_mapM {σ : Sg} {h : Heap} {w : World} {ts : List Value} {a : Act} (H : HRel P B w0 σ h w) (hts : LRel σ ts a.tmps.toList) : ∀ {rs : List ResultVar} {l : List Value}, resultsI P ts h rs = some l →
    ∃ l', (rs.mapM fun r => ((match r with
      | .tmp t => pure (a.tmps.getD t Go.undef)
      | .cell x t => do loadVar t (← asAddr (a.tmps.getD x Go.undef))) : Sem Value)).run P w = .ok l' w ∧ LRel σ l l'
  | [], l, hr => by simp only [resultsI, Option.some.injEq] at hr; subst hr; exact ⟨[], by simp, .nil⟩
  | r :: rs, l, hr => by
    simp only [resultsI] at hr
    split at hr
    · rename_i v l2 h1 h2
      simp only [Option.some.injEq] at hr; subst hr
      obtain ⟨v', k1, k2⟩ := result_run H hts h1
      obtain ⟨l', q1, q2⟩ := results_mapM H hts h2
      exact ⟨v' :: l', by simp only [List.mapM_cons, Sem.run_bind, k1, Result.andThen_ok, q1, Sem.run_pure], .cons k2 q2⟩
    · cases hr

theorem results_sound {σ : Sg} {h : Heap} {w : World} {ts : List Value} {a : Act} (H : HRel P B w0 σ h w) (hts : LRel σ ts a.tmps.toList) {fn : Func} {l : List Value} (hr : resultsI P ts h fn.results.toList = some l) :
    ∃ v', (results fn a.tmps).run P w = .ok v' w ∧ VRel σ (tupleI l) v' := by
  obtain ⟨l', k1, k2⟩ := results_mapM H hts hr
  refine ⟨if h : l'.toArray.size = 1 then l'.toArray[0] else .tuple l'.toArray, ?_, ?_⟩
  · unfold results
    rw [Array.mapM_eq_mapM_toList]
    simp only [Sem.run_bind, Sem.run_map, k1, Result.andThen_ok, Sem.run_pure]
    exact congrArg (fun r : Result (List Value) => (r.andThen fun a w' => Result.ok a.toArray w').andThen fun a w' => Result.ok (if h : a.size = 1 then a[0] else Value.tuple a) w') k1
  · cases k2 with
    | nil => exact VRel.tuple_of .nil
    | cons hv ht => cases ht with
      | nil => simpa [tupleI] using hv
      | cons hv2 ht2 => simpa [tupleI] using VRel.tuple_of (a := (_ :: _ :: _ : List Value).toArray) (a' := (_ :: _ :: _ : List Value).toArray) (.cons hv (.cons hv2 ht2))

end Go.Ideal
