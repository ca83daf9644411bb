/- A region that draws its order: whatever order it is, the ideal interpreter's answers in the text's order are the model's. Over any program. -/
import Derived.Test.YtepijhnfeafmaaaICall
set_option linter.unusedVariables false
set_option linter.unusedSimpArgs false
namespace Go.Ideal
open Go.RowKit

/-! ### what an operation hangs on -/
theorem flatOp_congr {ts ts2 : List Value} {x : Operand} (h : evI ts x = evI ts2 x) : flatOp ts x = flatOp ts2 x := by
  cases x with
  | global g => rfl
  | tmp t => simp only [flatOp, h]
  | const v => rfl
  | func f => rfl

theorem parts_congr {ts ts2 : List Value} : ∀ (l : List (Nat × Operand)), (∀ x ∈ l.map (·.2), evI ts x = evI ts2 x) → (l.map fun p => (p.1, evI ts p.2)) = l.map fun p => (p.1, evI ts2 p.2)
  | [], _ => rfl
  | p :: l, h => by simp only [List.map_cons]; rw [h p.2 (by simp), parts_congr l fun x hx => h x (by simp at hx ⊢; exact .inr hx)]

theorem opt_congr {ts ts2 : List Value} {x : Option Operand} (h : ∀ y ∈ x.toList, evI ts y = evI ts2 y) : x.map (evI ts) = x.map (evI ts2) := by
  cases x with
  | none => rfl
  | some x => simp [h x (by simp)]

theorem list_congr {ts ts2 : List Value} {l : List Operand} (h : ∀ y ∈ l, evI ts y = evI ts2 y) : l.map (evI ts) = l.map (evI ts2) := List.map_congr_left h

theorem all_flat_congr {ts ts2 : List Value} {l : List Operand} (h : ∀ y ∈ l, evI ts y = evI ts2 y) : l.all (flatOp ts) = l.all (flatOp ts2) := by
  induction l with
  | nil => rfl
  | cons x l ih => simp only [List.all_cons]; rw [flatOp_congr (h x (by simp)), ih fun y hy => h y (by simp [hy])]

theorem opB_congr (P : Program) {o : Oper} {ts ts2 : List Value} (h : Heap) (hx : ∀ x ∈ o.op.operands, evI ts x = evI ts2 x) : opB P o ts h = opB P o ts2 h := by
  obtain ⟨dst, op, ty, pos, after, guard⟩ := o
  cases op <;> simp only [Op.operands] at hx <;> simp only [opB]
  case build t ps => rw [parts_congr ps.toList fun x hx' => hx x (by simpa using hx')]
  case buildSlice t n ps => rw [parts_congr ps.toList fun x hx' => hx x (by simpa using hx')]
  case binOp op t x y t2 =>
    have h1 := hx x (by simp); have h2 := hx y (by simp)
    rw [flatOp_congr h1, flatOp_congr h2, h1, h2, execOp_congr (ρ := evI ts) (ρ' := evI ts2) ⟨dst, .binOp op t x y t2, ty, pos, after, guard⟩ (by intro cs b hh; cases hh) (by simpa [Op.operands] using ⟨h1, h2⟩)]
  case unOp op t x =>
    have h1 := hx x (by simp)
    rw [flatOp_congr h1, execOp_congr (ρ := evI ts) (ρ' := evI ts2) ⟨dst, .unOp op t x, ty, pos, after, guard⟩ (by intro cs b hh; cases hh) (by simpa [Op.operands] using h1)]
  case convert s d x => have h1 := hx x (by simp); rw [flatOp_congr h1, h1]
  case makeFunc fn x y => rw [list_congr fun z hz => hx z (by simp at hz ⊢; exact .inl hz), list_congr (l := y.toList) fun z hz => hx z (by simp at hz ⊢; exact .inr hz)]
  case slice t x lo hi mx =>
    rw [hx x (by simp), opt_congr (x := lo) fun z hz => hx z (by simp at hz ⊢; exact .inr (.inl hz)), opt_congr (x := hi) fun z hz => hx z (by simp at hz ⊢; exact .inr (.inr (.inl hz))),
      opt_congr (x := mx) fun z hz => hx z (by simp at hz ⊢; exact .inr (.inr (.inr hz)))]
  case next x b => cases b <;> simp only [opB]; rw [hx x (by simp)]
  case call c =>
    obtain ⟨callee, args, argTypes⟩ := c
    cases callee with
    | value f => rfl
    | invoke r m => rfl
    | builtin b =>
      have hl : ∀ y ∈ args.toList, evI ts y = evI ts2 y := fun y hy => hx y (by simpa [Call.operands] using hy)
      simp only [opB]
      rw [list_congr hl, all_flat_congr hl, execOp_congr (ρ := evI ts) (ρ' := evI ts2) ⟨dst, .call ⟨.builtin b, args, argTypes⟩, ty, pos, after, guard⟩ (by intro cs b hh; cases hh) (by intro y hy; exact hl y (by simpa [Op.operands, Call.operands] using hy))]
  all_goals (try rfl)
  all_goals (simp_all; done)


theorem builtin_still {P : Program} {b : Builtin} (hb : b = .len ∨ b = .max ∨ b = .min) (argTypes : Array TypeId) (l : List Value) (h h2 : Heap) : builtinI P h2 b argTypes l = (builtinI P h b argTypes l).map fun x => (x.1, h2) := by
  rcases hb with rfl | rfl | rfl
  · match l with
    | [] => rfl
    | [x] => simp only [builtinI]; (repeat' split) <;> simp_all
    | _ :: _ :: _ => rfl
  · match l with
    | [] => rfl
    | [x] => cases x <;> rfl
    | [x, y] => cases x <;> cases y <;> rfl
    | x :: y :: _ :: _ => cases x <;> first | rfl | (cases y <;> rfl)
  · match l with
    | [] => rfl
    | [x] => cases x <;> rfl
    | [x, y] => cases x <;> cases y <;> rfl
    | x :: y :: _ :: _ => cases x <;> first | rfl | (cases y <;> rfl)

theorem quietB_heap {P : Program} {pf : FuncId → Bool} {o : Oper} {ts : List Value} {h h' : Heap} {v : Value} (hq : isLoud P pf o.op = false) (he : opB P o ts h = some (v, h')) : h' = h := by
  have bind_same : ∀ {x : Option Next}, (x.bind fun
      | .value v => if flat v then some (v, h) else none
      | _ => none) = some (v, h') → h' = h := fun {x} hx => by
    cases x with
    | none => cases hx
    | some nx => cases nx <;> simp only [Option.bind_some] at hx <;> first | (cases hx; done) | (simp only [Option.ite_none_right_eq_some, Option.some.injEq, Prod.mk.injEq] at hx; exact hx.2.2.symm)
  have map_same : ∀ {α : Type} {f : α → Value} {x : Option α}, (x.map fun v => (f v, h)) = some (v, h') → h' = h := fun {α f x} hx => by
    cases x with
    | none => cases hx
    | some u => simp only [Option.map_some, Option.some.injEq, Prod.mk.injEq] at hx; exact hx.2.symm
  obtain ⟨dst, op, ty, pos, after, guard⟩ := o
  cases op <;> (try simp only [isLoud, Bool.true_eq_false] at hq) <;> (try simp only [opB] at he)
  case call c =>
    obtain ⟨callee, args, argTypes⟩ := c
    cases callee with
    | value f => simp [opB] at he
    | invoke r m => simp [isLoud] at hq
    | builtin b =>
      have hbb : b = .len ∨ b = .max ∨ b = .min := by cases b <;> simp [isLoud] at hq <;> simp
      simp only [opB] at he
      split at he
      · rename_i r hr
        simp only [Option.some.injEq] at he; subst he
        have := builtin_still (P := P) hbb argTypes (args.toList.map (evI ts)) h h
        rw [hr] at this
        simp only [Option.map_some, Option.some.injEq, Prod.mk.injEq, true_and] at this
        exact this
      · split at he
        · exact bind_same he
        · cases he
  case convert s d x =>
    split at he
    · rename_i hd _; simp [hd] at hq
    · split at he
      · split at he
        · simp only [Option.some.injEq, Prod.mk.injEq] at he; exact he.2.symm
        · split at he
          · exact (by
              generalize bytesI _ = bx at he
              cases bx with
              | none => cases he
              | some l => simp only [Option.map_some, Option.some.injEq, Prod.mk.injEq] at he; exact he.2.symm)
          · cases he
      · cases he
    · simp only [Option.ite_none_right_eq_some] at he
      generalize pureRun _ _ = px at he
      cases px with
      | none => simp at he
      | some u => simp only [Option.bind_some, Option.ite_none_right_eq_some, Option.some.injEq, Prod.mk.injEq] at he; exact he.2.2.2.symm
  all_goals
    first
      | (simp only [Option.some.injEq, Prod.mk.injEq] at he; exact he.2.symm)
      | exact map_same he
      | ((repeat' split at he) <;> first
          | (cases he; done)
          | exact map_same he
          | exact bind_same he
          | (simp only [Option.some.injEq, Prod.mk.injEq] at he; exact he.2.symm)
          | (simp only [Option.ite_none_right_eq_some, Option.some.injEq, Prod.mk.injEq] at he; exact he.2.2.symm)
          | (simp only [Option.ite_none_right_eq_some] at he; exact map_same he.2))

theorem pureB_any {P : Program} {pf : FuncId → Bool} {o : Oper} {ts : List Value} {h : Heap} {v : Value} (hq : isLoud P pf o.op = false) (hr : readsHeap o.op = false) (he : opB P o ts h = some (v, h)) (h2 : Heap) : opB P o ts h2 = some (v, h2) := by
  obtain ⟨dst, op, ty, pos, after, guard⟩ := o
  have map_any : ∀ {α : Type} {f : α → Value} {x : Option α}, (x.map fun v => (f v, h)) = some (v, h) → (x.map fun v => (f v, h2)) = some (v, h2) := fun {α f x} hx => by
    cases x with
    | none => cases hx
    | some u => simp only [Option.map_some, Option.some.injEq, Prod.mk.injEq] at hx ⊢; exact ⟨hx.1, trivial⟩
  have bind_any : ∀ {x : Option Next}, (x.bind fun
      | .value v => if flat v then some (v, h) else none
      | _ => none) = some (v, h) → (x.bind fun
      | .value v => if flat v then some (v, h2) else none
      | _ => none) = some (v, h2) := fun {x} hx => by
    cases x with
    | none => cases hx
    | some nx => cases nx <;> simp only [Option.bind_some] at hx ⊢ <;> first | (cases hx; done) | (simp only [Option.ite_none_right_eq_some, Option.some.injEq, Prod.mk.injEq] at hx ⊢; exact ⟨hx.1, hx.2.1, trivial⟩)
  cases op <;> (try simp only [isLoud, Bool.true_eq_false] at hq) <;> (try simp only [readsHeap, Bool.true_eq_false] at hr) <;> (try simp only [opB] at he ⊢)
  case call c =>
    obtain ⟨callee, args, argTypes⟩ := c
    cases callee with
    | value f => simp [opB] at he
    | invoke r m => simp [isLoud] at hq
    | builtin b =>
      have hbb : b = .len ∨ b = .max ∨ b = .min := by cases b <;> simp [isLoud] at hq <;> simp
      simp only [opB] at he ⊢
      rw [builtin_still hbb argTypes (args.toList.map (evI ts)) h h2]
      cases hc : builtinI P h b argTypes (args.toList.map (evI ts)) with
      | none => rw [hc] at he; simp only [Option.map_none] at he ⊢; split at he <;> first | (simp only [*]; exact bind_any he) | (cases he)
      | some r => rw [hc] at he; simp only [Option.some.injEq] at he; subst he; rfl
  case typeAssert x xt at_ ok =>
    split at he
    · cases he
    · cases he
    · simp only [Option.ite_none_right_eq_some, Option.some.injEq, Prod.mk.injEq] at he ⊢
      exact ⟨he.1, he.2.1, trivial⟩
    · cases he
  all_goals
    first
      | (simp only [Option.some.injEq, Prod.mk.injEq] at he ⊢; exact ⟨he.1, trivial⟩)
      | exact map_any he
      | ((repeat' split at he) <;> first
          | (cases he; done)
          | (simp_all; done)
          | (simp only [*]; exact map_any he)
          | (simp only [*]; exact bind_any he)
          | (simp_all; exact bind_any he))


theorem opV_congr (P : Program) {o : Oper} {ts ts2 : List Value} {told : Option Value} (hx : ∀ x ∈ o.op.operands, evI ts x = evI ts2 x) : opV P o ts told = opV P o ts2 told := by
  obtain ⟨dst, op, ty, pos, after, guard⟩ := o
  cases op <;> simp only [Op.operands] at hx <;> simp only [opV]
  case slice t x lo hi mx =>
    rw [hx x (by simp), opt_congr (x := lo) fun z hz => hx z (by simp at hz ⊢; exact .inr (.inl hz)), opt_congr (x := hi) fun z hz => hx z (by simp at hz ⊢; exact .inr (.inr (.inl hz))),
      opt_congr (x := mx) fun z hz => hx z (by simp at hz ⊢; exact .inr (.inr (.inr hz)))]
  case binOp op t x y t2 =>
    have h1 := hx x (by simp); have h2 := hx y (by simp)
    cases op <;> simp only [opV, h1, h2]
  case call c =>
    obtain ⟨callee, args, argTypes⟩ := c
    cases callee with
    | value f => rfl
    | invoke r m => rfl
    | builtin b =>
      have hl : ∀ y ∈ args.toList, evI ts y = evI ts2 y := fun y hy => hx y (by simpa [Call.operands] using hy)
      cases b <;> simp only [opV]
      rw [list_congr hl]
  all_goals (try rfl)
  all_goals (simp_all; done)

theorem opH_congr (P : Program) {o : Oper} {ts ts2 : List Value} {h : Heap} {told : Option Value} (hx : ∀ x ∈ o.op.operands, evI ts x = evI ts2 x) : opH P o ts h told = opH P o ts2 h told := by
  obtain ⟨dst, op, ty, pos, after, guard⟩ := o
  cases op <;> simp only [Op.operands] at hx <;> simp only [opH]
  case call c =>
    obtain ⟨callee, args, argTypes⟩ := c
    cases callee with
    | value f => rfl
    | invoke r m => rfl
    | builtin b =>
      have hl : ∀ y ∈ args.toList, evI ts y = evI ts2 y := fun y hy => hx y (by simpa [Call.operands] using hy)
      cases b <;> simp only [opH] <;> rw [list_congr hl]
  all_goals (try rfl)
  all_goals (simp_all; done)

theorem opI_congr (P : Program) {o : Oper} {ts ts2 : List Value} (h : Heap) (hx : ∀ x ∈ o.op.operands, evI ts x = evI ts2 x) : opI P o ts h = opI P o ts2 h := by
  unfold opI
  rw [opB_congr P h hx, opV_congr P hx, opH_congr P hx]

theorem quietH_none {P : Program} {pf : FuncId → Bool} {o : Oper} {ts : List Value} {h : Heap} {told : Option Value} (hq : isLoud P pf o.op = false) : opH P o ts h told = none := by
  obtain ⟨dst, op, ty, pos, after, guard⟩ := o
  cases op <;> (try simp only [isLoud, Bool.true_eq_false] at hq) <;> (try rfl)
  case call c =>
    obtain ⟨callee, args, argTypes⟩ := c
    cases callee with
    | value f => rfl
    | invoke r m => rfl
    | builtin b =>
      cases b <;> (try simp only [isLoud, Bool.true_eq_false] at hq) <;> (try rfl)
      simp only [opH]
      split
      · rename_i i t ea h0
        split
        · rename_i kt et ks vs hu hm
          rw [h0] at hq
          simp only [Option.bind_some, hu, Bool.true_eq_false] at hq
        · rfl
      · rfl

theorem quiet_heap {P : Program} {pf : FuncId → Bool} {o : Oper} {ts : List Value} {h h' : Heap} {v : Value} (hq : isLoud P pf o.op = false) (he : opI P o ts h = some (v, h')) : h' = h := by
  unfold opI at he
  split at he
  · rename_i r hr; simp only [Option.some.injEq] at he; subst he; exact quietB_heap hq hr
  · split at he
    · split at he
      · simp only [Option.some.injEq, Prod.mk.injEq] at he; exact he.2.symm
      · cases he
    · rw [quietH_none hq] at he; cases he

theorem pure_any {P : Program} {pf : FuncId → Bool} {o : Oper} {ts : List Value} {h : Heap} {v : Value} (hq : isLoud P pf o.op = false) (hr : readsHeap o.op = false) (he : opI P o ts h = some (v, h)) (h2 : Heap) : opI P o ts h2 = some (v, h2) := by
  unfold opI at he ⊢
  split at he
  · rename_i r hb
    simp only [Option.some.injEq] at he; subst he
    rw [pureB_any hq hr hb h2]
  · rename_i hb
    have hb2 : opB P o ts h2 = none := by
      cases hc : opB P o ts h2 with
      | none => rfl
      | some r =>
        obtain ⟨u, h3⟩ := r
        have := quietB_heap hq hc
        subst this
        rw [pureB_any hq hr hc h] at hb; cases hb
    rw [hb2]
    simp only
    split at he
    · split at he
      · rename_i ht; simp only [Option.some.injEq, Prod.mk.injEq] at he; rw [he.1]
      · cases he
    · rw [quietH_none hq] at he; cases he

/-- Of these functions a call touches no memory, and hangs on none. -/
def PureCall (call : CallI) (pf : FuncId → Bool) : Prop :=
  ∀ f, pf f = true → ∀ args h v h', call f args h = some (v, h') → h' = h ∧ ∀ h2, call f args h2 = some (v, h2)

theorem operI_reads {P : Program} {call : CallI} {o : Oper} (hr : readsHeap o.op = true) (ts : List Value) (h : Heap) : operI P call o ts h = opI P o ts h := by
  unfold operI
  split
  · rename_i c hc; rw [hc] at hr; simp [readsHeap] at hr
  · rfl

theorem quietI_heap {P : Program} {pf : FuncId → Bool} {call : CallI} (hp : PureCall call pf) {o : Oper} {ts : List Value} {h h' : Heap} {v : Value} (hq : isLoud P pf o.op = false) (he : operI P call o ts h = some (v, h')) :
    h' = h ∧ (readsHeap o.op = false → ∀ h2, operI P call o ts h2 = some (v, h2)) := by
  unfold operI at he ⊢
  split at he
  · rename_i c hc
    split at he
    · have hh := quiet_heap hq he
      subst hh
      exact ⟨rfl, fun hr h2 => pure_any hq hr he h2⟩
    · rename_i hnb
      rw [hc] at hq
      obtain ⟨callee, args, argTypes⟩ := c
      cases callee with
      | builtin b => exact absurd rfl (hnb b)
      | invoke r m => simp [isLoud] at hq
      | value x =>
        cases x with
        | func f =>
          have hpf : pf f = true := by simpa [isLoud] using hq
          simp only [calleeI] at he ⊢
          obtain ⟨k1, k2⟩ := hp f hpf _ _ _ _ he
          exact ⟨k1, fun _ h2 => k2 h2⟩
        | tmp t => simp [isLoud] at hq
        | const v => simp [isLoud] at hq
        | global g => simp [isLoud] at hq
  · rename_i hnc
    have hh := quiet_heap hq he
    subst hh
    exact ⟨rfl, fun hr h2 => pure_any hq hr he h2⟩

end Go.Ideal
