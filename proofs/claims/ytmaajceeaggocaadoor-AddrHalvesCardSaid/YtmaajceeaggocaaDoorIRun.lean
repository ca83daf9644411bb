/- Runs of the ideal interpreter, whatever the fuel: rules. Over any program. -/
import Derived.Test.YtmaajceeaggocaaDoorIExec
set_option linter.unusedVariables false
set_option linter.unusedSimpArgs false
namespace Go.Ideal
open Go.RowKit

variable {P : Program} {O : Orc}

theorem opsI_mono {call call' : CallI} (hc : ∀ f args h r, call f args h = some r → call' f args h = some r) {all : List Oper} : ∀ {l : List Oper} {ts : List Value} {h : Heap} {r : List Value × Heap}, opsI P call all l ts h = some r → opsI P call' all l ts h = some r
  | [], ts, h, r, he => he
  | o :: l, ts, h, r, he => by
    have ho : ∀ {x}, operI P call o ts h = some x → operI P call' o ts h = some x := fun {x} hx => by
      unfold operI at hx ⊢
      split at hx
      · rename_i c hop
        split at hx
        · exact hx
        · split at hx
          · exact hc _ _ _ _ hx
          · cases hx
      · exact hx
    simp only [opsI] at he ⊢
    split at he
    · rename_i hw
      rw [if_pos hw]
      split at he
      · rename_i v h1 hv
        rw [ho hv]
        exact opsI_mono hc he
      · cases he
    · rename_i hw
      rw [if_neg hw]
      exact opsI_mono hc he

theorem opsT_mono {call call' : CallI} (hc : ∀ f args h r, call f args h = some r → call' f args h = some r) {all : List Oper} : ∀ {l : List Oper} {ts : List Value} {h : Heap} {r : List Ent × List Value × Heap}, opsT P call all l ts h = some r → opsT P call' all l ts h = some r
  | [], ts, h, r, he => he
  | o :: l, ts, h, r, he => by
    have ho : ∀ {x}, operI P call o ts h = some x → operI P call' o ts h = some x := fun {x} hx => by
      unfold operI at hx ⊢
      split at hx
      · rename_i c hop
        split at hx
        · exact hx
        · split at hx
          · exact hc _ _ _ _ hx
          · cases hx
      · exact hx
    simp only [opsT] at he ⊢
    split at he
    · rename_i hw
      rw [if_pos hw]
      split at he
      · rename_i v h1 hv
        rw [ho hv]
        simp only
        split at he
        · rename_i l2 r2 h2
          rw [opsT_mono hc h2]; exact he
        · cases he
      · cases he
    · rename_i hw
      rw [if_neg hw]
      split at he
      · rename_i l2 r2 h2
        rw [opsT_mono hc h2]; exact he
      · cases he

theorem callWith_mono {ex ex' : Code → List Value → Heap → Option (Ex × List Value × Heap)} (hx : ∀ c ts h r, ex c ts h = some r → ex' c ts h = some r) : ∀ f args h r, callWith P O ex f args h = some r → callWith P O ex' f args h = some r := by
  intro f args h r he
  unfold callWith at he ⊢
  split at he
  · exact he
  split at he
  · exact he
  · split at he
    · split at he
      · rename_i c hb
        split at he
        · rename_i ts h1 hr; rw [hx _ _ _ _ hr]; exact he
        · rename_i ts h1 hr; rw [hx _ _ _ _ hr]; exact he
        · cases he
      · exact he
    · cases he

theorem exec_mono : ∀ (n : Nat) (c : Code) (ts : List Value) (h : Heap) (r : Ex × List Value × Heap), exec P O n c ts h = some r → exec P O (n + 1) c ts h = some r
  | 0, _, _, _, _, he => by simp [exec] at he
  | n + 1, c, ts, h, r, he => by
    have ih := exec_mono n
    have ihc := callWith_mono (P := P) (O := O) ih
    cases c with
    | skip => exact he
    | label l => exact he
    | exit id => exact he
    | ret => exact he
    | goto l => exact he
    | refuse w => exact he
    | rangeFunc f ps as b => exact he
    | seq a b =>
      rw [exec] at he ⊢
      split at he
      · rename_i ts1 h1 h2; rw [ih _ _ _ _ h2]; exact ih _ _ _ _ he
      · rename_i hne
        rw [ih _ _ _ _ he]
        split
        · rename_i ts1 h1 h2; simp only [Option.some.injEq] at h2; subst h2; exact absurd he (hne ts1 h1)
        · rfl
    | cond c0 a b =>
      rw [exec] at he ⊢
      split at he
      · exact ih _ _ _ _ he
      · exact ih _ _ _ _ he
      · cases he
    | block id b =>
      rw [exec] at he ⊢
      split at he
      · rename_i id' ts1 h1 h2; rw [ih _ _ _ _ h2]; exact he
      · rename_i hne
        rw [ih _ _ _ _ he]
        split
        · rename_i id' ts1 h1 h2; simp only [Option.some.injEq] at h2; subst h2; exact absurd he (hne id' ts1 h1)
        · rfl
    | loop b =>
      rw [exec] at he ⊢
      split at he
      · rename_i ts1 h1 h2; rw [ih _ _ _ _ h2]; exact ih _ _ _ _ he
      · rename_i hne
        rw [ih _ _ _ _ he]
        split
        · rename_i ts1 h1 h2; simp only [Option.some.injEq] at h2; subst h2; exact absurd he (hne ts1 h1)
        · rfl
    | scope b => rw [exec] at he ⊢; exact ih _ _ _ _ he
    | region id ops draw =>
      cases draw with
      | false =>
        rw [exec] at he ⊢
        split at he
        · rename_i ts1 h1 h2; rw [opsI_mono ihc h2]; exact he
        · cases he
      | true =>
        rw [exec] at he ⊢
        split at he
        · rename_i ents ts1 h1 h2; rw [opsT_mono ihc h2]; exact he
        · cases he

theorem exec_le {n m : Nat} (h : n ≤ m) {c : Code} {ts : List Value} {hp : Heap} {r : Ex × List Value × Heap} (he : exec P O n c ts hp = some r) : exec P O m c ts hp = some r := by
  obtain ⟨d, rfl⟩ := Nat.exists_eq_add_of_le h
  induction d with
  | zero => exact he
  | succ d ih => exact exec_mono _ _ _ _ _ (ih (by omega))

def Runs (P : Program) (O : Orc) (c : Code) (ts : List Value) (h : Heap) (x : Ex) (ts' : List Value) (h' : Heap) : Prop := ∃ n, exec P O n c ts h = some (x, ts', h')

def Ops (P : Program) (O : Orc) (all l : List Oper) (ts : List Value) (h : Heap) (ts' : List Value) (h' : Heap) : Prop := ∃ n, opsI P (callWith P O (exec P O n)) all l ts h = some (ts', h')

def CallR (P : Program) (O : Orc) (f : FuncId) (args : List Value) (h : Heap) (v : Value) (h' : Heap) : Prop := ∃ n, callI P O n f args h = some (v, h')

section
variable {c a b : Code} {ts ts1 ts' : List Value} {h h1 h' : Heap} {x : Ex}

theorem Runs.of (n : Nat) (he : exec P O n c ts h = some (x, ts', h')) : Runs P O c ts h x ts' h' := ⟨n, he⟩
theorem Runs.skip : Runs P O .skip ts h .normal ts h := ⟨1, rfl⟩
theorem Runs.ret : Runs P O .ret ts h .ret ts h := ⟨1, rfl⟩
theorem Runs.exit {id : Nat} : Runs P O (.exit id) ts h (.exit id) ts h := ⟨1, rfl⟩
theorem Runs.label {l : Nat} : Runs P O (.label l) ts h .normal ts h := ⟨1, rfl⟩
theorem Runs.seq (ha : Runs P O a ts h .normal ts1 h1) (hb : Runs P O b ts1 h1 x ts' h') : Runs P O (.seq a b) ts h x ts' h' := by
  obtain ⟨n, ha⟩ := ha
  obtain ⟨m, hb⟩ := hb
  refine ⟨max n m + 1, ?_⟩
  rw [exec, exec_le (Nat.le_max_left n m) ha]
  exact exec_le (Nat.le_max_right n m) hb
theorem Runs.seq_out (ha : Runs P O a ts h x ts' h') (hx : x ≠ .normal) : Runs P O (.seq a b) ts h x ts' h' := by
  obtain ⟨n, ha⟩ := ha
  refine ⟨n + 1, ?_⟩
  rw [exec, ha]
  cases x with
  | normal => exact absurd rfl hx
  | exit id => rfl
  | ret => rfl
theorem Runs.cond_true {o : Operand} (hc : evI ts o = .bool true) (ha : Runs P O a ts h x ts' h') : Runs P O (.cond o a b) ts h x ts' h' := by
  obtain ⟨n, ha⟩ := ha
  exact ⟨n + 1, by rw [exec, hc]; exact ha⟩
theorem Runs.cond_false {o : Operand} (hc : evI ts o = .bool false) (hb : Runs P O b ts h x ts' h') : Runs P O (.cond o a b) ts h x ts' h' := by
  obtain ⟨n, hb⟩ := hb
  exact ⟨n + 1, by rw [exec, hc]; exact hb⟩
theorem Runs.block {id : Nat} (ha : Runs P O a ts h .normal ts' h') : Runs P O (.block id a) ts h .normal ts' h' := by
  obtain ⟨n, ha⟩ := ha
  exact ⟨n + 1, by rw [exec, ha]⟩
theorem Runs.block_ret {id : Nat} (ha : Runs P O a ts h .ret ts' h') : Runs P O (.block id a) ts h .ret ts' h' := by
  obtain ⟨n, ha⟩ := ha
  exact ⟨n + 1, by rw [exec, ha]⟩
theorem Runs.block_exit {id : Nat} (ha : Runs P O a ts h (.exit id) ts' h') : Runs P O (.block id a) ts h .normal ts' h' := by
  obtain ⟨n, ha⟩ := ha
  exact ⟨n + 1, by rw [exec, ha]; simp only [Nat.beq_refl]⟩
theorem Runs.block_other {id id' : Nat} (ha : Runs P O a ts h (.exit id') ts' h') (hne : Nat.beq id' id = false) : Runs P O (.block id a) ts h (.exit id') ts' h' := by
  obtain ⟨n, ha⟩ := ha
  exact ⟨n + 1, by rw [exec, ha]; simp only [hne]⟩
theorem Runs.scope (ha : Runs P O a ts h x ts' h') : Runs P O (.scope a) ts h x ts' h' := by
  obtain ⟨n, ha⟩ := ha
  exact ⟨n + 1, by rw [exec]; exact ha⟩
theorem Runs.loop (ha : Runs P O a ts h .normal ts1 h1) (hl : Runs P O (.loop a) ts1 h1 x ts' h') : Runs P O (.loop a) ts h x ts' h' := by
  obtain ⟨n, ha⟩ := ha
  obtain ⟨m, hl⟩ := hl
  refine ⟨max n m + 1, ?_⟩
  rw [exec, exec_le (Nat.le_max_left n m) ha]
  exact exec_le (Nat.le_max_right n m) hl
theorem Runs.loop_out (ha : Runs P O a ts h x ts' h') (hx : x ≠ .normal) : Runs P O (.loop a) ts h x ts' h' := by
  obtain ⟨n, ha⟩ := ha
  refine ⟨n + 1, ?_⟩
  rw [exec, ha]
  cases x with
  | normal => exact absurd rfl hx
  | exit id => rfl
  | ret => rfl
theorem Runs.region {id : Nat} {ops : Array Oper} (ho : Ops P O ops.toList ops.toList ts h ts' h') : Runs P O (.region id ops false) ts h .normal ts' h' := by
  obtain ⟨n, ho⟩ := ho
  exact ⟨n + 1, by rw [exec, ho]⟩

theorem callWith_le {n m : Nat} (hnm : n ≤ m) : ∀ f args h r, callWith P O (exec P O n) f args h = some r → callWith P O (exec P O m) f args h = some r :=
  callWith_mono fun _ _ _ _ he => exec_le hnm he

theorem Ops.nil {all : List Oper} : Ops P O all [] ts h ts h := ⟨0, rfl⟩
theorem Ops.off {all l : List Oper} {o : Oper} (hw : wantedI o all ts = false) (hr : Ops P O all l (putI ts o.dst undef) h ts' h') : Ops P O all (o :: l) ts h ts' h' := by
  obtain ⟨n, hr⟩ := hr
  exact ⟨n, by rw [opsI, hw]; exact hr⟩
theorem Ops.op {all l : List Oper} {o : Oper} {v : Value} (hw : wantedI o all ts = true) (hc : ∀ call, operI P call o ts h = some (v, h1)) (hr : Ops P O all l (putI ts o.dst v) h1 ts' h') : Ops P O all (o :: l) ts h ts' h' := by
  obtain ⟨n, hr⟩ := hr
  exact ⟨n, by rw [opsI, hw]; simp only [if_true, hc]; exact hr⟩
/-- A call: which function, with what. -/
theorem Ops.call {all l : List Oper} {o : Oper} {v : Value} {f : FuncId} {args : List Value} (hw : wantedI o all ts = true) (hc : ∀ call, operI P call o ts h = call f args h) (hf : CallR P O f args h v h1) (hr : Ops P O all l (putI ts o.dst v) h1 ts' h') : Ops P O all (o :: l) ts h ts' h' := by
  obtain ⟨n, hr⟩ := hr
  obtain ⟨m, hf⟩ := hf
  refine ⟨max n m, ?_⟩
  rw [opsI, hw]
  simp only [if_true, hc]
  have : callWith P O (exec P O (max n m)) f args h = some (v, h1) := callWith_le (Nat.le_max_right n m) _ _ _ _ hf
  rw [this]
  exact opsI_mono (callWith_le (Nat.le_max_left n m)) hr

theorem CallR.text {f : FuncId} {fn : Func} {c : Code} {args : List Value} {l : List Value} (hp : O.pure f = none) (hh : O.heap f args h = none) (hf : P.funcs[f]? = some fn) (hb : fn.body = some c)
    (hr : Runs P O c (args ++ List.replicate (fn.ntmps - args.length) undef) h x ts' h') (hx : x = .normal ∨ x = .ret) (hl : resultsI P ts' h' fn.results.toList = some l) : CallR P O f args h (tupleI l) h' := by
  obtain ⟨n, hr⟩ := hr
  refine ⟨n, ?_⟩
  unfold callI callWith
  simp only [hp, hh, hf, hb, hr]
  rcases hx with rfl | rfl <;> simp only [hl]
theorem CallR.pure {f : FuncId} {args : List Value} {g : List Value → Option Value} {v : Value} (hp : O.pure f = some g) (hg : g args = some v) : CallR P O f args h v h :=
  ⟨0, by unfold callI callWith; simp only [hp, hg]⟩
theorem CallR.heap {f : FuncId} {args : List Value} {v : Value} (hp : O.pure f = none) (hg : O.heap f args h = some (v, h')) : CallR P O f args h v h' :=
  ⟨0, by unfold callI callWith; simp only [hp, hg]⟩

/-! ### regions that draw -/
def OpsT (P : Program) (O : Orc) (all l : List Oper) (ts : List Value) (h : Heap) (ents : List Ent) (ts' : List Value) (h' : Heap) : Prop := ∃ n, opsT P (callWith P O (exec P O n)) all l ts h = some (ents, ts', h')

variable {ents : List Ent}
theorem OpsT.nil {all : List Oper} : OpsT P O all [] ts h [] ts h := ⟨0, rfl⟩
theorem OpsT.off {all l : List Oper} {o : Oper} (hw : wantedI o all ts = false) (hr : OpsT P O all l (putI ts o.dst undef) h ents ts' h') : OpsT P O all (o :: l) ts h (⟨false, undef, ts, h⟩ :: ents) ts' h' := by
  obtain ⟨n, hr⟩ := hr
  exact ⟨n, by rw [opsT, hw]; simp only [Bool.false_eq_true, if_false, hr]⟩
theorem OpsT.op {all l : List Oper} {o : Oper} {v : Value} (hw : wantedI o all ts = true) (hc : ∀ call, operI P call o ts h = some (v, h1)) (hr : OpsT P O all l (putI ts o.dst v) h1 ents ts' h') : OpsT P O all (o :: l) ts h (⟨true, v, ts, h⟩ :: ents) ts' h' := by
  obtain ⟨n, hr⟩ := hr
  exact ⟨n, by rw [opsT, hw]; simp only [if_true, hc, hr]⟩
theorem OpsT.call {all l : List Oper} {o : Oper} {v : Value} {f : FuncId} {args : List Value} (hw : wantedI o all ts = true) (hc : ∀ call, operI P call o ts h = call f args h) (hf : CallR P O f args h v h1) (hr : OpsT P O all l (putI ts o.dst v) h1 ents ts' h') : OpsT P O all (o :: l) ts h (⟨true, v, ts, h⟩ :: ents) ts' h' := by
  obtain ⟨n, hr⟩ := hr
  obtain ⟨m, hf⟩ := hf
  refine ⟨max n m, ?_⟩
  rw [opsT, hw]
  simp only [if_true, hc]
  have : callWith P O (exec P O (max n m)) f args h = some (v, h1) := callWith_le (Nat.le_max_right n m) _ _ _ _ hf
  rw [this]
  simp only [opsT_mono (callWith_le (Nat.le_max_left n m)) hr]
theorem Runs.draw {id : Nat} {ops : Array Oper} (ho : OpsT P O ops.toList ops.toList ts h ents ts' h') (hp : pairsOK P O.isPure ops (pres ops.toList []) 0 ops.toList = true) (hd : drawReads P O.isPure ops ents h' = true) :
    Runs P O (.region id ops true) ts h .normal ts' h' := by
  obtain ⟨n, ho⟩ := ho
  exact ⟨n + 1, by rw [exec]; simp only [ho, hp, hd, Bool.and_self]⟩

end
end Go.Ideal
