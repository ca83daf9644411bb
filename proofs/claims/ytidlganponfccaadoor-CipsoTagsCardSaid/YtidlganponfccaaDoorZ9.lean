/- Texts packed together: IExec ISem IPure IBor ITrim IPool2. -/
import Derived.Test.YtidlganponfccaaDoorZ8
section
/- What the ideal interpreter runs the model runs, to a related end: the soundness theorem. Over any program. -/
set_option linter.unusedVariables false
set_option linter.unusedSimpArgs false
namespace Go.Ideal
open Go.RowKit

variable {P : Program} {B : Nat} {w0 : Org}

def Ex.toExit : Ex → Exit
  | .normal => .normal
  | .exit id => .exit id
  | .ret => .ret

def After (P : Program) (B : Nat) (w0 : Org) (σ : Sg) (ex : Ex) (ts : List Value) (h : Heap) : Exit → Act → World → Prop :=
  fun e a w => e = ex.toExit ∧ ∃ σ', σ.le σ' ∧ LRel σ' ts a.tmps.toList ∧ HRel P B w0 σ' h w ∧ a.defers = []

theorem After.weaken {σ σ' : Sg} (hle : σ.le σ') {ex : Ex} {ts : List Value} {h : Heap} {e : Exit} {a : Act} {w : World} (k : After P B w0 σ' ex ts h e a w) : After P B w0 σ ex ts h e a w := by
  obtain ⟨k1, σ2, k2, k3⟩ := k
  exact ⟨k1, σ2, Sg.le_trans hle k2, k3⟩

/-- A call of a function that has a text. -/
theorem call_text (hP : ProgOK P) {ex : Code → List Value → Heap → Option (Ex × List Value × Heap)}
    (hex : ∀ (c : Code) (ts : List Value) (h : Heap) (x : Ex) (ts' : List Value) (h' : Heap), codeOK P c = true → ex c ts h = some (x, ts', h') → ∀ (σ : Sg) (a : Act) (w : World), HRel P B w0 σ h w → LRel σ ts a.tmps.toList → a.defers = [] →
      c.wp P (After P B w0 σ x ts' h') a w)
    {f : FuncId} {fn : Func} {c : Code} (hf : P.funcs[f]? = some fn) (hb : fn.body = some c) {args : List Value} {h h' h'' : Heap} {ts' : List Value} {x : Ex} {l : List Value} (hx : x = .normal ∨ x = .ret)
    (he : ex c (args ++ List.replicate (fn.ntmps - args.length) Go.undef) h = some (x, ts', h')) (hr : resultsI P ts' h' fn.results.toList = some l) (hh : h'' = h') {σ : Sg} {w : World} {args' : Array Value} (H : HRel P B w0 σ h w) (ha : LRel σ args args'.toList) :
    Calls P f args' w fun e w' => ∃ v', e = .returned v' ∧ ∃ σ', σ.le σ' ∧ VRel σ' (tupleI l) v' ∧ HRel P B w0 σ' h'' w' := by
  subst hh
  refine calls_of_wp hf hb (Go.wp_mono (hex c _ h x ts' h'' (hP.code f fn c hf hb) he σ _ w H ?_ rfl) fun e a w2 k => ?_)
  · have hl := ha.len
    simp only [Array.length_toList] at hl
    simp only [Array.toList_append, Array.toList_replicate]
    rw [hl]
    exact ha.append (LRel.replicate σ _)
  · obtain ⟨k1, σ', k2, k3, k4, k5⟩ := k
    obtain ⟨v', q1, q2⟩ := results_sound k4 k3 hr
    rcases hx with rfl | rfl <;> (subst k1; exact ⟨k5, v', q1, v', rfl, σ', k2, q2, k4⟩)

/-- What is known of functions is so. -/
structure OrcSound (P : Program) (B : Nat) (w0 : Org) (O : Orc) : Prop where
  pure : CallSound P B w0 fun f args h => match O.pure f with
    | some g => match g args with
      | some v => some (v, h)
      | none => none
    | none => none
  heap : CallSound P B w0 O.heap

theorem callWith_pure (P : Program) (O : Orc) (ex : Code → List Value → Heap → Option (Ex × List Value × Heap)) : PureCall (callWith P O ex) O.isPure := by
  intro f hf args h v h' he
  unfold Orc.isPure at hf
  unfold callWith at he ⊢
  cases hp : O.pure f with
  | none => rw [hp] at hf; cases hf
  | some g =>
    simp only [hp] at he ⊢
    cases hg : g args with
    | none => simp [hg] at he
    | some u => simp only [hg, Option.some.injEq, Prod.mk.injEq] at he ⊢; exact ⟨he.2.symm, fun h2 => ⟨he.1, trivial⟩⟩

theorem callWith_sound (hP : ProgOK P) {O : Orc} (horc : OrcSound P B w0 O) {ex : Code → List Value → Heap → Option (Ex × List Value × Heap)}
    (hex : ∀ (c : Code) (ts : List Value) (h : Heap) (x : Ex) (ts' : List Value) (h' : Heap), codeOK P c = true → ex c ts h = some (x, ts', h') → ∀ (σ : Sg) (a : Act) (w : World), HRel P B w0 σ h w → LRel σ ts a.tmps.toList → a.defers = [] →
      c.wp P (After P B w0 σ x ts' h') a w) : CallSound P B w0 (callWith P O ex) := by
  intro f args h v h' he σ w args' H ha o a K Q ho hK
  unfold callWith at he
  split at he
  · rename_i g hg
    refine horc.pure f args h v h' ?_ σ w args' H ha o a K Q ho hK
    simp only [hg]; exact he
  split at he
  · rename_i r hr
    simp only [Option.some.injEq] at he; subst he
    exact horc.heap f args h v h' hr σ w args' H ha o a K Q ho hK
  · split at he
    · rename_i fn hf
      split at he
      · rename_i c hb
        have key : ∀ {x : Ex} {ts' : List Value} {h1 : Heap}, (x = .normal ∨ x = .ret) → ex c (args ++ List.replicate (fn.ntmps - args.length) Go.undef) h = some (x, ts', h1) →
            (match resultsI P ts' h1 fn.results.toList with
              | some l => some (tupleI l, h1)
              | none => none) = some (v, h') → o.wp P a w K Q := fun {x ts' h1} hx hr he => by
          split at he
          · rename_i l hl
            simp only [Option.some.injEq, Prod.mk.injEq] at he; obtain ⟨rfl, rfl⟩ := he
            refine Calls.wp_enter hP hf hb ho (call_text hP hex hf hb hx hr hl rfl H ha) fun v' w' hR => ?_
            obtain ⟨σ', k1, k2, k3⟩ := hR
            exact hK σ' w' v' k1 k2 k3
          · cases he
        split at he
        · rename_i ts' h1 hr; exact key (.inl rfl) hr he
        · rename_i ts' h1 hr; exact key (.inr rfl) hr he
        · cases he
      · rename_i hb
        simp only [Option.ite_none_right_eq_some] at he
        obtain ⟨hfl, he⟩ := he
        have hargs : args' = args.toArray := by
          apply Array.toList_inj.1
          have all : ∀ {l l' : List Value}, LRel σ l l' → l.all flat = true → l' = l := fun {l l'} hr => by
            induction hr with
            | nil => intro _; rfl
            | cons k _ ih => intro hh; simp only [List.all_cons, Bool.and_eq_true] at hh; rw [flat_eq hh.1 k, ih hh.2]
          rw [all ha hfl]
        cases hp : pureRun P (callFunc f args.toArray) with
        | none => simp [hp] at he
        | some nx =>
          cases nx <;> simp only [hp, Option.bind_some] at he <;> try (cases he; done)
          case value u =>
            simp only [Option.ite_none_right_eq_some, Option.some.injEq, Prod.mk.injEq] at he; obtain ⟨hfu, rfl, rfl⟩ := he
            unfold Oper.wp
            rw [ho, hargs, pureRun_run hp w]
            exact hK σ w u (Sg.le_refl σ) (flat_rel hfu σ) H
    · cases he

theorem exec_sound (hP : ProgOK P) {O : Orc} (horc : OrcSound P B w0 O) : ∀ (n : Nat),
    (∀ (c : Code) (ts : List Value) (h : Heap) (x : Ex) (ts' : List Value) (h' : Heap), codeOK P c = true → exec P O n c ts h = some (x, ts', h') → ∀ (σ : Sg) (a : Act) (w : World), HRel P B w0 σ h w → LRel σ ts a.tmps.toList → a.defers = [] →
      c.wp P (After P B w0 σ x ts' h') a w) ∧
    (∀ (c : Code) (ts : List Value) (h : Heap) (x : Ex) (ts' : List Value) (h' : Heap), codeOK P c = true → exec P O n (.loop c) ts h = some (x, ts', h') → ∀ (σ : Sg) (a : Act) (w : World), HRel P B w0 σ h w → LRel σ ts a.tmps.toList → a.defers = [] →
      Code.rounds P c (After P B w0 σ x ts' h') n a w)
  | 0 => ⟨fun c ts h x ts' h' _ he => by simp [exec] at he, fun c ts h x ts' h' _ he => by simp [exec] at he⟩
  | n + 1 => by
    obtain ⟨ih, ihl⟩ := exec_sound hP horc n
    have loop : ∀ (c : Code) (ts : List Value) (h : Heap) (x : Ex) (ts' : List Value) (h' : Heap), codeOK P c = true → exec P O (n + 1) (.loop c) ts h = some (x, ts', h') → ∀ (σ : Sg) (a : Act) (w : World), HRel P B w0 σ h w → LRel σ ts a.tmps.toList → a.defers = [] →
        Code.rounds P c (After P B w0 σ x ts' h') (n + 1) a w := fun c ts h x ts' h' hc he σ a w H hts hd => by
      simp only [exec] at he
      rw [rounds_succ]
      split at he
      · rename_i ts1 h1 h2
        refine Go.wp_mono (ih c ts h .normal ts1 h1 hc h2 σ a w H hts hd) fun e a2 w2 k => ?_
        obtain ⟨k1, σ', k2, k3, k4, k5⟩ := k
        subst k1
        have weak : ∀ (m : Nat) (a : Act) (w : World), Code.rounds P c (After P B w0 σ' x ts' h') m a w → Code.rounds P c (After P B w0 σ x ts' h') m a w := fun m => by
          induction m with
          | zero => intro a w h; exact h
          | succ m ihm =>
            intro a w hh
            rw [rounds_succ] at hh ⊢
            refine Go.wp_mono hh fun e a3 w3 q => ?_
            cases e with
            | normal => exact ihm a3 w3 q
            | _ => exact After.weaken k2 q
        exact weak n a2 w2 (ihl c ts1 h1 x ts' h' hc he σ' a2 w2 k4 k3 k5)
      · rename_i hne
        refine Go.wp_mono (ih c ts h x ts' h' hc he σ a w H hts hd) fun e a2 w2 k => ?_
        obtain ⟨k1, k2⟩ := k
        cases x with
        | normal => exact absurd he (hne ts' h')
        | exit id => subst k1; exact ⟨rfl, k2⟩
        | ret => subst k1; exact ⟨rfl, k2⟩
    refine ⟨fun c ts h x ts' h' hc he σ a w H hts hd => ?_, loop⟩
    cases c with
    | skip => simp only [exec, Option.some.injEq, Prod.mk.injEq] at he; obtain ⟨rfl, rfl, rfl⟩ := he; exact wp_skip ⟨rfl, σ, Sg.le_refl σ, hts, H, hd⟩
    | label l => simp only [exec, Option.some.injEq, Prod.mk.injEq] at he; obtain ⟨rfl, rfl, rfl⟩ := he; exact wp_label ⟨rfl, σ, Sg.le_refl σ, hts, H, hd⟩
    | exit id => simp only [exec, Option.some.injEq, Prod.mk.injEq] at he; obtain ⟨rfl, rfl, rfl⟩ := he; exact wp_exit ⟨rfl, σ, Sg.le_refl σ, hts, H, hd⟩
    | ret => simp only [exec, Option.some.injEq, Prod.mk.injEq] at he; obtain ⟨rfl, rfl, rfl⟩ := he; exact wp_ret ⟨rfl, σ, Sg.le_refl σ, hts, H, hd⟩
    | goto l => simp [exec] at he
    | refuse why => simp [exec] at he
    | rangeFunc f ps as b => simp [exec] at he
    | seq c1 c2 =>
      simp only [codeOK, Bool.and_eq_true] at hc
      simp only [exec] at he
      refine wp_seq ?_
      split at he
      · rename_i ts1 h1 h2
        refine Go.wp_mono (ih c1 ts h .normal ts1 h1 hc.1 h2 σ a w H hts hd) fun e a2 w2 k => ?_
        obtain ⟨k1, σ', k2, k3, k4, k5⟩ := k
        subst k1
        exact Go.wp_mono (ih c2 ts1 h1 x ts' h' hc.2 he σ' a2 w2 k4 k3 k5) fun e a3 w3 q => q.weaken k2
      · rename_i hne
        refine Go.wp_mono (ih c1 ts h x ts' h' hc.1 he σ a w H hts hd) fun e a2 w2 k => ?_
        obtain ⟨k1, k2⟩ := k
        cases x with
        | normal => exact absurd he (hne ts' h')
        | exit id => subst k1; exact ⟨rfl, k2⟩
        | ret => subst k1; exact ⟨rfl, k2⟩
    | cond c0 c1 c2 =>
      simp only [codeOK, Bool.and_eq_true] at hc
      have k := ev_sound H hts hc.1
      simp only [exec] at he
      split at he
      · rename_i e; rw [e] at k; generalize hq : a.eval c0 = q at k; cases k
        exact wp_cond_true hq (ih c1 ts h x ts' h' hc.2.1 he σ a w H hts hd)
      · rename_i e; rw [e] at k; generalize hq : a.eval c0 = q at k; cases k
        exact wp_cond_false hq (ih c2 ts h x ts' h' hc.2.2 he σ a w H hts hd)
      · cases he
    | block id c1 =>
      simp only [codeOK] at hc
      simp only [exec] at he
      refine wp_block ?_
      split at he
      · rename_i id' ts1 h1 h2
        split at he
        · rename_i hid
          simp only [Option.some.injEq, Prod.mk.injEq] at he; obtain ⟨rfl, rfl, rfl⟩ := he
          refine Go.wp_mono (ih c1 ts h (.exit id') ts1 h1 hc h2 σ a w H hts hd) fun e a2 w2 k => ?_
          obtain ⟨k1, k2⟩ := k
          subst k1
          have : id' = id := Nat.eq_of_beq_eq_true hid
          simp only [Exit.inBlock, Ex.toExit, this, if_true]
          exact ⟨rfl, k2⟩
        · rename_i hid
          simp only [Option.some.injEq, Prod.mk.injEq] at he; obtain ⟨rfl, rfl, rfl⟩ := he
          refine Go.wp_mono (ih c1 ts h (.exit id') ts1 h1 hc h2 σ a w H hts hd) fun e a2 w2 k => ?_
          obtain ⟨k1, k2⟩ := k
          subst k1
          have : ¬ id' = id := fun e => by rw [e, Nat.beq_refl] at hid; cases hid
          simp only [Exit.inBlock, Ex.toExit, this, if_false]
          exact ⟨rfl, k2⟩
      · rename_i hne
        refine Go.wp_mono (ih c1 ts h x ts' h' hc he σ a w H hts hd) fun e a2 w2 k => ?_
        obtain ⟨k1, k2⟩ := k
        cases x with
        | exit id' => exact absurd he (hne id' ts' h')
        | normal => subst k1; exact ⟨rfl, k2⟩
        | ret => subst k1; exact ⟨rfl, k2⟩
    | scope c1 =>
      simp only [codeOK] at hc
      simp only [exec] at he
      refine wp_scope_straight (Go.wp_mono (ih c1 ts h x ts' h' hc he σ a w H hts hd) fun e a2 w2 k => ?_)
      obtain ⟨k1, k2⟩ := k
      cases x <;> (subst k1; exact ⟨rfl, k2⟩)
    | loop c1 =>
      simp only [codeOK] at hc
      exact wp_loop_rounds (n + 1) (loop c1 ts h x ts' h' hc he σ a w H hts hd)
    | region id ops draw =>
      simp only [codeOK] at hc
      have hcs := callWith_sound hP horc ih
      simp only [exec] at he
      cases draw with
      | false =>
        simp only at he
        split at he
        · rename_i ts1 h1 h2
          simp only [Option.some.injEq, Prod.mk.injEq] at he; obtain ⟨rfl, rfl, rfl⟩ := he
          exact wp_region_list (ops_sound (fun _ => hcs) ops.toList σ h h1 w ts ts1 a hc H hts hd h2 fun σ' a' w' k1 k2 k3 k4 => ⟨rfl, σ', k1, k2, k3, k4⟩)
        · cases he
      | true =>
        simp only at he
        split at he
        · rename_i ents ts1 h1 h2
          split at he
          · rename_i hchk
            simp only [Bool.and_eq_true] at hchk
            simp only [Option.some.injEq, Prod.mk.injEq] at he; obtain ⟨rfl, rfl, rfl⟩ := he
            exact draw_sound hP.mixed (fun _ => hcs) (fun _ => callWith_pure P O _) hc h2 hchk.1 hchk.2 H hts hd fun σ' a' w' k1 k2 k3 k4 => ⟨rfl, σ', k1, k2, k3, k4⟩
          · cases he
        · cases he


/-- What a call of the ideal interpreter answers, the model's call answers. -/
theorem callI_sound (hP : ProgOK P) {O : Orc} (horc : OrcSound P B w0 O) {n : Nat} {f : FuncId} {fn : Func} {c : Code} (hf : P.funcs[f]? = some fn) (hb : fn.body = some c) {args : List Value} {h h' : Heap} {v : Value}
    (hop : O.pure f = none) (ho : O.heap f args h = none) (he : callI P O n f args h = some (v, h')) {σ : Sg} {w : World} {args' : Array Value} (H : HRel P B w0 σ h w) (ha : LRel σ args args'.toList) :
    Calls P f args' w fun e w' => ∃ v', e = .returned v' ∧ ∃ σ', σ.le σ' ∧ VRel σ' v v' ∧ HRel P B w0 σ' h' w' := by
  unfold callI callWith at he
  simp only [hop, ho, hf, hb] at he
  have key : ∀ {x : Ex} {ts' : List Value} {h1 : Heap}, (x = .normal ∨ x = .ret) → exec P O n c (args ++ List.replicate (fn.ntmps - args.length) Go.undef) h = some (x, ts', h1) →
      (match resultsI P ts' h1 fn.results.toList with
        | some l => some (tupleI l, h1)
        | none => none) = some (v, h') → Calls P f args' w fun e w' => ∃ v', e = .returned v' ∧ ∃ σ', σ.le σ' ∧ VRel σ' v v' ∧ HRel P B w0 σ' h' w' := fun {x ts' h1} hx hr he => by
    split at he
    · rename_i l hl
      simp only [Option.some.injEq, Prod.mk.injEq] at he; obtain ⟨rfl, rfl⟩ := he
      exact call_text hP (exec_sound hP horc n).1 hf hb hx hr hl rfl H ha
    · cases he
  split at he
  · rename_i ts' h1 hr; exact key (.inl rfl) hr he
  · rename_i ts' h1 hr; exact key (.inr rfl) hr he
  · cases he

theorem noOrc_sound : OrcSound P B w0 noOrc := ⟨fun f args h v h' he => (by cases he), fun f args h v h' he => (by cases he)⟩

/-- Where all memory that is there is left alone: the empty ideal heap. -/
def Sg.start (g : Nat) (F : Fz) : Sg := ⟨fun i => if i < g then some ⟨i, 0, .exact⟩ else none, F, fun _ _ => none⟩
theorem HRel.start {g : Nat} (hg : P.globals.size ≤ g) (w : World) (hs : g ≤ w.heap.size) {F : Fz} (hF : FzOK F w) (hS : SentAt P w.heap.size w) : HRel P w.heap.size ⟨w, F⟩ (Sg.start g F) (Heap.empty g) w := by
  refine ⟨Below.refl _ _, Nat.le_refl _, fun i x h => ?_, fun i x h => ?_, fun i hi => ?_, fun i b h => ?_, fun i j _ _ bi bj b hi => ?_, hF, ⟨fun _ _ => ⟨rfl, rfl⟩, hS⟩, fun _ _ _ h => by cases h⟩
  · simp only [Sg.start] at h
    split at h
    · rename_i hi; exact hi
    · cases h
  · simp only [Sg.start] at h
    split at h
    · rename_i hi; simp only [Option.some.injEq] at h; subst h; simp only; omega
    · cases h
  · have : i < g := by omega
    simp [Sg.start, this]
  · simp only [Heap.empty, Heap.get, Trie.get_leaf] at h; split at h <;> cases h
  · simp only [Heap.empty, Heap.get, Trie.get_leaf] at hi; split at hi <;> cases hi

end Go.Ideal

end
section
/- What a piece of code, or a call, comes to, whatever world it runs in: rules. Over any program. -/
set_option linter.unusedVariables false
set_option linter.unusedSimpArgs false
namespace Go.Ideal
open Go.RowKit

variable {P : Program}

def AfterS (P : Program) (B : Nat) (w0 : Org) (σ : Sg) (Q : Ex → List Value → Heap → Prop) : Exit → Act → World → Prop :=
  fun e a w => ∃ x ts h, e = x.toExit ∧ Q x ts h ∧ ∃ σ', σ.le σ' ∧ LRel σ' ts a.tmps.toList ∧ HRel P B w0 σ' h w ∧ a.defers = []

/-- Run from (ts, h), the code ends as Q says, in every world that is related. -/
def WpS (P : Program) (c : Code) (ts : List Value) (h : Heap) (Q : Ex → List Value → Heap → Prop) : Prop :=
  ∀ (B : Nat) (w0 : Org) (σ : Sg) (a : Act) (w : World), HRel P B w0 σ h w → LRel σ ts a.tmps.toList → a.defers = [] → c.wp P (AfterS P B w0 σ Q) a w

def CallS (P : Program) (f : FuncId) (args : List Value) (h : Heap) (S : Value → Heap → Prop) : Prop :=
  ∀ (B : Nat) (w0 : Org) (σ : Sg) (w : World) (args' : Array Value), HRel P B w0 σ h w → LRel σ args args'.toList →
    Calls P f args' w fun e w' => ∃ v v' h', e = .returned v' ∧ S v h' ∧ ∃ σ', σ.le σ' ∧ VRel σ' v v' ∧ HRel P B w0 σ' h' w'

theorem AfterS.weaken {B : Nat} {w0 : Org} {σ σ' : Sg} {Q Q' : Ex → List Value → Heap → Prop} (hle : σ.le σ') (hq : ∀ x ts h, Q x ts h → Q' x ts h) {e : Exit} {a : Act} {w : World} (k : AfterS P B w0 σ' Q e a w) : AfterS P B w0 σ Q' e a w := by
  obtain ⟨x, ts, h, k1, k2, σ2, k3, k4⟩ := k
  exact ⟨x, ts, h, k1, hq _ _ _ k2, σ2, Sg.le_trans hle k3, k4⟩

section
variable {c a b : Code} {ts : List Value} {h h1 : Heap} {Q : Ex → List Value → Heap → Prop}

theorem WpS.mono {Q' : Ex → List Value → Heap → Prop} (hw : WpS P c ts h Q) (hq : ∀ x ts h, Q x ts h → Q' x ts h) : WpS P c ts h Q' :=
  fun B w0 σ a w H hts hd => Go.wp_mono (hw B w0 σ a w H hts hd) fun _ _ _ k => k.weaken (Sg.le_refl σ) hq
theorem CallS.mono {f : FuncId} {args : List Value} {S S' : Value → Heap → Prop} (hc : CallS P f args h S) (hs : ∀ v h, S v h → S' v h) : CallS P f args h S' :=
  fun B w0 σ w args' H ha => (hc B w0 σ w args' H ha).mono fun _ _ ⟨v, v', h', k1, k2, k3⟩ => ⟨v, v', h', k1, hs _ _ k2, k3⟩

theorem WpS.skip (hq : Q .normal ts h) : WpS P .skip ts h Q := fun _ _ σ _ _ H hts hd => wp_skip ⟨.normal, ts, h, rfl, hq, σ, Sg.le_refl σ, hts, H, hd⟩
theorem WpS.label {l : Nat} (hq : Q .normal ts h) : WpS P (.label l) ts h Q := fun _ _ σ _ _ H hts hd => wp_label ⟨.normal, ts, h, rfl, hq, σ, Sg.le_refl σ, hts, H, hd⟩
theorem WpS.exit {id : Nat} (hq : Q (.exit id) ts h) : WpS P (.exit id) ts h Q := fun _ _ σ _ _ H hts hd => wp_exit ⟨.exit id, ts, h, rfl, hq, σ, Sg.le_refl σ, hts, H, hd⟩
theorem WpS.ret (hq : Q .ret ts h) : WpS P .ret ts h Q := fun _ _ σ _ _ H hts hd => wp_ret ⟨.ret, ts, h, rfl, hq, σ, Sg.le_refl σ, hts, H, hd⟩

def thenQ (next : List Value → Heap → Prop) (Q : Ex → List Value → Heap → Prop) : Ex → List Value → Heap → Prop
  | .normal => next
  | x => Q x
def blockQ (id : Nat) (Q : Ex → List Value → Heap → Prop) : Ex → List Value → Heap → Prop
  | .exit id' => match Nat.beq id' id with
    | true => Q .normal
    | false => Q (.exit id')
  | x => Q x

theorem WpS.seq (hw : WpS P a ts h (thenQ (fun ts' h' => WpS P b ts' h' Q) Q)) : WpS P (.seq a b) ts h Q := fun B w0 σ act w H hts hd => by
  refine wp_seq (Go.wp_mono (hw B w0 σ act w H hts hd) fun e a2 w2 k => ?_)
  obtain ⟨x, ts', h', rfl, q, σ', k1, k2, k3, k4⟩ := k
  cases x with
  | normal => exact Go.wp_mono (q B w0 σ' a2 w2 k3 k2 k4) fun _ _ _ k => k.weaken k1 fun _ _ _ h => h
  | exit id => exact ⟨.exit id, ts', h', rfl, q, σ', k1, k2, k3, k4⟩
  | ret => exact ⟨.ret, ts', h', rfl, q, σ', k1, k2, k3, k4⟩

theorem WpS.cond_true {o : Operand} (ho : operandOK P o = true) (hc : evI ts o = .bool true) (hw : WpS P a ts h Q) : WpS P (.cond o a b) ts h Q := fun B w0 σ act w H hts hd => by
  have k := ev_sound H hts ho
  rw [hc] at k
  generalize hq : act.eval o = q at k
  cases k
  exact wp_cond_true hq (hw B w0 σ act w H hts hd)
theorem WpS.cond_false {o : Operand} (ho : operandOK P o = true) (hc : evI ts o = .bool false) (hw : WpS P b ts h Q) : WpS P (.cond o a b) ts h Q := fun B w0 σ act w H hts hd => by
  have k := ev_sound H hts ho
  rw [hc] at k
  generalize hq : act.eval o = q at k
  cases k
  exact wp_cond_false hq (hw B w0 σ act w H hts hd)

theorem WpS.block {id : Nat} (hw : WpS P a ts h (blockQ id Q)) : WpS P (.block id a) ts h Q := fun B w0 σ act w H hts hd => by
  refine wp_block (Go.wp_mono (hw B w0 σ act w H hts hd) fun e a2 w2 k => ?_)
  obtain ⟨x, ts', h', rfl, q, k⟩ := k
  cases x with
  | normal => exact ⟨.normal, ts', h', rfl, q, k⟩
  | ret => exact ⟨.ret, ts', h', rfl, q, k⟩
  | exit id' =>
    simp only [blockQ] at q
    cases hb : Nat.beq id' id with
    | true =>
      rw [hb] at q
      have e := Nat.eq_of_beq_eq_true hb
      subst e
      simp only [Exit.inBlock, Ex.toExit, if_true]
      exact ⟨.normal, ts', h', rfl, q, k⟩
    | false =>
      rw [hb] at q
      have hne : ¬ id' = id := fun e => by rw [e, Nat.beq_refl] at hb; cases hb
      simp only [Exit.inBlock, Ex.toExit, hne, if_false]
      exact ⟨.exit id', ts', h', rfl, q, k⟩
theorem WpS.scope (hw : WpS P a ts h Q) : WpS P (.scope a) ts h Q := fun B w0 σ act w H hts hd => by
  refine wp_scope_straight (Go.wp_mono (hw B w0 σ act w H hts hd) fun e a2 w2 k => ?_)
  obtain ⟨x, ts', h', rfl, q, k⟩ := k
  cases x with
  | normal => exact ⟨.normal, ts', h', rfl, q, k⟩
  | exit id => exact ⟨.exit id, ts', h', rfl, q, k⟩
  | ret => exact ⟨.ret, ts', h', rfl, q, k⟩

theorem rounds_mono {c : Code} {Q Q' : Exit → Act → World → Prop} (hq : ∀ e a w, Q e a w → Q' e a w) : ∀ (n m : Nat) (a : Act) (w : World), n ≤ m → Code.rounds P c Q n a w → Code.rounds P c Q' m a w
  | 0, _, _, _, _, h => absurd h (by simp [Code.rounds])
  | n + 1, 0, _, _, hle, _ => absurd hle (by omega)
  | n + 1, m + 1, a, w, hle, h => by
    rw [rounds_succ] at h ⊢
    refine Go.wp_mono h fun e a2 w2 k => ?_
    cases e with
    | normal => exact rounds_mono hq n m a2 w2 (by omega) k
    | _ => exact hq _ _ _ k

/-! ### the same, seen otherwise -/
/-- Whatever is related to (ts, h) is related to (ts2, h2). -/
def Weak (P : Program) (ts : List Value) (h : Heap) (ts2 : List Value) (h2 : Heap) : Prop :=
  ∀ (B : Nat) (w0 : Org) (σ : Sg) (w : World) (l : List Value), HRel P B w0 σ h w → LRel σ ts l → ∃ σ2, σ.le σ2 ∧ HRel P B w0 σ2 h2 w ∧ LRel σ2 ts2 l
theorem Weak.refl (ts : List Value) (h : Heap) : Weak P ts h ts h := fun _ _ σ _ _ H hl => ⟨σ, Sg.le_refl σ, H, hl⟩
theorem Weak.trans {ts ts1 ts2 : List Value} {h h1 h2 : Heap} (k : Weak P ts h ts1 h1) (k' : Weak P ts1 h1 ts2 h2) : Weak P ts h ts2 h2 := fun B w0 σ w l H hl => by
  obtain ⟨σ1, a1, a2, a3⟩ := k B w0 σ w l H hl
  obtain ⟨σ2, b1, b2, b3⟩ := k' B w0 σ1 w l a2 a3
  exact ⟨σ2, Sg.le_trans a1 b1, b2, b3⟩
theorem WpS.weak {ts2 : List Value} {h2 : Heap} (k : Weak P ts h ts2 h2) (hw : WpS P c ts2 h2 Q) : WpS P c ts h Q := fun B w0 σ act w H hts hd => by
  obtain ⟨σ2, a1, a2, a3⟩ := k B w0 σ w _ H hts
  exact Go.wp_mono (hw B w0 σ2 act w a2 a3 hd) fun _ _ _ k => k.weaken a1 fun _ _ _ h => h
theorem WpS.post_weak (hw : WpS P c ts h fun x ts' h' => ∃ ts2 h2, Weak P ts' h' ts2 h2 ∧ Q x ts2 h2) : WpS P c ts h Q := fun B w0 σ act w H hts hd => by
  refine Go.wp_mono (hw B w0 σ act w H hts hd) fun e a2 w2 k => ?_
  obtain ⟨x, ts', h', rfl, ⟨ts2, h2, kw, q⟩, σ', k1, k2, k3, k4⟩ := k
  obtain ⟨σ2, b1, b2, b3⟩ := kw B w0 σ' w2 _ k3 k2
  exact ⟨x, ts2, h2, rfl, q, σ2, Sg.le_trans k1 b1, b3, b2, k4⟩
theorem CallS.weak {f : FuncId} {args args2 : List Value} {h2 : Heap} {S : Value → Heap → Prop} (k : Weak P args h args2 h2) (hc : CallS P f args2 h2 S) : CallS P f args h S := fun B w0 σ w args' H ha => by
  obtain ⟨σ2, a1, a2, a3⟩ := k B w0 σ w _ H ha
  exact (hc B w0 σ2 w args' a2 a3).mono fun _ _ ⟨v, v', h', k1, k2, σ', k3, k4⟩ => ⟨v, v', h', k1, k2, σ', Sg.le_trans a1 k3, k4⟩
theorem CallS.post_weak {f : FuncId} {args : List Value} {S : Value → Heap → Prop} (hc : CallS P f args h fun v h' => ∃ v2 h2, Weak P [v] h' [v2] h2 ∧ S v2 h2) : CallS P f args h S := fun B w0 σ w args' H ha => by
  refine (hc B w0 σ w args' H ha).mono fun e w2 ⟨v, v', h', k1, ⟨v2, h2, kw, s⟩, σ', k3, k4, k5⟩ => ?_
  obtain ⟨σ2, b1, b2, b3⟩ := kw B w0 σ' w2 [v'] k5 (.cons k4 .nil)
  cases b3 with
  | cons hv _ => exact ⟨v2, v', h2, k1, s, σ2, Sg.le_trans k3 b1, hv, b2⟩

/-! ### operations, one by one -/
/-- What an operation comes to. -/
def OpS (P : Program) (o : Oper) (ts : List Value) (h : Heap) (S : Value → Heap → Prop) : Prop :=
  ∀ (B : Nat) (w0 : Org) (σ : Sg) (a : Act) (w : World) (K : Act → World → Prop) (Q : Exit → Act → World → Prop), HRel P B w0 σ h w → LRel σ ts a.tmps.toList →
    (∀ (σ' : Sg) (w' : World) (v v' : Value) (h' : Heap), S v h' → σ.le σ' → VRel σ' v v' → HRel P B w0 σ' h' w' → K (a.put o.dst v') w') → o.wp P a w K Q
def WpOpsS (P : Program) (ops : Array Oper) (l : List Oper) (ts : List Value) (h : Heap) (R : List Value → Heap → Prop) : Prop :=
  ∀ (B : Nat) (w0 : Org) (σ : Sg) (a : Act) (w : World) (Q : Exit → Act → World → Prop), HRel P B w0 σ h w → LRel σ ts a.tmps.toList → a.defers = [] →
    (∀ (σ' : Sg) (a' : Act) (w' : World) (ts' : List Value) (h' : Heap), R ts' h' → σ.le σ' → LRel σ' ts' a'.tmps.toList → HRel P B w0 σ' h' w' → a'.defers = [] → Q .normal a' w') → wpList P ops Q l a w

theorem OpS.mono {o : Oper} {S S' : Value → Heap → Prop} (ho : OpS P o ts h S) (hs : ∀ v h, S v h → S' v h) : OpS P o ts h S' :=
  fun B w0 σ a w K Q H hts hK => ho B w0 σ a w K Q H hts fun σ' w' v v' h' k => hK σ' w' v v' h' (hs _ _ k)
theorem OpS.of {o : Oper} (hok : operOK P o = true) {v : Value} (hnc : ∀ call, operI P call o ts h = some (v, h1)) {S : Value → Heap → Prop} (hs : S v h1) : OpS P o ts h S := fun B w0 σ a w K Q H hts hK =>
  oper_wp (call := fun _ _ _ => none) (fun _ _ _ _ _ he => by cases he) H hts hok (hnc _) fun σ' w' v' k1 k2 k3 => hK σ' w' v v' h1 hs k1 k2 k3

/-- Functions that have a text. -/
def HasText (P : Program) (f : FuncId) : Prop := ∃ fn c, P.funcs[f]? = some fn ∧ fn.body = some c

theorem callee_sound {B : Nat} {w0 : Org} {σ : Sg} {a : Act} {w : World} {o : Oper} {c : Call} {f : FuncId} {args : List Value} (H : HRel P B w0 σ h w) (hts : LRel σ ts a.tmps.toList) (hok : operOK P o = true) (hop : o.op = .call c) (hc : calleeI ts c = some (f, args)) :
    ∃ args' : Array Value, LRel σ args args'.toList ∧ execOp a.eval o = callFunc f args' := by
  have hargs : c.args.toList.all (operandOK P) = true ∧ (∀ x, c.callee = .value x → operandOK P x = true) := by
    simp only [operOK, hop, Op.operands, Call.operands, Array.toList_append, List.all_append, Bool.and_eq_true] at hok
    exact ⟨hok.2, fun x hx => by have := hok.1; rw [hx] at this; simpa using this⟩
  have hr := args_rel H hts hargs.1
  unfold calleeI at hc
  have hexec : ∀ x, c.callee = .value x → execOp a.eval o = (do let d ← Deferred.ofValue (a.eval x) (c.args.map a.eval); invoke d.target d.args) := fun x hx => by
    unfold execOp; rw [hop]; simp only [resolve, hx]
  split at hc
  · rename_i f2 hcal
    simp only [Option.some.injEq, Prod.mk.injEq] at hc; obtain ⟨rfl, rfl⟩ := hc
    refine ⟨c.args.map a.eval, by rw [Array.toList_map]; exact hr, ?_⟩
    rw [hexec _ hcal]
    show callFunc f2 ((#[] ++ c.args.map a.eval) ++ #[]) = _
    simp
  · rename_i x hxne hcal
    split at hc
    · rename_i f2 first cap hev
      simp only [Option.some.injEq, Prod.mk.injEq] at hc; obtain ⟨rfl, rfl⟩ := hc
      have k := ev_sound H hts (hargs.2 _ hcal)
      rw [hev] at k
      generalize hq : a.eval x = q at k
      cases k with
      | func _ ha hcc h1 h2 =>
        rename_i a' c'
        obtain ⟨_, q1, q2⟩ := VRel.func_lists (.func (.func f2) ha hcc h1 h2)
        refine ⟨(a' ++ c.args.map a.eval) ++ c', ?_, ?_⟩
        · rw [Array.toList_append, Array.toList_append, Array.toList_map]
          exact (q1.append hr).append q2
        · rw [hexec _ hcal, hq]; rfl
    · cases hc
  · cases hc

theorem OpS.call (hP : ProgOK P) {o : Oper} {c : Call} {f : FuncId} {args : List Value} (hok : operOK P o = true) (hop : o.op = .call c) (hc : calleeI ts c = some (f, args)) (hf : HasText P f) {S : Value → Heap → Prop} (hs : CallS P f args h S) : OpS P o ts h S := fun B w0 σ a w K Q H hts hK => by
  obtain ⟨fn, body, hfn, hb⟩ := hf
  obtain ⟨args', ha, he⟩ := callee_sound H hts hok hop hc
  refine Calls.wp_enter hP hfn hb he (R := fun v' w' => ∃ v h', S v h' ∧ ∃ σ', σ.le σ' ∧ VRel σ' v v' ∧ HRel P B w0 σ' h' w') ((hs B w0 σ w args' H ha).mono fun e w' ⟨v, v', h', k1, k2, k3⟩ => ⟨v', k1, v, h', k2, k3⟩) fun v' w' hR => ?_
  obtain ⟨v, h', k1, σ', k2, k3, k4⟩ := hR
  exact hK σ' w' v v' h' k1 k2 k3 k4

/-- A call of a function that has a text. -/
theorem CallS.text (hP : ProgOK P) {f : FuncId} {fn : Func} {c : Code} {args : List Value} {S : Value → Heap → Prop} (hf : P.funcs[f]? = some fn) (hb : fn.body = some c)
    (hw : WpS P c (args ++ List.replicate (fn.ntmps - args.length) Go.undef) h fun x ts' h' => (x = .normal ∨ x = .ret) ∧ ∃ l, resultsI P ts' h' fn.results.toList = some l ∧ S (tupleI l) h') : CallS P f args h S := fun B w0 σ w args' H ha => by
  refine calls_of_wp hf hb (Go.wp_mono (hw B w0 σ _ w H ?_ rfl) fun e a w2 k => ?_)
  · have hl := ha.len
    simp only [Array.length_toList] at hl
    simp only [Array.toList_append, Array.toList_replicate]
    rw [hl]
    exact ha.append (LRel.replicate σ _)
  · obtain ⟨x, ts', h', rfl, ⟨hx, l, hl, hS⟩, σ', k2, k3, k4, k5⟩ := k
    obtain ⟨v', q1, q2⟩ := results_sound k4 k3 hl
    rcases hx with rfl | rfl <;> exact ⟨k5, v', q1, tupleI l, v', h', rfl, hS, σ', k2, q2, k4⟩

theorem WpOpsS.nil {ops : Array Oper} {R : List Value → Heap → Prop} (hr : R ts h) : WpOpsS P ops [] ts h R := fun B w0 σ a w Q H hts hd hQ => hQ σ a w ts h hr (Sg.le_refl σ) hts H hd
theorem WpOpsS.off {ops : Array Oper} {o : Oper} {l : List Oper} {R : List Value → Heap → Prop} (hw : wantedI o ops.toList ts = false) (hr : WpOpsS P ops l (putI ts o.dst undef) h R) : WpOpsS P ops (o :: l) ts h R := fun B w0 σ a w Q H hts hd hQ => by
  have hw2 := wanted_rel (a := a) (ops := ops) (o := o) hts
  simp only [wpList]
  rw [← hw2, hw, if_neg (by simp)]
  exact hr B w0 σ _ w Q H (put_rel hts (VRel.undef σ) o.dst) (by rw [put_defers]; exact hd) hQ
theorem WpOpsS.op {ops : Array Oper} {o : Oper} {l : List Oper} {R : List Value → Heap → Prop} (hw : wantedI o ops.toList ts = true) (ho : OpS P o ts h fun v h' => WpOpsS P ops l (putI ts o.dst v) h' R) : WpOpsS P ops (o :: l) ts h R := fun B w0 σ a w Q H hts hd hQ => by
  have hw2 := wanted_rel (a := a) (ops := ops) (o := o) hts
  simp only [wpList]
  rw [← hw2, hw, if_pos rfl]
  refine .inl (ho B w0 σ a w _ Q H hts fun σ' w' v v' h' k k1 k2 k3 => ?_)
  exact k B w0 σ' _ w' Q k3 (put_rel (hts.mono k1) k2 o.dst) (by rw [put_defers]; exact hd) fun σ2 a2 w2 ts2 h2 q q1 q2 q3 q4 => hQ σ2 a2 w2 ts2 h2 q (Sg.le_trans k1 q1) q2 q3 q4
theorem WpS.region {id : Nat} {ops : Array Oper} (hw : WpOpsS P ops ops.toList ts h (Q .normal)) : WpS P (.region id ops false) ts h Q := fun B w0 σ act w H hts hd =>
  wp_region_list (hw B w0 σ act w _ H hts hd fun σ' a' w' ts' h' q k1 k2 k3 k4 => ⟨.normal, ts', h', rfl, q, σ', k1, k2, k3, k4⟩)

end
end Go.Ideal

end
section
/- Calls that hang on nothing but what they are given: proved once over an empty heap, they hold over any. Over any program. -/
set_option linter.unusedVariables false
set_option linter.unusedSimpArgs false
namespace Go.Ideal
open Go.RowKit

variable {P : Program}

/-- Called so, it answers v; the ideal heap stays. -/
def CallK (P : Program) (f : FuncId) (args : List Value) (v : Value) : Prop := ∀ h, CallS P f args h fun v1 h1 => v1 = v ∧ h1 = h

theorem HRel.inner {B : Nat} {w0 : Org} {σ σ' : Sg} {h h1 : Heap} {w w' : World} (H : HRel P B w0 σ h w) (H' : HRel P w.heap.size ⟨w, σ.f⟩ σ' h1 w') (hle : σ.f.le σ'.f) :
    HRel P B w0 { σ with f := σ'.f } h w' ∧ σ.le { σ with f := σ'.f } := by
  have hs := H.size
  have hle2 : σ.le { σ with f := σ'.f } := ⟨fun _ _ h => h, hle, fun _ _ _ h => h⟩
  have hloc : ∀ (i r : Nat) (b : Blk), b.loc { σ with f := σ'.f } i r = b.loc σ i r := fun i r b => by
    cases b with
    | cells cs t m => cases m <;> rfl
    | _ => rfl
  refine ⟨⟨H.below.trans (H'.below.mono hs), Nat.le_trans hs H'.below.size, H.dom, fun i x hx => Nat.lt_of_lt_of_le (H.codom i x hx) H'.below.size, H.glob, fun i b hg => ?_, fun i j r s bi bj b hi hj li lj hB => ?_, H'.frz, ?_, H.tdom⟩, hle2⟩
  · exact (H.blk i b hg).mono hle2 (fun _ b' hl => H'.below.block _ (H.blk_lt hg hl)) (fun _ b' _ hl => H'.old.1 b' (H.blk_lt hg hl)) fun _ => rfl
  · rw [hloc] at li lj; exact H.inj i j r s bi bj b hi hj li lj hB
  · refine ⟨fun b hb => ?_, H.old.2⟩
    obtain ⟨k1, k2⟩ := H'.old.1 b (Nat.lt_of_lt_of_le hb hs)
    obtain ⟨q1, q2⟩ := H.old.1 b hb
    exact ⟨k1.trans q1, k2.trans q2⟩

theorem HRel.globs {B : Nat} {w0 : Org} {σ : Sg} {h : Heap} {w : World} (H : HRel P B w0 σ h w) : P.globals.size ≤ w.heap.size := by
  rcases Nat.eq_zero_or_pos P.globals.size with h0 | h0
  · omega
  · have := H.codom _ _ (H.glob (P.globals.size - 1) (by omega))
    simp only at this
    omega

theorem clos_frel {σ : Sg} {l l' : List Value} (hr : LRel σ l l') : l.all clo = true → ∀ (τ : Sg), σ.f.le τ.f → LRel τ l l' := by
  induction hr with
  | nil => intro _ _ _; exact .nil
  | cons k _ ih =>
    intro hh τ hle
    simp only [List.all_cons, Bool.and_eq_true] at hh
    exact .cons (((clo_frel 6 hh.1 k).mono hle).vrel) (ih hh.2 τ hle)

/-- Proved over the empty heap, it holds over any. -/
theorem CallK.of {f : FuncId} {args : List Value} {v : Value} (ha : args.all clo = true) (hv : clo v = true) (hc : CallS P f args (Heap.empty P.globals.size) fun v' _ => v' = v) : CallK P f args v := fun h B w0 σ w args' H hargs => by
  have H0 := HRel.start (P := P) (Nat.le_refl _) w H.globs H.frz (H.old.2.goes H.below H.size)
  refine (hc w.heap.size ⟨w, σ.f⟩ (Sg.start P.globals.size σ.f) w args' H0 (clos_frel hargs ha _ (Fz.le_refl _))).mono fun e w' ⟨v1, v', h1, k1, k2, σ', k3, k4, k5⟩ => ?_
  subst k2
  obtain ⟨q1, q2⟩ := H.inner k5 k3.f
  exact ⟨v1, v', h, k1, ⟨rfl, rfl⟩, _, q2, FRel.vrel (σ := { σ with f := σ'.f }) (clo_frel 6 hv k4 : FRel σ'.f v1 v'), q1⟩

/-- For a law: what it answers, whatever memory it is called in. -/
theorem CallK.calls {f : FuncId} {args : List Value} {v : Value} (hk : CallK P f args v) (hv : flat v = true) {w : World} {args' : Array Value} {F : Fz} (hF : FzOK F w) (hg : P.globals.size ≤ w.heap.size) (hS : SentAt P w.heap.size w) (ha : ∀ τ : Sg, τ.f = F → LRel τ args args'.toList) :
    Calls P f args' w fun e w' => e = .returned v ∧ Below w.heap.size w w' := by
  refine (hk (Heap.empty P.globals.size) w.heap.size ⟨w, F⟩ (Sg.start P.globals.size F) w args' (HRel.start (Nat.le_refl _) w hg hF hS) (ha _ rfl)).mono fun e w' ⟨v1, v', h1, k1, k2, σ', k3, k4, k5⟩ => ?_
  obtain ⟨rfl, _⟩ := k2
  rw [flat_eq hv k4] at k1
  exact ⟨k1, k5.below⟩

end Go.Ideal

end
section
/- Memory that is read for a while, or from now on, as memory that stays. Over any program. -/
set_option linter.unusedVariables false
set_option linter.unusedSimpArgs false
namespace Go.Ideal
open Go.RowKit

def borL (f : Value → Option Value) : List Value → Option (List Value)
  | [] => some []
  | v :: l => match f v, borL f l with
    | some v', some l' => some (v' :: l')
    | _, _ => none

/-- Values of memory that stays, and what is appended to. -/
def borF (t : TypeId) (u : Value) : Option Value := match asOs (.iface t u) with
  | some (_, _, m, cells) => some (vsl m cells)
  | none => match Nat.beq t 1000000 || Nat.beq t 1000001 || Nat.beq t 1000002 || Nat.beq t 1000004 with
    | true => some (.iface t u)
    | false => none

/-- A value, the memory behind it read as it stands now. -/
def borV (mp : Bool) : Nat → Heap → Value → Option Value
  | 0, _, _ => none
  | n + 1, h, v => match v with
    | .bool b => some (.bool b)
    | .int k x => some (.int k x)
    | .float k x => some (.float k x)
    | .complex k x y => some (.complex k x y)
    | .string s => some (.string s)
    | .pointer none => some (.pointer none)
    | .pointer (some ⟨i, off, none⟩) => match h.get i with
      | some (.cells cs _ .fix) | some (.cells cs _ .grow) => match borL (borV mp n h) cs with
        | some l => some (vpt off l.toArray)
        | none => none
      | _ => none
    | .slice none k c => some (.slice none k c)
    | .slice (some ⟨i, off, none⟩) k c => match Nat.beq k 0 with
      | true => some (vsl 0 #[])
      | false => match Nat.ble k c, h.get i with
        | true, some (.cells cs _ .fix) | true, some (.cells cs _ .grow) => match borL (borV mp n h) ((cs.drop off).take (k * ((cs.length - off) / c))) with
          | some l => some (vsl k l.toArray)
          | none => none
        | _, _ => none
    | .map none => some (.map none)
    | .map (some i) => match h.get i with
      | some (.map ks vs) => match mp with
        | true => some (vmp ks.toArray vs.toArray)
        | false => none
      | _ => none
    | .chan none => some (.chan none)
    | .nilFunc => some .nilFunc
    | .nilIface => some .nilIface
    | .func f a c => match borL (borV mp n h) a.toList, borL (borV mp n h) c.toList with
      | some l, some m => some (.func f l.toArray m.toArray)
      | _, _ => none
    | .iface t u => match isV t with
      | false => match borV mp n h u with
        | some u' => some (.iface t u')
        | none => none
      | true => borF t u
    | .agg cs => match borL (borV mp n h) cs.toList with
      | some l => some (.agg l.toArray)
      | none => none
    | .tuple cs => match borL (borV mp n h) cs.toList with
      | some l => some (.tuple l.toArray)
      | none => none
    | _ => none

/-- The maps' values lead to no memory. -/
def mapsP (h : Heap) : Nat → Prop
  | 0 => True
  | i + 1 => match h.get i with
    | some (.map _ vs) => vs.all flat = true ∧ mapsP h i
    | _ => mapsP h i
theorem mapsP_get {h : Heap} : ∀ {k : Nat}, mapsP h k → ∀ i, i < k → ∀ ks vs, h.get i = some (.map ks vs) → vs.all flat = true
  | 0, _, i, hi, _, _, _ => absurd hi (Nat.not_lt_zero _)
  | k + 1, hm, i, hi, ks, vs, hg => by
    have rest : mapsP h k := by
      simp only [mapsP] at hm
      split at hm
      · exact hm.2
      · exact hm
    rcases Nat.lt_or_ge i k with q | q
    · exact mapsP_get rest i q ks vs hg
    · obtain rfl : i = k := by omega
      simp only [mapsP] at hm
      rw [hg] at hm
      exact hm.1

variable {P : Program} {B : Nat} {w0 : Org} {mp : Bool}

/-- F says of all that is made since B that it stays as it stands in w. -/
structure Whole (B : Nat) (F : Fz) (w : World) : Prop where
  c : ∀ b o cc t fz v, B ≤ b → w.heap[b]? = some (.cells cc t fz) → cc[o]? = some v → F.c b o = some v
  m : ∀ b es cl, B ≤ b → w.heap[b]? = some (.map es cl) → F.m b = some es

def CellsR (F : Fz) (l l' : List Value) : Prop := l.length = l'.length ∧ ∀ j, FRel F (l.getD j Go.undef) (l'.getD j Go.undef)
theorem CellsR.nil (F : Fz) : CellsR F [] [] := ⟨rfl, fun j => by simpa using FRel.undef F⟩
theorem CellsR.cons {F : Fz} {v v' : Value} {l l' : List Value} (h : FRel F v v') (k : CellsR F l l') : CellsR F (v :: l) (v' :: l') := ⟨by simp [k.1], fun j => by
  cases j with
  | zero => simpa using h
  | succ j => simpa using k.2 j⟩
theorem CellsR.stay {F : Fz} {b o : Nat} {l l' : List Value} (h : CellsR F l l') (hF : ∀ j, j < l'.length → F.c b (o + j) = some (l'.getD j Go.undef)) : Stay F b o l.toArray :=
  ⟨l'.toArray, by simpa using h.1, fun j hj => by simpa using hF j (by simpa using hj), fun j => by simpa using h.2 j⟩

theorem borL_rel {σ : Sg} {F : Fz} {f : Value → Option Value} (hf : ∀ v v2 v', f v = some v2 → VRel σ v v' → FRel F v2 v') {l l' : List Value} (hr : LRel σ l l') : ∀ {l2 : List Value}, borL f l = some l2 → CellsR F l2 l' := by
  induction hr with
  | nil => intro l2 h; simp only [borL, Option.some.injEq] at h; subst h; exact .nil F
  | cons k _ ih =>
    intro l2 h
    simp only [borL] at h
    split at h
    · rename_i v' l'' h1 h2
      simp only [Option.some.injEq] at h; subst h
      exact .cons (hf _ _ _ h1 k) (ih h2)
    · cases h

theorem getD_of_some {l : List Value} {j : Nat} (h : j < l.length) : l[j]? = some (l.getD j Go.undef) := by simp [List.getD, List.getElem?_eq_getElem h]

theorem asOs_asSl {v : Value} {tok es : Nat} {m : Int} {cells : Array Value} (h : asOs v = some (tok, es, m, cells)) : asSl v = some (m, cells) := by
  unfold asOs at h
  unfold asSl
  split at h
  · split at h
    · rename_i e
      simp only [Option.some.injEq, Prod.mk.injEq] at h
      obtain ⟨_, _, rfl, rfl⟩ := h
      simp only [e]
    · cases h
  · cases h
theorem borF_rel {σ : Sg} {t : TypeId} {u v2 v' : Value} (ht : isV t = true) (he : borF t u = some v2) (hv : VRel σ (.iface t u) v') : FRel σ.f v2 v' := by
  unfold borF at he
  cases ha : asOs (.iface t u) with
  | some x =>
    obtain ⟨tok, es, m, cells⟩ := x
    rw [ha] at he
    simp only [Option.some.injEq] at he
    subst he
    obtain ⟨n', e, ⟨a', c', rfl, e2, rfl⟩ | ⟨b, o, c', rfl, hc, hst⟩⟩ := asSl_rel (asOs_asSl ha) hv
    · subst e; subst e2; exact .vnil a' c'
    · subst e
      exact hst.vsl hc
  | none =>
    rw [ha] at he
    simp only at he
    split at he
    · rename_i hmk
      simp only [Option.some.injEq] at he
      subst he
      generalize hx : Value.iface t u = x at hv ha
      cases hv with
      | iface _ ht' _ => cases hx; rw [ht] at ht'; cases ht'
      | frz _ _ hf => exact hf
      | osnil => simp [asOs, osl] at ha
      | osome => simp [asOs, osl] at ha
      | rsl => simp only [rsl, Value.iface.injEq] at hx; rw [hx.1] at hmk; simp at hmk
      | rnil => simp only [rsl, Value.iface.injEq] at hx; rw [hx.1] at hmk; simp at hmk
      | rpt => simp only [rpt, Value.iface.injEq] at hx; rw [hx.1] at hmk; simp at hmk
      | rch => simp only [rch, Value.iface.injEq] at hx; rw [hx.1] at hmk; simp at hmk
      | _ => cases hx
    · cases he

theorem flat_clo : ∀ (n : Nat) {v : Value}, flatN n v = true → cloN n v = true
  | 0, v, h => by simp [flatN] at h
  | n + 1, v, h => by
    have lst : ∀ {l : List Value}, l.all (flatN n) = true → l.all (cloN n) = true := fun h => List.all_eq_true.2 fun x hx => flat_clo n (List.all_eq_true.1 h x hx)
    cases v with
    | pointer a => cases a <;> first | rfl | simp [flatN] at h
    | slice a x y => cases a <;> first | rfl | simp [flatN] at h
    | map r => cases r <;> first | rfl | simp [flatN] at h
    | chan r => cases r <;> first | rfl | simp [flatN] at h
    | func fn a c => simp only [flatN, Bool.and_eq_true] at h; simp only [cloN, Bool.and_eq_true]; exact ⟨lst h.1, lst h.2⟩
    | iface t u =>
      cases ht : isV t with
      | true => simp [flatN, ht] at h
      | false => simp only [flatN, ht] at h; simp only [cloN, ht]; exact flat_clo n h
    | agg cs => simp only [flatN] at h; simp only [cloN]; exact lst h
    | tuple cs => simp only [flatN] at h; simp only [cloN]; exact lst h
    | _ => rfl
theorem flatN_frel : ∀ (n : Nat) {v : Value}, flatN n v = true → ∀ F, FRel F v v := fun n v h F => clo_frel n (flat_clo n h) (flatN_rel n h ⟨fun _ => none, F, fun _ _ => none⟩)
theorem flat_frel {l : List Value} (h : l.all flat = true) (F : Fz) (j : Nat) : FRel F (l.getD j Go.undef) (l.getD j Go.undef) := by
  rcases Nat.lt_or_ge j l.length with k | k
  · refine flatN_frel 6 (List.all_eq_true.1 h _ ?_) F
    simp only [List.getD, List.getElem?_eq_getElem k, Option.getD_some]; exact List.getElem_mem k
  · simp only [List.getD, List.getElem?_eq_none k, Option.getD_none]; exact FRel.undef F

theorem borV_rel {σ : Sg} {h : Heap} {w : World} (H : HRel P B w0 σ h w) {F : Fz} (hle : σ.f.le F) (hW : Whole B F w) (hm : mp = true → mapsP h h.next) : ∀ (n : Nat) (v v2 v' : Value), borV mp n h v = some v2 → VRel σ v v' → FRel F v2 v'
  | 0, _, _, _, he, _ => by cases he
  | n + 1, v, v2, v', he, hv => by
    have ih := borV_rel H hle hW hm n
    have lst : ∀ {l l' l2 : List Value}, LRel σ l l' → borL (borV mp n h) l = some l2 → CellsR F l2 l' := fun hr he => borL_rel ih hr he
    have cells : ∀ {b off : Nat} {cc : Array Value} {t : TypeId} {fz : Nat × Nat} {ms : List Value} {k : Nat}, B ≤ b → w.heap[b]? = some (.cells cc t fz) → ms = ((cc.toList.take k).drop off) → ∀ j, j < ms.length → F.c b (off + j) = some (ms.getD j Go.undef) := fun {b off cc t fz ms k} hB hb e j hj => by
      subst e
      refine hW.c b _ cc t fz _ hB hb ?_
      have := getD_of_some hj
      rw [← this, List.getElem?_drop, List.getElem?_take, if_pos (by simp at hj; omega)]
      simp
    have blk : ∀ {i off : Nat} {cs : List Value} {t : TypeId} {m : Mode} {l : List Value} {x : Spot} (K : Nat), σ i = some x → h.get i = some (.cells cs t m) → m = .fix ∨ m = .grow → borL (borV mp n h) ((cs.drop off).take K) = some l → x.o = 0 ∧ Stay F x.b off l.toArray := fun {i off cs t m l x} K hi hg hm hb => by
      have hB := H.blk _ _ hg
      rcases hm with rfl | rfl
      · obtain ⟨b, cc, t', fz, h1, h2, h3, h4, h5, _⟩ := hB
        rw [hi] at h1; cases h1
        refine ⟨rfl, (lst ((h5.drop off).take K) hb).stay ?_⟩
        intro j hj
        have hj2 : j < (cc.toList.drop off).length := by simp at hj ⊢; omega
        have := cells (off := off) (ms := cc.toList.drop off) (k := cc.size) h2 h3 (by rw [← Array.length_toList, List.take_length]) j hj2
        rw [this]
        have e1 := getD_of_some hj
        have e2 := getD_of_some hj2
        rw [List.getElem?_take, if_pos (by simp at hj; omega)] at e1
        rw [← e1, ← e2]
      · obtain ⟨b, es, cc, t', fz, h1, h2, h3, h4, h5, h6, h7, _⟩ := hB
        rw [hi] at h1; cases h1
        refine ⟨rfl, (lst ((h7.drop off).take K) hb).stay ?_⟩
        intro j hj
        have hj2 : j < ((cc.toList.take cs.length).drop off).length := by simp at hj ⊢; omega
        have := cells (off := off) (ms := (cc.toList.take cs.length).drop off) (k := cs.length) h3 h4 rfl j hj2
        rw [this]
        have e1 := getD_of_some hj
        have e2 := getD_of_some hj2
        rw [List.getElem?_take, if_pos (by simp at hj; omega)] at e1
        rw [← e1, ← e2]
    have ptr : ∀ {i off : Nat} {cs : List Value} {t : TypeId} {m : Mode}, v = .pointer (some ⟨i, off, none⟩) → h.get i = some (.cells cs t m) → m = .fix ∨ m = .grow → (match borL (borV mp n h) cs with | some l => some (vpt off l.toArray) | none => none) = some v2 → FRel F v2 v' := fun {i off cs t m} ev hg hm he2 => by
      subst ev
      split at he2
      · rename_i l hl
        simp only [Option.some.injEq] at he2; subst he2
        cases hv with
        | ptr hi =>
          have hl' : borL (borV mp n h) ((cs.drop 0).take cs.length) = some l := by rw [List.drop_zero, List.take_length]; exact hl
          obtain ⟨e0, st⟩ := blk cs.length hi hg hm hl'
          simp only at e0; subst e0
          exact st.vpt off
      · cases he2
    have sli : ∀ {i off k c : Nat} {cs : List Value} {t : TypeId} {m : Mode}, v = .slice (some ⟨i, off, none⟩) k c → Nat.beq k 0 = false → Nat.ble k c = true → h.get i = some (.cells cs t m) → m = .fix ∨ m = .grow → (match borL (borV mp n h) ((cs.drop off).take (k * ((cs.length - off) / c))) with | some l => some (vsl k l.toArray) | none => none) = some v2 → FRel F v2 v' := fun {i off k c cs t m} ev hk hkc hg hm he2 => by
      subst ev
      split at he2
      · rename_i l hl
        simp only [Option.some.injEq] at he2; subst he2
        have hkc := Nat.le_of_ble_eq_true hkc
        cases hv with
        | sfix hi =>
          obtain ⟨e0, st⟩ := blk _ hi hg hm hl
          simp only at e0; subst e0
          rw [Nat.zero_add]
          exact st.vsl hkc
        | sgrown hi hc hz =>
          obtain ⟨e0, st⟩ := blk _ hi hg hm hl
          rw [Nat.zero_add]
          exact st.vsl (Nat.le_trans hkc hc)
        | sloose hi ho => simp at hk
      · cases he2
    unfold borV at he
    split at he
    · cases he; cases hv; exact .bool _
    · cases he; cases hv; exact .int _ _
    · cases he; cases hv; exact .float _ _
    · cases he; cases hv; exact .complex _ _ _
    · cases he; cases hv; exact .string _
    · cases he; cases hv; exact .pnil
    · split at he
      · rename_i hg; exact ptr rfl hg (.inl rfl) he
      · rename_i hg; exact ptr rfl hg (.inr rfl) he
      · cases he
    · cases he; cases hv; exact .snil _ _
    · split at he
      · rename_i hk
        have hk := Nat.eq_of_beq_eq_true hk
        subst hk
        cases he
        cases hv with
        | sfix _ => exact .vnil _ _
        | sgrown _ _ _ => exact .vnil _ _
        | sloose _ _ => exact .vnil _ _
      · rename_i hk
        split at he
        · rename_i hkc hg; exact sli rfl hk hkc hg (.inl rfl) he
        · rename_i hkc hg; exact sli rfl hk hkc hg (.inr rfl) he
        · cases he
    · cases he; cases hv; exact .mnil
    · split at he
      · rename_i ks vs hg
        split at he
        · cases he
          obtain ⟨b, es, cl, h1, h2, h3, h4, h5, _, h7⟩ := H.blk _ _ hg
          cases hv with
          | mptr hi =>
            rw [hi] at h1; cases h1
            have hvf := mapsP_get (hm rfl) _ (Heap.lt_of_get hg) _ _ hg
            have q1 : CellsR F ks (es.toList.map (·.key)) := ⟨h4.len, fun j => by
              have := flats_eq h4 h7
              rw [this]; exact flat_frel h7 F j⟩
            have q2 : CellsR F vs (es.toList.map (·.val)) := ⟨h5.len, fun j => by
              have := flats_eq h5 hvf
              rw [this]; exact flat_frel hvf F j⟩
            refine .vmp (by simpa using h7) (by simpa using q1.1) (by simpa using q2.1) (hW.m _ _ _ h2 h3) (fun j => ?_) fun j => ?_
            · have := q1.2 j; simpa [List.getD, Array.getD_eq_getD_getElem?] using this
            · have := q2.2 j; simpa [List.getD, Array.getD_eq_getD_getElem?] using this
        · cases he
      · cases he
    · cases he; cases hv; exact .cnil
    · cases he; cases hv; exact .nilFunc
    · cases he; cases hv; exact .nilIface
    · split at he
      · rename_i l m hl hm
        cases he
        cases hv with
        | func _ ha hc h1 h2 =>
          obtain ⟨_, k1, k2⟩ := VRel.func_lists (.func (.func 0) ha hc h1 h2)
          have q1 := lst k1 hl
          have q2 := lst k2 hm
          exact .func _ (by simpa using q1.1) (by simpa using q2.1) (fun j => by simpa using q1.2 j) fun j => by simpa using q2.2 j
      · cases he
    · split at he
      · rename_i ht
        split at he
        · rename_i u' hu
          cases he
          cases hv with
          | iface _ _ hh => exact .iface _ ht (ih _ _ _ hu hh)
          | frz _ ht' _ => rw [ht] at ht'; cases ht'
          | osnil => simp [isV] at ht
          | osome => simp [isV] at ht
          | rsl => simp [isV] at ht
          | rnil => simp [isV] at ht
          | rpt => simp [isV] at ht
          | rch => simp [isV] at ht
        · cases he
      · rename_i ht
        exact (borF_rel ht he hv).mono hle
    · split at he
      · rename_i l hl
        cases he
        cases hv with
        | agg ha hh =>
          have q := lst (VRel.agg_list (.agg ha hh)) hl
          exact .agg (by simpa using q.1) fun j => by simpa using q.2 j
      · cases he
    · split at he
      · rename_i l hl
        cases he
        cases hv with
        | tuple ha hh =>
          have q := lst (VRel.tuple_list (.tuple ha hh)) hl
          exact .tuple (by simpa using q.1) fun j _ => by simpa using q.2 j
      · cases he
    · cases he

/-- All memory, as it stands. -/
def memAll (w : World) : Fz := ⟨fun b o => match w.heap[b]? with
  | some (.cells cc _ _) => cc[o]?
  | _ => none, fun b => match w.heap[b]? with
  | some (.map es _) => some es
  | _ => none⟩
theorem memAll_ok (w : World) : FzOK (memAll w) w := by
  refine ⟨fun b o v h => ?_, fun b es h => ?_⟩
  · simp only [memAll] at h
    split at h
    · rename_i cc t fz e; exact ⟨cc, t, fz, e, h⟩
    · cases h
  · simp only [memAll] at h
    split at h
    · rename_i es' cl e; cases h; exact ⟨cl, e⟩
    · cases h
theorem memAll_whole (B : Nat) (w : World) : Whole B (memAll w) w := ⟨fun b o cc t fz v _ hb hv => by simp only [memAll, hb]; exact hv, fun b es cl _ hb => by simp only [memAll, hb]⟩
theorem FzOK.le_all {F : Fz} {w : World} (h : FzOK F w) : F.le (memAll w) := ⟨fun b o v hv => by
  obtain ⟨cc, t, fz, k1, k2⟩ := h.c b o v hv
  simp only [memAll, k1]; exact k2, fun b es he => by
  obtain ⟨cl, k⟩ := h.m b es he
  simp only [memAll, k]⟩

theorem CellsR.lrel {τ : Sg} {l l' : List Value} (h : CellsR τ.f l l') : LRel τ l l' := LRel.of_getD h.1 fun j _ => (h.2 j).vrel

/-- A call that leaves memory alone, of what it is handed seen as it stands: its answer leads to no memory. -/
theorem CallS.borrow {f : FuncId} {args args2 : List Value} {h : Heap} {v : Value} (hk : CallK P f args2 v) (hb : borL (borV false 8 h) args = some args2) (hv : flat v = true) : CallS P f args h fun v1 h1 => v1 = v ∧ h1 = h := fun B w0 σ w args' H hargs => by
  have hF := memAll_ok w
  have hle := H.frz.le_all
  have H0 := HRel.start (P := P) (Nat.le_refl _) w H.globs hF (H.old.2.goes H.below H.size)
  have ha := borL_rel (borV_rel H hle (memAll_whole B w) (fun e => by cases e) 8) hargs hb
  refine (hk (Heap.empty P.globals.size) w.heap.size ⟨w, memAll w⟩ (Sg.start P.globals.size (memAll w)) w args' H0 (CellsR.lrel (τ := Sg.start P.globals.size (memAll w)) ha)).mono fun e w' ⟨v1, v', h1, k1, k2, σ', k3, k4, k5⟩ => ?_
  obtain ⟨rfl, _⟩ := k2
  obtain rfl := flat_eq hv k4
  have hb' := k5.below
  have hs := H.size
  refine ⟨v', v', h, k1, ⟨rfl, rfl⟩, σ, Sg.le_refl σ, flat_rel hv σ, ⟨H.below.trans (hb'.mono hs), Nat.le_trans hs hb'.size, H.dom, fun i x hx => Nat.lt_of_lt_of_le (H.codom i x hx) hb'.size, H.glob, fun i b hg => ?_, H.inj, ?_, H.old, H.tdom⟩⟩
  · exact (H.blk i b hg).same fun _ b' hl => hb'.block _ (H.blk_lt hg hl)
  · refine ⟨fun b o v hv => ?_, fun b es he => ?_⟩
    · obtain ⟨cc, t, fz, q1, q2⟩ := H.frz.c b o v hv
      exact ⟨cc, t, fz, by rw [hb'.block _ (Array.getElem?_eq_some_iff.1 q1).1]; exact q1, q2⟩
    · obtain ⟨cl, q⟩ := H.frz.m b es he
      exact ⟨cl, by rw [hb'.block _ (Array.getElem?_eq_some_iff.1 q).1]; exact q⟩

/-- From now on nothing is written: all that was made stays. -/
theorem Weak.freeze {vs vs2 : List Value} {h : Heap} (hm : mapsP h h.next) (hb : borL (borV true 8 h) vs = some vs2) : Weak P vs h vs2 ⟨h.next, .leaf⟩ := fun B w0 σ w l H hl => by
  let F2 : Fz := ⟨fun b o => if b < B then σ.f.c b o else (memAll w).c b o, fun b => if b < B then σ.f.m b else (memAll w).m b⟩
  have hle : σ.f.le F2 := ⟨fun b o v hv => by
    show (if b < B then σ.f.c b o else (memAll w).c b o) = some v
    split
    · exact hv
    · exact H.frz.le_all.c _ _ _ hv, fun b es he => by
    show (if b < B then σ.f.m b else (memAll w).m b) = some es
    split
    · exact he
    · exact H.frz.le_all.m _ _ he⟩
  have hW : Whole B F2 w := ⟨fun b o cc t fz v hB hb hv => by
    show (if b < B then σ.f.c b o else (memAll w).c b o) = some v
    rw [if_neg (by omega)]; exact (memAll_whole B w).c b o cc t fz v hB hb hv, fun b es cl hB hb => by
    show (if b < B then σ.f.m b else (memAll w).m b) = some es
    rw [if_neg (by omega)]; exact (memAll_whole B w).m b es cl hB hb⟩
  have hget : ∀ i, Heap.get ⟨h.next, .leaf⟩ i = none := fun i => by
    unfold Heap.get
    split
    · exact Trie.get_leaf i
    · rfl
  have hr := borL_rel (borV_rel H hle hW (fun _ => hm) 8) hl hb
  refine ⟨{ σ with f := F2 }, ⟨fun _ _ h => h, hle, fun _ _ _ h => h⟩, ⟨H.below, H.size, H.dom, H.codom, H.glob, fun i b hg => (by rw [hget] at hg; cases hg), fun i j _ _ bi bj b hi => (by rw [hget] at hi; cases hi), ⟨fun b o v hv => ?_, fun b es he => ?_⟩, ?_, H.tdom⟩, CellsR.lrel (τ := { σ with f := F2 }) hr⟩
  · have hv : (if b < B then σ.f.c b o else (memAll w).c b o) = some v := hv
    split at hv
    · exact H.frz.c b o v hv
    · exact (memAll_ok w).c b o v hv
  · have he : (if b < B then σ.f.m b else (memAll w).m b) = some es := he
    split at he
    · exact H.frz.m b es he
    · exact (memAll_ok w).m b es he
  · refine ⟨fun b hb => ?_, H.old.2⟩
    obtain ⟨q1, q2⟩ := H.old.1 b hb
    refine ⟨?_, ?_⟩
    · rw [← q1]; funext o; exact if_pos hb
    · rw [← q2]; exact if_pos hb

end Go.Ideal

end
section
/- Blocks that were made in a round of a loop, forgotten at its end. Over any program. -/
set_option linter.unusedVariables false
set_option linter.unusedSimpArgs false
namespace Go.Ideal
open Go.RowKit

variable {P : Program} {B : Nat} {w0 : Org}

/-- All that lies below N. -/
def Sg.trim (σ : Sg) (N : Nat) : Sg := ⟨fun i => if i < N then σ i else none, σ.f, fun i n => if i < N then σ.T i n else none⟩
theorem Sg.trim_lt {σ : Sg} {N i : Nat} (h : i < N) : (σ.trim N) i = σ i := if_pos h
theorem Sg.trim_T {σ : Sg} {N i n : Nat} (h : i < N) : (σ.trim N).T i n = σ.T i n := if_pos h

/-- The pool to which a value leads. -/
def asPool : Value → Option Nat
  | .iface t (.tuple a) => match Nat.beq t 1000006 || Nat.beq t 1000007 || Nat.beq t 1000008, a.toList with
    | true, .int _ p :: _ => some p.toNat
    | _, _ => none
  | _ => none
/-- Nothing in it leads to blocks from N on. -/
def refsOK : Nat → Nat → Value → Bool
  | 0, _, _ => false
  | n + 1, N, v => match v with
    | .pointer (some ⟨i, _, _⟩) => Nat.blt i N
    | .slice (some ⟨i, _, _⟩) _ _ => Nat.blt i N
    | .map (some i) => Nat.blt i N
    | .func _ a c => a.toList.all (refsOK n N) && c.toList.all (refsOK n N)
    | .iface t u => match isV t with
      | true => match asOs (.iface t u) with
        | some (tok, _, _, _) => Nat.blt tok N
        | none => match asPool (.iface t u) with
          | some p => Nat.blt p N
          | none => true
      | false => refsOK n N u
    | .agg cs => cs.toList.all (refsOK n N)
    | .tuple cs => cs.toList.all (refsOK n N)
    | _ => true

theorem LRel.all_of {σ τ : Sg} {f : Value → Bool} (hf : ∀ v v', f v = true → VRel σ v v' → VRel τ v v') {l l' : List Value} (h : LRel σ l l') : l.all f = true → LRel τ l l' := by
  induction h with
  | nil => intro _; exact .nil
  | cons k _ ih => intro hh; simp only [List.all_cons, Bool.and_eq_true] at hh; exact .cons (hf _ _ hh.1 k) (ih hh.2)

theorem VRel.trim {σ : Sg} {N : Nat} : ∀ (n : Nat) (v v' : Value), refsOK n N v = true → VRel σ v v' → VRel (σ.trim N) v v'
  | 0, _, _, h, _ => by simp [refsOK] at h
  | n + 1, v, v', h, hv => by
    have lst : ∀ {l l' : List Value}, l.all (refsOK n N) = true → LRel σ l l' → LRel (σ.trim N) l l' := fun hl hr => hr.all_of (VRel.trim n) hl
    cases hv with
    | bool b => exact .bool b
    | int k n => exact .int k n
    | float k n => exact .float k n
    | complex k n m => exact .complex k n m
    | string s => exact .string s
    | pnil => exact .pnil
    | ptr hi => exact .ptr (by rw [Sg.trim_lt (by simpa [refsOK] using h)]; exact hi)
    | snil n c => exact .snil n c
    | sfix hi => exact .sfix (by rw [Sg.trim_lt (by simpa [refsOK] using h)]; exact hi)
    | sgrown hi hc hz => exact .sgrown (by rw [Sg.trim_lt (by simpa [refsOK] using h)]; exact hi) hc hz
    | sloose hi ho => exact .sloose (by rw [Sg.trim_lt (by simpa [refsOK] using h)]; exact hi) ho
    | mnil => exact .mnil
    | cnil => exact .cnil
    | nilFunc => exact .nilFunc
    | nilIface => exact .nilIface
    | func fn ha hc h1 h2 =>
      simp only [refsOK, Bool.and_eq_true] at h
      obtain ⟨_, k1, k2⟩ := VRel.func_lists (.func fn ha hc h1 h2)
      exact VRel.func_of (lst h.1 k1) (lst h.2 k2)
    | iface t ht hh => simp only [refsOK, ht] at h; exact .iface t ht (VRel.trim n _ _ h hh)
    | frz t ht hh => exact .frz t ht hh
    | osnil tok es => exact .osnil tok es
    | osome hs hF hh hT hp hn hc hnc =>
      rename_i cells ms tok es b sz n' c'
      have hlt : tok < N := by
        have h2 : Nat.blt tok N = true := h
        simpa using h2
      exact .osome hs hF hh (by rw [Sg.trim_T hlt]; exact hT) hp hn hc hnc
    | mptr hi => exact .mptr (by rw [Sg.trim_lt (by simpa [refsOK] using h)]; exact hi)
    | rsl hT hc hnc =>
      rename_i p r es off b sz n' c'
      have h2 : Nat.blt p N = true := h
      exact .rsl (by rw [Sg.trim_T (by simpa using h2)]; exact hT) hc hnc
    | rnil hT r es a' =>
      rename_i p x
      have h2 : Nat.blt p N = true := h
      exact .rnil (by rw [Sg.trim_T (by simpa using h2)]; exact hT) r es a'
    | rpt hT =>
      rename_i p r off b sz
      have h2 : Nat.blt p N = true := h
      exact .rpt (by rw [Sg.trim_T (by simpa using h2)]; exact hT)
    | rch hT =>
      rename_i p r b sz
      have h2 : Nat.blt p N = true := h
      exact .rch (by rw [Sg.trim_T (by simpa using h2)]; exact hT)
    | agg ha hh => exact VRel.agg_of (lst (by simpa [refsOK] using h) (VRel.agg_list (.agg ha hh)))
    | tuple ha hh => exact VRel.tuple_of (lst (by simpa [refsOK] using h) (VRel.tuple_list (.tuple ha hh)))

/-- What was there before. -/
theorem VRel.rebase {σ0 σ : Sg} {N : Nat} (hd : ∀ i x, σ0 i = some x → i < N) (hT : ∀ i n x, σ0.T i n = some x → i < N) {v u : Value} (h0 : VRel σ0 v u) : ∀ {v' : Value}, VRel σ v v' → VRel (σ.trim N) v v' := by
  have arr : ∀ {a a' b : Array Value}, (∀ j : Nat, ∀ {v' : Value}, VRel σ (a.getD j Go.undef) v' → VRel (σ.trim N) (a.getD j Go.undef) v') → (∀ j : Nat, VRel σ (a.getD j Go.undef) (b.getD j Go.undef)) → ∀ j : Nat, VRel (σ.trim N) (a.getD j Go.undef) (b.getD j Go.undef) := fun ih h j => ih j (h j)
  induction h0 with
  | bool b => intro v' h; cases h; exact .bool b
  | int k n => intro v' h; cases h; exact .int k n
  | float k n => intro v' h; cases h; exact .float k n
  | complex k n m => intro v' h; cases h; exact .complex k n m
  | string s => intro v' h; cases h; exact .string s
  | pnil => intro v' h; cases h; exact .pnil
  | ptr hi => intro v' h; cases h with | ptr hj => exact .ptr (by rw [Sg.trim_lt (hd _ _ hi)]; exact hj)
  | snil n c => intro v' h; cases h; exact .snil n c
  | sfix hi => intro v' h; cases h with
    | sfix hj => exact .sfix (by rw [Sg.trim_lt (hd _ _ hi)]; exact hj)
    | sgrown hj hc hz => exact .sgrown (by rw [Sg.trim_lt (hd _ _ hi)]; exact hj) hc hz
    | sloose hj ho => exact .sloose (by rw [Sg.trim_lt (hd _ _ hi)]; exact hj) ho
  | sgrown hi _ _ => intro v' h; cases h with
    | sfix hj => exact .sfix (by rw [Sg.trim_lt (hd _ _ hi)]; exact hj)
    | sgrown hj hc hz => exact .sgrown (by rw [Sg.trim_lt (hd _ _ hi)]; exact hj) hc hz
    | sloose hj ho => exact .sloose (by rw [Sg.trim_lt (hd _ _ hi)]; exact hj) ho
  | sloose hi _ => intro v' h; cases h with
    | sfix hj => exact .sfix (by rw [Sg.trim_lt (hd _ _ hi)]; exact hj)
    | sgrown hj hc hz => exact .sgrown (by rw [Sg.trim_lt (hd _ _ hi)]; exact hj) hc hz
    | sloose hj ho => exact .sloose (by rw [Sg.trim_lt (hd _ _ hi)]; exact hj) ho
  | mnil => intro v' h; cases h; exact .mnil
  | cnil => intro v' h; cases h; exact .cnil
  | nilFunc => intro v' h; cases h; exact .nilFunc
  | nilIface => intro v' h; cases h; exact .nilIface
  | func fn ha hc h1 h2 i1 i2 => intro v' h; cases h with
    | func _ ka kc k1 k2 => exact .func fn ka kc (fun j => i1 j (k1 j)) fun j => i2 j (k2 j)
  | iface t ht _ ih => intro v' h; cases h with
    | iface _ _ hh => exact .iface t ht (ih hh)
    | frz _ ht' _ => rw [ht] at ht'; cases ht'
    | osnil => simp [isV] at ht
    | osome => simp [isV] at ht
    | rsl => simp [isV] at ht
    | rnil => simp [isV] at ht
    | rpt => simp [isV] at ht
    | rch => simp [isV] at ht
  | frz t ht hf => intro v' h; cases h with
    | iface _ ht' _ => rw [ht] at ht'; cases ht'
    | frz _ _ hh => exact .frz t ht hh
    | osnil => exact .osnil _ _
    | osome => cases hf with | iface _ ht' _ => rw [ht] at ht'; cases ht'
    | rnil => cases hf with | iface _ ht' _ => rw [ht] at ht'; cases ht'
    | rsl => cases hf with | iface _ ht' _ => rw [ht] at ht'; cases ht'
    | rpt => cases hf with | iface _ ht' _ => rw [ht] at ht'; cases ht'
    | rch => cases hf with | iface _ ht' _ => rw [ht] at ht'; cases ht'
  | osnil tok es => intro v' h; generalize ho : osl tok es 0 #[] = q at h; cases h with
    | frz t ht hh => exact .frz t ht hh
    | osnil tok2 es2 => exact .osnil tok2 es2
    | osome hs hF hh hT' hp hn hc hnc =>
      simp only [osl, Value.iface.injEq, Value.tuple.injEq, Array.mk.injEq, List.cons.injEq, Value.int.injEq, Value.agg.injEq, true_and, and_true] at ho
      obtain ⟨_, _, _, e4⟩ := ho
      subst e4
      simp at hp
    | iface t ht _ => cases ho; simp [isV] at ht
    | _ => cases ho
  | osome hs hF hh hT0 hp hn hc hnc =>
    rename_i cells ms tok es b sz n c'
    intro v' h; generalize ho : osl tok es n cells = q at h; cases h with
    | frz t ht hh => exact .frz t ht hh
    | osnil tok2 es2 => exact .osnil tok2 es2
    | osome hs2 hF2 hh2 hT2 hp2 hn2 hc2 hnc2 =>
      rename_i cells2 ms2 tok2 es2 b2 sz2 n2 c2'
      have e1 : tok = tok2 := by
        simp only [osl, Value.iface.injEq, Value.tuple.injEq, Array.mk.injEq, List.cons.injEq, Value.int.injEq, Value.agg.injEq, true_and, and_true] at ho
        omega
      exact .osome hs2 hF2 hh2 (by rw [Sg.trim_T (by rw [← e1]; exact hT _ _ _ hT0)]; exact hT2) hp2 hn2 hc2 hnc2
    | iface t ht _ => cases ho; simp [isV] at ht
    | _ => cases ho
  | @rsl p r es off b sz n c' hT0 _ _ =>
    intro v' h; generalize ho : Go.Ideal.rsl p r es off n = q at h
    cases h with
    | frz t ht hh => exact .frz t ht hh
    | rsl hT2 hc2 hnc2 =>
      rename_i p2 r2 es2 off2 b2 sz2 n2 c2'
      have e1 : p = p2 := by simp only [Go.Ideal.rsl, Value.iface.injEq, Value.tuple.injEq, Array.mk.injEq, List.cons.injEq, Value.int.injEq, true_and, and_true] at ho; omega
      exact .rsl (by rw [Sg.trim_T (by rw [← e1]; exact hT _ _ _ hT0)]; exact hT2) hc2 hnc2
    | rnil hT2 r2 es2 a2 =>
      rename_i p2 x2
      have e1 : p = p2 := by simp only [Go.Ideal.rsl, Value.iface.injEq, Value.tuple.injEq, Array.mk.injEq, List.cons.injEq, Value.int.injEq, true_and, and_true] at ho; omega
      exact .rnil (by rw [Sg.trim_T (by rw [← e1]; exact hT _ _ _ hT0)]; exact hT2) r2 es2 a2
    | iface t ht _ => cases ho; simp [isV] at ht
    | _ => cases ho
  | @rnil p x hT0 r es a' =>
    intro v' h; generalize ho : Go.Ideal.rsl p r es 0 0 = q at h
    cases h with
    | frz t ht hh => exact .frz t ht hh
    | rsl hT2 hc2 hnc2 =>
      rename_i p2 r2 es2 off2 b2 sz2 n2 c2'
      have e1 : p = p2 := by simp only [Go.Ideal.rsl, Value.iface.injEq, Value.tuple.injEq, Array.mk.injEq, List.cons.injEq, Value.int.injEq, true_and, and_true] at ho; omega
      exact .rsl (by rw [Sg.trim_T (by rw [← e1]; exact hT _ _ _ hT0)]; exact hT2) hc2 hnc2
    | rnil hT2 r2 es2 a2 =>
      rename_i p2 x2
      have e1 : p = p2 := by simp only [Go.Ideal.rsl, Value.iface.injEq, Value.tuple.injEq, Array.mk.injEq, List.cons.injEq, Value.int.injEq, true_and, and_true] at ho; omega
      exact .rnil (by rw [Sg.trim_T (by rw [← e1]; exact hT _ _ _ hT0)]; exact hT2) r2 es2 a2
    | iface t ht _ => cases ho; simp [isV] at ht
    | _ => cases ho
  | @rpt p r off b sz hT0 =>
    intro v' h; generalize ho : Go.Ideal.rpt p r off = q at h
    cases h with
    | frz t ht hh => exact .frz t ht hh
    | rpt hT2 =>
      rename_i p2 r2 off2 b2 sz2
      have e1 : p = p2 := by simp only [Go.Ideal.rpt, Value.iface.injEq, Value.tuple.injEq, Array.mk.injEq, List.cons.injEq, Value.int.injEq, true_and, and_true] at ho; omega
      exact .rpt (by rw [Sg.trim_T (by rw [← e1]; exact hT _ _ _ hT0)]; exact hT2)
    | iface t ht _ => cases ho; simp [isV] at ht
    | _ => cases ho
  | @rch p r b sz hT0 =>
    intro v' h; generalize ho : Go.Ideal.rch p r = q at h
    cases h with
    | frz t ht hh => exact .frz t ht hh
    | rch hT2 =>
      rename_i p2 r2 b2 sz2
      have e1 : p = p2 := by simp only [Go.Ideal.rch, Value.iface.injEq, Value.tuple.injEq, Array.mk.injEq, List.cons.injEq, Value.int.injEq, true_and, and_true] at ho; omega
      exact .rch (by rw [Sg.trim_T (by rw [← e1]; exact hT _ _ _ hT0)]; exact hT2)
    | iface t ht _ => cases ho; simp [isV] at ht
    | _ => cases ho
  | mptr hi => intro v' h; cases h with | mptr hj => exact .mptr (by rw [Sg.trim_lt (hd _ _ hi)]; exact hj)
  | agg ha _ ih => intro v' h; cases h with | agg ka k => exact .agg ka fun j => ih j (k j)
  | tuple ha _ ih => intro v' h; cases h with
    | tuple ka k => exact .tuple ka fun j hj => ih j hj (k j hj)

theorem exists_array {n : Nat} {p : Nat → Value → Prop} (h : ∀ j, j < n → ∃ v, p j v) : ∃ a : Array Value, a.size = n ∧ ∀ j, j < n → p j (a.getD j Go.undef) := by
  induction n with
  | zero => exact ⟨#[], rfl, fun j hj => absurd hj (Nat.not_lt_zero _)⟩
  | succ n ih =>
    obtain ⟨a, h1, h2⟩ := ih fun j hj => h j (by omega)
    obtain ⟨v, hv⟩ := h n (by omega)
    refine ⟨a.push v, by simp [h1], fun j hj => ?_⟩
    rcases Nat.lt_or_ge j n with k | k
    · have := h2 j k
      simpa [Array.getD_eq_getD_getElem?, Array.getElem?_push, show ¬ j = a.size by omega] using this
    · have e : (a.push v).getD j Go.undef = v := by
        have : j = a.size := by omega
        subst this
        simp [Array.getD_eq_getD_getElem?]
      have e2 : j = n := by omega
      rw [e, e2]; exact hv
theorem getDA_ge {a : Array Value} {j : Nat} (h : a.size ≤ j) : a.getD j Go.undef = Go.undef := by
  simp [Array.getD_eq_getD_getElem?, Array.getElem?_eq_none h]

/-- Something is known of anything. -/
theorem VRel.blank {σ : Sg} (N : Nat) {v v' : Value} (h : VRel σ v v') : ∃ v2, VRel (σ.trim N) v2 v' := by
  have any : ∀ {v' : Value}, refLike v' = true → ∃ v2, VRel (σ.trim N) v2 v' := fun h => ⟨vany, (FRel.any h : FRel σ.f vany _).vrel (σ := σ.trim N)⟩
  induction h with
  | bool b => exact ⟨_, .bool b⟩
  | int k n => exact ⟨_, .int k n⟩
  | float k n => exact ⟨_, .float k n⟩
  | complex k n m => exact ⟨_, .complex k n m⟩
  | string s => exact ⟨_, .string s⟩
  | pnil => exact ⟨_, .pnil⟩
  | ptr hi => exact any rfl
  | snil n c => exact ⟨_, .snil n c⟩
  | sfix hi => exact any rfl
  | sgrown hi _ _ => exact any rfl
  | sloose hi _ => exact any rfl
  | mnil => exact ⟨_, .mnil⟩
  | cnil => exact ⟨_, .cnil⟩
  | nilFunc => exact ⟨_, .nilFunc⟩
  | nilIface => exact ⟨_, .nilIface⟩
  | @func fn a a' c c' ha hc h1 h2 i1 i2 =>
    obtain ⟨b, k1, k2⟩ := exists_array (n := a'.size) (p := fun j v => VRel (σ.trim N) v (a'.getD j Go.undef)) fun j _ => i1 j
    obtain ⟨d, q1, q2⟩ := exists_array (n := c'.size) (p := fun j v => VRel (σ.trim N) v (c'.getD j Go.undef)) fun j _ => i2 j
    refine ⟨.func fn b d, .func fn k1 q1 (fun j => ?_) fun j => ?_⟩
    · rcases Nat.lt_or_ge j a'.size with h | h
      · exact k2 j h
      · rw [getDA_ge h, getDA_ge (by omega)]; exact VRel.undef _
    · rcases Nat.lt_or_ge j c'.size with h | h
      · exact q2 j h
      · rw [getDA_ge h, getDA_ge (by omega)]; exact VRel.undef _
  | iface t ht _ ih => obtain ⟨v2, h2⟩ := ih; exact ⟨.iface t v2, .iface t ht h2⟩
  | frz t ht hf => exact ⟨_, .frz t ht hf⟩
  | osnil tok es => exact ⟨_, .snil 0 0⟩
  | osome hs hF hh hT hp hn hc hnc => exact any rfl
  | mptr hi => exact any rfl
  | rsl hT hc hnc => exact any rfl
  | rnil hT r es a' => cases a' with
    | none => exact ⟨_, .snil 0 0⟩
    | some a => exact any rfl
  | rpt hT => exact any rfl
  | rch hT => exact any rfl
  | @agg a a' ha h ih =>
    obtain ⟨b, k1, k2⟩ := exists_array (n := a'.size) (p := fun j v => VRel (σ.trim N) v (a'.getD j Go.undef)) fun j _ => ih j
    refine ⟨.agg b, .agg k1 fun j => ?_⟩
    rcases Nat.lt_or_ge j a'.size with h | h
    · exact k2 j h
    · rw [getDA_ge h, getDA_ge (by omega)]; exact VRel.undef _
  | @tuple a a' ha h ih =>
    obtain ⟨b, k1, k2⟩ := exists_array (n := a'.size) (p := fun j v => VRel (σ.trim N) v (a'.getD j Go.undef)) fun j hj => ih j (by omega)
    exact ⟨.tuple b, .tuple k1 fun j hj => k2 j (by omega)⟩

/-! ### heaps -/
/-- Nothing in the blocks below i leads to blocks from N on. -/
def rowsOK (N : Nat) (rows : List Row) : Prop := ∀ row ∈ rows, match row with
  | .cells cs => cs.all (refsOK 8 N) = true
  | .chan _ buf => buf.all (refsOK 8 N) = true
  | .dead => True
def refsP (N : Nat) (h : Heap) : Nat → Prop
  | 0 => True
  | i + 1 => match h.get i with
    | some (.cells cs _ _) => cs.all (refsOK 8 N) = true ∧ refsP N h i
    | some (.map _ vs) => vs.all (refsOK 8 N) = true ∧ refsP N h i
    | some (.pool rows) => rowsOK N rows ∧ refsP N h i
    | _ => refsP N h i
def refsB (N : Nat) : Blk → Prop
  | .cells cs _ _ => cs.all (refsOK 8 N) = true
  | .map _ vs => vs.all (refsOK 8 N) = true
  | .pool rows => rowsOK N rows
  | _ => True
/-- The blocks below, the same in both. -/
def EqBlks (h1 h2 : Heap) : Nat → Prop
  | 0 => True
  | i + 1 => match h1.get i, h2.get i with
    | none, none => EqBlks h1 h2 i
    | a, b => a = b ∧ EqBlks h1 h2 i
theorem EqBlks.get {h1 h2 : Heap} : ∀ {N : Nat}, EqBlks h1 h2 N → ∀ i, i < N → h1.get i = h2.get i
  | 0, _, i, hi => absurd hi (Nat.not_lt_zero _)
  | N + 1, h, i, hi => by
    simp only [EqBlks] at h
    split at h
    · rename_i e1 e2
      rcases Nat.lt_or_ge i N with k | k
      · exact h.get i k
      · obtain rfl : i = N := by omega
        rw [e1, e2]
    · rcases Nat.lt_or_ge i N with k | k
      · exact h.2.get i k
      · obtain rfl : i = N := by omega
        exact h.1
theorem refsP_get {N : Nat} {hp : Heap} : ∀ {k : Nat}, refsP N hp k → ∀ i, i < k → ∀ b, hp.get i = some b → refsB N b
  | 0, _, i, hi, _, _ => absurd hi (Nat.not_lt_zero _)
  | k + 1, h, i, hi, b, hb => by
    have rest : refsP N hp k := by
      simp only [refsP] at h
      split at h
      · exact h.2
      · exact h.2
      · exact h.2
      · exact h
    rcases Nat.lt_or_ge i k with q | q
    · exact refsP_get rest i q b hb
    · obtain rfl : i = k := by omega
      simp only [refsP] at h
      rw [hb] at h
      cases b <;> first | exact h.1 | trivial

theorem HRel.trim {σ : Sg} {h h2 : Heap} {w : World} (H : HRel P B w0 σ h w) (hg : P.globals.size ≤ h2.next) (he : EqBlks h h2 h2.next) (hr : refsP h2.next h2 h2.next) : HRel P B w0 (σ.trim h2.next) h2 w := by
  have lt : ∀ {i : Nat} {b : Blk}, h2.get i = some b → i < h2.next := fun hb => Heap.lt_of_get hb
  have old : ∀ {i : Nat} {b : Blk}, h2.get i = some b → h.get i = some b := fun {i b} hb => by rw [he.get i (lt hb)]; exact hb
  have loc : ∀ {i r : Nat} {b : Blk}, i < h2.next → b.loc (σ.trim h2.next) i r = b.loc σ i r := fun {i r b} hi => by
    cases b with
    | cells cs t m => cases m <;> simp [Blk.loc, Sg.trim_lt hi]
    | own n t => simp [Blk.loc, Sg.trim_T hi]
    | pool rows => simp [Blk.loc, Sg.trim_T hi]
    | _ => simp [Blk.loc, Sg.trim_lt hi]
  refine ⟨H.below, H.size, fun i x hx => ?_, fun i x hx => ?_, fun g hg' => ?_, fun i b hb => ?_, fun i j r s bi bj b hi hj li lj hB => ?_, H.frz, H.old, fun i n x hx => ?_⟩
  · rcases Nat.lt_or_ge i h2.next with k | k
    · exact k
    · simp [Sg.trim, show ¬ i < h2.next by omega] at hx
  · rcases Nat.lt_or_ge i h2.next with k | k
    · rw [Sg.trim_lt k] at hx; exact H.codom i x hx
    · simp [Sg.trim, show ¬ i < h2.next by omega] at hx
  · rw [Sg.trim_lt (by omega)]; exact H.glob g hg'
  · have hi := lt hb
    have hB := H.blk i b (old hb)
    have hrb := refsP_get hr i hi b hb
    have lr : ∀ {l l' : List Value}, l.all (refsOK 8 h2.next) = true → LRel σ l l' → LRel (σ.trim h2.next) l l' := fun hl k => k.all_of (VRel.trim 8) hl
    cases b with
    | cells cs t m => cases m with
      | ro => obtain ⟨b, o, cc, t', fz, h1, h2', h3, h4, h5⟩ := hB; exact ⟨b, o, cc, t', fz, by rw [Sg.trim_lt hi]; exact h1, h2', h3, h4, lr hrb h5⟩
      | fix => obtain ⟨b, cc, t', fz, h1, h2', h3, h4, h5, h6⟩ := hB; exact ⟨b, cc, t', fz, by rw [Sg.trim_lt hi]; exact h1, h2', h3, h4, lr hrb h5, h6⟩
      | grow => obtain ⟨b, es, cc, t', fz, h1, h2', h3, h4, h5, h6, h7, h8⟩ := hB; exact ⟨b, es, cc, t', fz, by rw [Sg.trim_lt hi]; exact h1, h2', h3, h4, h5, h6, lr hrb h7, h8⟩
      | dead => trivial
    | iter s pos => obtain ⟨b, h1, h2', h3, h4⟩ := hB; exact ⟨b, by rw [Sg.trim_lt hi]; exact h1, h2', h3, h4⟩
    | own n t =>
      rcases hB with ⟨h1, h2'⟩ | ⟨b, cc, t', fz, h1, h2', h3, h4, h5, h6, h7, h8⟩
      · exact .inl ⟨h1, fun m => by rw [Sg.trim_T hi]; exact h2' m⟩
      · exact .inr ⟨b, cc, t', fz, by rw [Sg.trim_T hi]; exact h1, fun m x hx => h2' m x (by rw [Sg.trim_T hi] at hx; exact hx), h3, h4, h5, h6, h7, h8⟩
    | map ks vs =>
      obtain ⟨b, es, cl, h1, h2', h3, h4, h5, h6, h7⟩ := hB
      refine ⟨b, es, cl, by rw [Sg.trim_lt hi]; exact h1, h2', h3, ?_, lr hrb h5, h6, h7⟩
      rw [flats_eq h4 h7]; exact flats_rel h7 _
    | pool rows =>
      obtain ⟨h1, h2', h3⟩ := hB
      have hlo : ∀ r, (Blk.pool rows).loc (σ.trim h2.next) i r = (Blk.pool rows).loc σ i r := fun r => by simp [Blk.loc, Sg.trim_T hi]
      refine ⟨⟨by rw [Sg.trim_T hi]; exact h1.1, fun r hr => by rw [Sg.trim_T hi]; exact h1.2 r hr⟩, fun r row hr => ?_, fun r r' b k k' => h3 r r' b (by rw [← hlo]; exact k) (by rw [← hlo]; exact k')⟩
      have hrow := h2' r row hr
      have hok := hrb row (List.mem_of_getElem? hr)
      cases row with
      | dead => trivial
      | cells cs =>
        rcases hrow with ⟨k1, k2⟩ | ⟨b, cc, t', fz, k1, k2, k3, k4, k5, k6, k7⟩
        · exact .inl ⟨k1, by rw [Sg.trim_T hi]; exact k2⟩
        · exact .inr ⟨b, cc, t', fz, by rw [Sg.trim_T hi]; exact k1, k2, k3, k4, k5, lr hok k6, k7⟩
      | chan cap buf =>
        obtain ⟨b, z, buf', s, rc, k1, k2, k3, k4, k5⟩ := hrow
        exact ⟨b, z, buf', s, rc, by rw [Sg.trim_T hi]; exact k1, k2, k3, lr hok k4, k5⟩
  · rw [loc (lt hi)] at li; rw [loc (lt hj)] at lj
    exact H.inj i j r s bi bj b (old hi) (old hj) li lj hB
  · rcases Nat.lt_or_ge i h2.next with k | k
    · exact k
    · simp [Sg.trim, show ¬ i < h2.next by omega] at hx

theorem Sg.le_trim {σ0 σ : Sg} {N : Nat} (hle : σ0.le σ) (hd : ∀ i x, σ0 i = some x → i < N) (hT : ∀ i n x, σ0.T i n = some x → i < N) : σ0.le (σ.trim N) :=
  ⟨fun i x hx => by rw [Sg.trim_lt (hd i x hx)]; exact hle.pl i x hx, hle.f, fun i n x hx => by rw [Sg.trim_T (hT i n x hx)]; exact hle.T i n x hx⟩

/-- A frame: what is outside W was there before; what S says of W leads to nothing new; of the rest something is known. -/
theorem LRel.trim {σ0 σ : Sg} {N : Nat} (hd : ∀ i x, σ0 i = some x → i < N) (hT : ∀ i n x, σ0.T i n = some x → i < N) {ts ts' l l' : List Value} (h0 : LRel σ0 ts l) (h : LRel σ ts' l') (good : Nat → Bool)
    (hg : ∀ i, good i = true → i < ts'.length → refsOK 8 N (ts'.getD i Go.undef) = true ∨ ts'.getD i Go.undef = ts.getD i Go.undef) : ∃ ts2, LRel (σ.trim N) ts2 l' ∧ ts2.length = ts'.length ∧ ∀ i, good i = true → ts2.getD i Go.undef = ts'.getD i Go.undef := by
  have key : ∀ i, i < ts'.length → ∃ v2, VRel (σ.trim N) v2 (l'.getD i Go.undef) ∧ (good i = true → v2 = ts'.getD i Go.undef) := fun i hi => by
    have hv := h.getD i
    cases hgd : good i with
    | false => obtain ⟨v2, k⟩ := hv.blank N; exact ⟨v2, k, fun e => by cases e⟩
    | true =>
      rcases hg i hgd hi with k | k
      · exact ⟨_, VRel.trim 8 _ _ k hv, fun _ => rfl⟩
      · rw [k] at hv ⊢
        exact ⟨_, VRel.rebase hd hT (h0.getD i) hv, fun _ => rfl⟩
  obtain ⟨a, h1, h2⟩ := exists_array (n := ts'.length) (p := fun i v => VRel (σ.trim N) v (l'.getD i Go.undef) ∧ (good i = true → v = ts'.getD i Go.undef)) key
  refine ⟨a.toList, LRel.of_getD (by simp [h1, h.len]) fun j hj => ?_, by simp [h1], fun i hi => ?_⟩
  · have := (h2 j (by simpa [h1] using hj)).1
    simpa using this
  · rcases Nat.lt_or_ge i ts'.length with k | k
    · have := (h2 i k).2 hi
      simpa using this
    · have e1 : a.toList[i]? = none := by simp [h1]; omega
      have e2 : ts'[i]? = none := by simp; omega
      simp [List.getD, e1, e2]

/-- A loop: what holds at each round's head; what a round made is forgotten at its end. -/
theorem WpS.loop_trim {a : Code} {ts : List Value} {h : Heap} {Q : Ex → List Value → Heap → Prop} (I : Nat → List Value → Heap → Prop) (n : Nat) (h0 : I n ts h)
    (hstep : ∀ (n : Nat) (ts : List Value) (h : Heap), I n ts h → WpS P a ts h fun x ts' h' => match x with
      | .normal => ∃ (good : Nat → Bool) (h2 : Heap), h2.next = h.next ∧ EqBlks h' h2 h.next ∧ refsP h.next h2 h.next ∧
          (∀ i, good i = true → i < ts'.length → refsOK 8 h.next (ts'.getD i Go.undef) = true ∨ ts'.getD i Go.undef = ts.getD i Go.undef) ∧
          ∀ ts2 : List Value, ts2.length = ts'.length → (∀ i, good i = true → ts2.getD i Go.undef = ts'.getD i Go.undef) → ∃ m, m < n ∧ I m ts2 h2
      | x => Q x ts' h') : WpS P (.loop a) ts h Q := fun B w0 σ act w H hts hd => by
  have key : ∀ (n : Nat) (ts : List Value) (h : Heap) (σ : Sg) (act : Act) (w : World), I n ts h → HRel P B w0 σ h w → LRel σ ts act.tmps.toList → act.defers = [] → Code.rounds P a (AfterS P B w0 σ Q) (n + 1) act w := fun n => by
    induction n using Nat.strongRecOn with
    | _ n ih =>
      intro ts h σ act w hI H hts hd
      rw [rounds_succ]
      refine Go.wp_mono (hstep n ts h hI B w0 σ act w H hts hd) fun e a2 w2 k => ?_
      obtain ⟨x, ts', h', rfl, q, σ', k1, k2, k3, k4⟩ := k
      cases x with
      | normal =>
        obtain ⟨good, h2, q1, q2, q3, q4, q5⟩ := q
        have hdom := H.dom
        have htdom := H.tdom
        rw [← q1] at hdom htdom q2 q3 q4
        have hgl : P.globals.size ≤ h2.next := by
          rcases Nat.eq_zero_or_pos P.globals.size with h0 | h0
          · omega
          · have := hdom _ _ (H.glob (P.globals.size - 1) (by omega)); omega
        obtain ⟨ts2, r1, r2, r3⟩ := LRel.trim hdom htdom hts k2 good q4
        obtain ⟨m, hm, hI'⟩ := q5 ts2 r2 r3
        have H2 := k3.trim hgl q2 (by rw [q1] at q3 ⊢; exact q3)
        exact rounds_mono (fun _ _ _ k => k.weaken (Sg.le_trim k1 hdom htdom) fun _ _ _ h => h) (m + 1) n a2 w2 hm (ih m hm ts2 h2 (σ'.trim h2.next) a2 w2 hI' H2 r1 k4)
      | exit id => exact ⟨.exit id, ts', h', rfl, q, σ', k1, k2, k3, k4⟩
      | ret => exact ⟨.ret, ts', h', rfl, q, σ', k1, k2, k3, k4⟩
  exact wp_loop_rounds (n + 1) (key n ts h σ act w h0 H hts hd)

end Go.Ideal

end
section
/- How memory comes into a pool. Over any program. -/
set_option linter.unusedVariables false
set_option linter.unusedSimpArgs false
namespace Go.Ideal
open Go.RowKit

variable {P : Program} {B : Nat} {w0 : Org}

theorem WpOpsS.weak {ops : Array Oper} {l : List Oper} {ts ts2 : List Value} {h h2 : Heap} {R : List Value → Heap → Prop} (k : Weak P ts h ts2 h2) (hw : WpOpsS P ops l ts2 h2 R) : WpOpsS P ops l ts h R := fun B w0 σ a w Q H hts hd hQ => by
  obtain ⟨σ2, a1, a2, a3⟩ := k B w0 σ w _ H hts
  exact hw B w0 σ2 a w Q a2 a3 hd fun σ' a' w' ts' h' r hle => hQ σ' a' w' ts' h' r (Sg.le_trans a1 hle)

/-! ### how memory comes into a pool -/
/-- A pool without rows. -/
theorem Weak.pool {ts : List Value} {h : Heap} : Weak P ts h ts (h.push (.pool [])) := fun B w0 σ w l H hl => by
  have hnT : ∀ m, σ.T h.next m = none := fun m => by
    cases e : σ.T h.next m with
    | none => rfl
    | some x => exact absurd (H.tdom _ _ _ e) (Nat.lt_irrefl _)
  let τ : Sg := { σ with T := fun i n => if i = h.next ∧ n = 0 then some (0, 0) else σ.T i n }
  have hle : σ.le τ := ⟨fun _ _ h => h, Fz.le_refl _, fun i n x hx => by
    show (if _ then _ else _) = _
    rw [if_neg]; exact hx
    rintro ⟨rfl, rfl⟩
    rw [hnT] at hx; cases hx⟩
  have tne : ∀ {i n}, i ≠ h.next → τ.T i n = σ.T i n := fun {i n} hi => if_neg fun k => hi k.1
  have locne : ∀ {j s : Nat} {bj : Blk}, j ≠ h.next → bj.loc τ j s = bj.loc σ j s := fun {j s bj} hj => by
    cases bj with
    | cells cs t m => cases m <;> rfl
    | own n t => simp only [Blk.loc]; rw [tne hj]
    | pool rows => simp only [Blk.loc]; rw [tne hj]
    | _ => rfl
  have lnew : ∀ {s y : Nat}, (Blk.pool []).loc τ h.next s = some y → False := fun {s y} hl => by simp [Blk.loc] at hl
  refine ⟨τ, hle, ⟨H.below, H.size, fun j x hj => Nat.lt_succ_of_lt (H.dom j x hj), H.codom, H.glob, fun j b hj => ?_, fun j k s s' bj bk b hj hk lj lk hB => ?_, H.frz, H.old, fun i n x hx => ?_⟩, hl.mono hle⟩
  · rw [Heap.get_push] at hj
    split at hj
    · rename_i e; simp only [Option.some.injEq] at hj; subst hj; subst e
      refine ⟨⟨⟨(0, 0), by show (if _ then _ else _) = _; simp⟩, fun r _ => ?_⟩, fun r row hr => by simp at hr, fun r r' b l1 => absurd l1 fun h => lnew h⟩
      show (if _ then _ else _) = _
      rw [if_neg (by omega)]; exact hnT _
    · rename_i e
      exact (H.blk j b hj).mono hle (fun _ _ _ => rfl) (fun _ _ _ _ => ⟨rfl, rfl⟩) fun m => tne e
  · rw [Heap.get_push] at hj hk
    split at hj
    · rename_i e; simp only [Option.some.injEq] at hj; subst hj; subst e; exact (lnew lj).elim
    · split at hk
      · rename_i e; simp only [Option.some.injEq] at hk; subst hk; subst e; exact (lnew lk).elim
      · rename_i e1 e2
        rw [locne e1] at lj; rw [locne e2] at lk
        exact H.inj j k s s' bj bk b hj hk lj lk hB
  · show i < h.next + 1
    by_cases e : i = h.next
    · omega
    · have hx' : τ.T i n = some x := hx
      rw [tne e] at hx'
      have := H.tdom i n x hx'; omega

/-- A slice of nothing is a row of a pool. -/
theorem Weak.rowNil {ts : List Value} {h : Heap} {p i es : Nat} {rows : List Row} (hg : h.get p = some (.pool rows)) (hi : ts[i]? = some (.slice none 0 0) ∨ ts[i]? = some vzc) : Weak P ts h (ts.set i (rsl p rows.length es 0 0)) (h.set p (.pool (rows ++ [.cells []]))) := fun B w0 σ w l H hl => by
  obtain ⟨q1, q2, q3⟩ := H.blk _ _ hg
  have lt := Heap.lt_of_get hg
  have hno := q1.2 rows.length (Nat.le_refl _)
  have getn : ∀ s, (rows ++ [Row.cells []])[s]? = if s = rows.length then some (.cells []) else rows[s]? := fun s => by
    rw [List.getElem?_append]
    by_cases h1 : s = rows.length
    · subst h1; simp
    · rw [if_neg h1]
      by_cases h2 : s < rows.length
      · rw [if_pos h2]
      · rw [if_neg h2, List.getElem?_eq_none (by simp; omega), List.getElem?_eq_none (by omega)]
  have lp : ∀ {s y : Nat}, (Blk.pool (rows ++ [.cells []])).loc σ p s = some y → (Blk.pool rows).loc σ p s = some y := fun {s y} hl => by
    obtain ⟨row, z, k1, k2, k3⟩ := loc_pool hl
    rw [getn] at k1
    split at k1
    · rename_i e; subst e; rw [hno] at k3; cases k3
    · exact pool_loc k1 k2 k3
  have loc2 : ∀ {j s y : Nat} {bj : Blk}, (h.set p (.pool (rows ++ [.cells []]))).get j = some bj → bj.loc σ j s = some y → ∃ b0, h.get j = some b0 ∧ b0.loc σ j s = some y := fun {j s y bj} hj hl => by
    rw [Heap.get_set lt] at hj
    split at hj
    · rename_i e; simp only [Option.some.injEq] at hj; subst hj; subst e; exact ⟨_, hg, lp hl⟩
    · exact ⟨bj, hj, hl⟩
  refine ⟨σ, Sg.le_refl σ, ⟨H.below, H.size, H.dom, H.codom, H.glob, fun j bj hj => ?_, fun i j s s' bi bj y hi hj li lj hy => ?_, H.frz, H.old, H.tdom⟩, set_row_rel hl i _ fun v' hv' => ?_⟩
  · rw [Heap.get_set lt] at hj
    split at hj
    · rename_i e
      simp only [Option.some.injEq] at hj; subst hj; subst e
      refine ⟨⟨q1.1, fun s hs => ?_⟩, fun s row hs => ?_, fun s s' y l1 l2 => q3 s s' y (lp l1) (lp l2)⟩
      · simp only [List.length_append, List.length_singleton] at hs
        exact q1.2 s (by omega)
      · rw [getn] at hs
        split at hs
        · rename_i e
          subst e
          simp only [Option.some.injEq] at hs; subst hs
          exact .inl ⟨rfl, hno⟩
        · exact q2 s row hs
    · exact H.blk j bj hj
  · obtain ⟨b1, k1, k2⟩ := loc2 hi li
    obtain ⟨b2, r1, r2⟩ := loc2 hj lj
    exact H.inj i j s s' b1 b2 y k1 r1 k2 r2 hy
  · obtain ⟨x, hT0⟩ := q1.1
    rcases hi with hi | hi
    · obtain ⟨u, k1, k2⟩ := hl.get? i _ hi
      rw [hv'] at k1; cases k1
      cases k2
      exact .rnil hT0 _ _ none
    · obtain ⟨u, k1, k2⟩ := hl.get? i _ hi
      rw [hv'] at k1; cases k1
      cases k2 with
      | frz _ ht hf => cases hf with
        | vzc a' => exact .rnil hT0 _ _ a'
        | iface _ h0 _ => rw [ht] at h0; cases h0
      | iface _ ht _ => simp [isV] at ht
where
  set_row_rel {σ : Sg} {l l' : List Value} (h : LRel σ l l') (i : Nat) (v : Value) (hv : ∀ v', l'[i]? = some v' → VRel σ v v') : LRel σ (l.set i v) l' := by
    induction h generalizing i with
    | nil => exact .nil
    | cons k t ih => cases i with
      | zero => exact .cons (hv _ (by simp)) t
      | succ i => exact .cons k (ih i fun v' h => hv v' (by simpa using h))

/-- A block of its own goes into a pool, as its last row. -/
theorem Weak.row {ts : List Value} {h : Heap} {p k i : Nat} {rows : List Row} {cs : List Value} {t : TypeId} (hg : h.get p = some (.pool rows)) (hk : h.get k = some (.cells cs t .fix)) {v v2 : Value} (hi : ts[i]? = some v)
    (hv : (∃ n, v = .slice (some ⟨k, 0, none⟩) n n ∧ ∃ es, n * es = cs.length ∧ v2 = rsl p rows.length es 0 n) ∨ (v = .pointer (some ⟨k, 0, none⟩) ∧ v2 = rpt p rows.length 0)) :
    Weak P ts h (ts.set i v2) ((h.set k (.cells [] t .dead)).set p (.pool (rows ++ [.cells cs]))) := fun B w0 σ w l H hl => by
  obtain ⟨q1, q2, q3⟩ := H.blk _ _ hg
  have lt := Heap.lt_of_get hg
  have ltk := Heap.lt_of_get hk
  have hno := q1.2 rows.length (Nat.le_refl _)
  obtain ⟨b, cc, t', fz, k1, hB, k3, k4, k5, hoff, _⟩ := H.blk _ _ hk
  have hpk : p ≠ k := fun e => by subst e; rw [hg] at hk; cases hk
  have hlen := k5.len
  simp only [Array.length_toList] at hlen
  have hle := Sg.le_row (b := b) (sz := cc.size) hno
  have Told : ∀ i n, ¬ (i = p ∧ n = rows.length + 1) → (σ.row p rows.length b cc.size).T i n = σ.T i n := fun i n h => Sg.row_ne h
  have locne : ∀ {j s : Nat} {bj : Blk}, j ≠ p → bj.loc (σ.row p rows.length b cc.size) j s = bj.loc σ j s := fun {j s bj} hj => by
    cases bj with
    | cells cs t m => cases m <;> rfl
    | own n t => simp only [Blk.loc]; rw [Told _ _ (fun h => hj h.1)]
    | pool rows => simp only [Blk.loc]; rw [Told _ _ (fun h => hj h.1)]
    | _ => rfl
  have getn : ∀ s, (rows ++ [Row.cells cs])[s]? = if s = rows.length then some (.cells cs) else rows[s]? := fun s => by
    rw [List.getElem?_append]
    by_cases h1 : s = rows.length
    · subst h1; simp
    · rw [if_neg h1]
      by_cases h2 : s < rows.length
      · rw [if_pos h2]
      · rw [if_neg h2, List.getElem?_eq_none (by simp; omega), List.getElem?_eq_none (by omega)]
  have lp : ∀ {s y : Nat}, (Blk.pool (rows ++ [.cells cs])).loc (σ.row p rows.length b cc.size) p s = some y → (s = rows.length ∧ y = b) ∨ (Blk.pool rows).loc σ p s = some y := fun {s y} hl => by
    obtain ⟨row, z, g1, g2, g3⟩ := loc_pool hl
    rw [getn] at g1
    split at g1
    · rename_i e; subst e; rw [Sg.row_self] at g3; cases g3; exact .inl ⟨rfl, rfl⟩
    · rename_i e
      rw [Told _ _ (by omega)] at g3
      exact .inr (pool_loc g1 g2 g3)
  have lk := loc_some (b := .cells cs t .fix) 0 rfl k1
  have apart : ∀ {j s y : Nat} {bj : Blk}, j ≠ k → h.get j = some bj → bj.loc σ j s = some y → y ≠ b := fun {j s y bj} hj hgj hl e => by
    subst e; exact hj (H.inj j k s 0 bj _ y hgj hk hl lk hB)
  have get2 : ∀ j, ((h.set k (.cells [] t .dead)).set p (.pool (rows ++ [.cells cs]))).get j = if j = p then some (.pool (rows ++ [.cells cs])) else if j = k then some (.cells [] t .dead) else h.get j := fun j => by
    rw [Heap.get_set (by rw [Heap.next_set]; exact lt), Heap.get_set ltk]
  refine ⟨_, hle, ⟨H.below, H.size, fun j x hj => H.dom j x hj, H.codom, H.glob, fun j bj hj => ?_, fun i j s s' bi bj y hi hj li lj hy => ?_, H.frz, H.old, fun i n x hx => ?_⟩, Weak.rowNil.set_row_rel (hl.mono hle) i _ fun v' hv' => ?_⟩
  · rw [get2] at hj
    split at hj
    · rename_i e
      simp only [Option.some.injEq] at hj; subst hj; subst e
      refine ⟨⟨by rw [Told _ _ (by omega)]; exact q1.1, fun s hs => ?_⟩, fun s row hs => ?_, fun s s' y l1 l2 => ?_⟩
      · simp only [List.length_append, List.length_singleton] at hs
        rw [Told _ _ (by omega)]; exact q1.2 s (by omega)
      · rw [getn] at hs
        split at hs
        · rename_i e
          subst e
          simp only [Option.some.injEq] at hs; subst hs
          exact .inr ⟨b, cc, t', fz, Sg.row_self _ _ _ _ _, hB, k3, k4, by omega, by rw [hlen, List.take_of_length_le (by simp)]; exact k5.mono hle, hoff⟩
        · rename_i e2
          have hrow := q2 s row hs
          have hTs : (σ.row j rows.length b cc.size).T j (s + 1) = σ.T j (s + 1) := Told _ _ (by omega)
          cases row with
          | dead => trivial
          | cells cs3 =>
            rcases hrow with ⟨g1, g2⟩ | ⟨y, ccy, ty, fy, g1, g2, g3, g4, g5, g6, g7⟩
            · exact .inl ⟨g1, by rw [hTs]; exact g2⟩
            · exact .inr ⟨y, ccy, ty, fy, by rw [hTs]; exact g1, g2, g3, g4, g5, g6.mono hle, g7⟩
          | chan cap buf =>
            obtain ⟨y, z, bu, s1, s2, g1, g2, g3, g4, g5⟩ := hrow
            exact ⟨y, z, bu, s1, s2, by rw [hTs]; exact g1, g2, g3, g4.mono hle, g5⟩
      · rcases lp l1 with ⟨e1, e2⟩ | e2 <;> rcases lp l2 with ⟨f1, f2⟩ | f2
        · omega
        · exact absurd e2 (apart hpk hg f2)
        · exact absurd f2 (apart hpk hg e2)
        · exact q3 s s' y e2 f2
    · split at hj
      · simp only [Option.some.injEq] at hj; subst hj; trivial
      · rename_i e _
        exact (H.blk j bj hj).mono hle (fun _ _ _ => rfl) (fun _ _ _ _ => ⟨rfl, rfl⟩) fun m => Told _ _ (fun h => e h.1)
  · rw [get2] at hi hj
    split at hi <;> split at hj
    · rename_i e1 e2; rw [e1, e2]
    · rename_i e1 e2
      simp only [Option.some.injEq] at hi; subst hi; subst e1
      split at hj
      · simp only [Option.some.injEq] at hj; subst hj; cases lj
      · rename_i e3
        rw [locne e2] at lj
        rcases lp li with ⟨_, g⟩ | g
        · exact absurd g (apart e3 hj lj)
        · exact absurd (H.inj j i s' s bj _ y hj hg lj g hy) e2
    · rename_i e1 e2
      simp only [Option.some.injEq] at hj; subst hj; subst e2
      split at hi
      · simp only [Option.some.injEq] at hi; subst hi; cases li
      · rename_i e3
        rw [locne e1] at li
        rcases lp lj with ⟨_, g⟩ | g
        · exact absurd g (apart e3 hi li)
        · exact absurd (H.inj i j s s' bi _ y hi hg li g hy) e1
    · rename_i e1 e2
      split at hi
      · simp only [Option.some.injEq] at hi; subst hi; cases li
      · split at hj
        · simp only [Option.some.injEq] at hj; subst hj; cases lj
        · rw [locne e1] at li; rw [locne e2] at lj
          exact H.inj i j s s' bi bj y hi hj li lj hy
  · simp only [Sg.row] at hx
    split at hx
    · rename_i e; rw [e.1]; exact lt
    · exact H.tdom i n x hx
  · obtain ⟨u, g1, g2⟩ := hl.get? i _ hi
    rw [hv'] at g1; cases g1
    rcases hv with ⟨n, rfl, es, hn, rfl⟩ | ⟨rfl, rfl⟩
    · cases g2 with
      | sfix hh =>
        rw [k1] at hh; simp only [Option.some.injEq, Spot.mk.injEq] at hh
        obtain ⟨rfl, rfl, _⟩ := hh
        exact .rsl (Sg.row_self _ _ _ _ _) (by omega) (Nat.le_refl _)
      | sgrown hh => rw [k1] at hh; cases hh
      | sloose hh => rw [k1] at hh; cases hh
    · cases g2 with
      | ptr hh =>
        rw [k1] at hh; simp only [Option.some.injEq, Spot.mk.injEq] at hh
        obtain ⟨rfl, rfl, _⟩ := hh
        exact .rpt (Sg.row_self _ _ _ _ _)
end Go.Ideal

end
