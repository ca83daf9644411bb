/- What the ideal interpreter runs the model runs, to a related end: the soundness theorem. Over any program. -/
import Derived.Test.YtepijhnfeafmaaaIDraw3
set_option linter.unusedVariables false
set_option linter.unusedSimpArgs false
namespace Go.Ideal
open Go.RowKit

variable {P : Program} {B : Nat} {w0 : Org}

def Ex.toExit : Ex → Exit
  | .normal => .normal
  | .exit id => .exit id
  | .ret => .ret

def After (P : Program) (B : Nat) (w0 : Org) (σ : Sg) (ex : Ex) (ts : List Value) (h : Heap) : Exit → Act → World → Prop :=
  fun e a w => e = ex.toExit ∧ ∃ σ', σ.le σ' ∧ LRel σ' ts a.tmps.toList ∧ HRel P B w0 σ' h w ∧ a.defers = []

theorem After.weaken {σ σ' : Sg} (hle : σ.le σ') {ex : Ex} {ts : List Value} {h : Heap} {e : Exit} {a : Act} {w : World} (k : After P B w0 σ' ex ts h e a w) : After P B w0 σ ex ts h e a w := by
  obtain ⟨k1, σ2, k2, k3⟩ := k
  exact ⟨k1, σ2, Sg.le_trans hle k2, k3⟩

/-- A call of a function that has a text. -/
theorem call_text (hP : ProgOK P) {ex : Code → List Value → Heap → Option (Ex × List Value × Heap)}
    (hex : ∀ (c : Code) (ts : List Value) (h : Heap) (x : Ex) (ts' : List Value) (h' : Heap), codeOK P c = true → ex c ts h = some (x, ts', h') → ∀ (σ : Sg) (a : Act) (w : World), HRel P B w0 σ h w → LRel σ ts a.tmps.toList → a.defers = [] →
      c.wp P (After P B w0 σ x ts' h') a w)
    {f : FuncId} {fn : Func} {c : Code} (hf : P.funcs[f]? = some fn) (hb : fn.body = some c) {args : List Value} {h h' h'' : Heap} {ts' : List Value} {x : Ex} {l : List Value} (hx : x = .normal ∨ x = .ret)
    (he : ex c (args ++ List.replicate (fn.ntmps - args.length) Go.undef) h = some (x, ts', h')) (hr : resultsI P ts' h' fn.results.toList = some l) (hh : h'' = h') {σ : Sg} {w : World} {args' : Array Value} (H : HRel P B w0 σ h w) (ha : LRel σ args args'.toList) :
    Calls P f args' w fun e w' => ∃ v', e = .returned v' ∧ ∃ σ', σ.le σ' ∧ VRel σ' (tupleI l) v' ∧ HRel P B w0 σ' h'' w' := by
  subst hh
  refine calls_of_wp hf hb (Go.wp_mono (hex c _ h x ts' h'' (hP.code f fn c hf hb) he σ _ w H ?_ rfl) fun e a w2 k => ?_)
  · have hl := ha.len
    simp only [Array.length_toList] at hl
    simp only [Array.toList_append, Array.toList_replicate]
    rw [hl]
    exact ha.append (LRel.replicate σ _)
  · obtain ⟨k1, σ', k2, k3, k4, k5⟩ := k
    obtain ⟨v', q1, q2⟩ := results_sound k4 k3 hr
    rcases hx with rfl | rfl <;> (subst k1; exact ⟨k5, v', q1, v', rfl, σ', k2, q2, k4⟩)

/-- What is known of functions is so. -/
structure OrcSound (P : Program) (B : Nat) (w0 : Org) (O : Orc) : Prop where
  pure : CallSound P B w0 fun f args h => match O.pure f with
    | some g => match g args with
      | some v => some (v, h)
      | none => none
    | none => none
  heap : CallSound P B w0 O.heap

theorem callWith_pure (P : Program) (O : Orc) (ex : Code → List Value → Heap → Option (Ex × List Value × Heap)) : PureCall (callWith P O ex) O.isPure := by
  intro f hf args h v h' he
  unfold Orc.isPure at hf
  unfold callWith at he ⊢
  cases hp : O.pure f with
  | none => rw [hp] at hf; cases hf
  | some g =>
    simp only [hp] at he ⊢
    cases hg : g args with
    | none => simp [hg] at he
    | some u => simp only [hg, Option.some.injEq, Prod.mk.injEq] at he ⊢; exact ⟨he.2.symm, fun h2 => ⟨he.1, trivial⟩⟩

theorem callWith_sound (hP : ProgOK P) {O : Orc} (horc : OrcSound P B w0 O) {ex : Code → List Value → Heap → Option (Ex × List Value × Heap)}
    (hex : ∀ (c : Code) (ts : List Value) (h : Heap) (x : Ex) (ts' : List Value) (h' : Heap), codeOK P c = true → ex c ts h = some (x, ts', h') → ∀ (σ : Sg) (a : Act) (w : World), HRel P B w0 σ h w → LRel σ ts a.tmps.toList → a.defers = [] →
      c.wp P (After P B w0 σ x ts' h') a w) : CallSound P B w0 (callWith P O ex) := by
  intro f args h v h' he σ w args' H ha o a K Q ho hK
  unfold callWith at he
  split at he
  · rename_i g hg
    refine horc.pure f args h v h' ?_ σ w args' H ha o a K Q ho hK
    simp only [hg]; exact he
  split at he
  · rename_i r hr
    simp only [Option.some.injEq] at he; subst he
    exact horc.heap f args h v h' hr σ w args' H ha o a K Q ho hK
  · split at he
    · rename_i fn hf
      split at he
      · rename_i c hb
        have key : ∀ {x : Ex} {ts' : List Value} {h1 : Heap}, (x = .normal ∨ x = .ret) → ex c (args ++ List.replicate (fn.ntmps - args.length) Go.undef) h = some (x, ts', h1) →
            (match resultsI P ts' h1 fn.results.toList with
              | some l => some (tupleI l, h1)
              | none => none) = some (v, h') → o.wp P a w K Q := fun {x ts' h1} hx hr he => by
          split at he
          · rename_i l hl
            simp only [Option.some.injEq, Prod.mk.injEq] at he; obtain ⟨rfl, rfl⟩ := he
            refine Calls.wp_enter hP hf hb ho (call_text hP hex hf hb hx hr hl rfl H ha) fun v' w' hR => ?_
            obtain ⟨σ', k1, k2, k3⟩ := hR
            exact hK σ' w' v' k1 k2 k3
          · cases he
        split at he
        · rename_i ts' h1 hr; exact key (.inl rfl) hr he
        · rename_i ts' h1 hr; exact key (.inr rfl) hr he
        · cases he
      · rename_i hb
        simp only [Option.ite_none_right_eq_some] at he
        obtain ⟨hfl, he⟩ := he
        have hargs : args' = args.toArray := by
          apply Array.toList_inj.1
          have all : ∀ {l l' : List Value}, LRel σ l l' → l.all flat = true → l' = l := fun {l l'} hr => by
            induction hr with
            | nil => intro _; rfl
            | cons k _ ih => intro hh; simp only [List.all_cons, Bool.and_eq_true] at hh; rw [flat_eq hh.1 k, ih hh.2]
          rw [all ha hfl]
        cases hp : pureRun P (callFunc f args.toArray) with
        | none => simp [hp] at he
        | some nx =>
          cases nx <;> simp only [hp, Option.bind_some] at he <;> try (cases he; done)
          case value u =>
            simp only [Option.ite_none_right_eq_some, Option.some.injEq, Prod.mk.injEq] at he; obtain ⟨hfu, rfl, rfl⟩ := he
            unfold Oper.wp
            rw [ho, hargs, pureRun_run hp w]
            exact hK σ w u (Sg.le_refl σ) (flat_rel hfu σ) H
    · cases he

theorem exec_sound (hP : ProgOK P) {O : Orc} (horc : OrcSound P B w0 O) : ∀ (n : Nat),
    (∀ (c : Code) (ts : List Value) (h : Heap) (x : Ex) (ts' : List Value) (h' : Heap), codeOK P c = true → exec P O n c ts h = some (x, ts', h') → ∀ (σ : Sg) (a : Act) (w : World), HRel P B w0 σ h w → LRel σ ts a.tmps.toList → a.defers = [] →
      c.wp P (After P B w0 σ x ts' h') a w) ∧
    (∀ (c : Code) (ts : List Value) (h : Heap) (x : Ex) (ts' : List Value) (h' : Heap), codeOK P c = true → exec P O n (.loop c) ts h = some (x, ts', h') → ∀ (σ : Sg) (a : Act) (w : World), HRel P B w0 σ h w → LRel σ ts a.tmps.toList → a.defers = [] →
      Code.rounds P c (After P B w0 σ x ts' h') n a w)
  | 0 => ⟨fun c ts h x ts' h' _ he => by simp [exec] at he, fun c ts h x ts' h' _ he => by simp [exec] at he⟩
  | n + 1 => by
    obtain ⟨ih, ihl⟩ := exec_sound hP horc n
    have loop : ∀ (c : Code) (ts : List Value) (h : Heap) (x : Ex) (ts' : List Value) (h' : Heap), codeOK P c = true → exec P O (n + 1) (.loop c) ts h = some (x, ts', h') → ∀ (σ : Sg) (a : Act) (w : World), HRel P B w0 σ h w → LRel σ ts a.tmps.toList → a.defers = [] →
        Code.rounds P c (After P B w0 σ x ts' h') (n + 1) a w := fun c ts h x ts' h' hc he σ a w H hts hd => by
      simp only [exec] at he
      rw [rounds_succ]
      split at he
      · rename_i ts1 h1 h2
        refine Go.wp_mono (ih c ts h .normal ts1 h1 hc h2 σ a w H hts hd) fun e a2 w2 k => ?_
        obtain ⟨k1, σ', k2, k3, k4, k5⟩ := k
        subst k1
        have weak : ∀ (m : Nat) (a : Act) (w : World), Code.rounds P c (After P B w0 σ' x ts' h') m a w → Code.rounds P c (After P B w0 σ x ts' h') m a w := fun m => by
          induction m with
          | zero => intro a w h; exact h
          | succ m ihm =>
            intro a w hh
            rw [rounds_succ] at hh ⊢
            refine Go.wp_mono hh fun e a3 w3 q => ?_
            cases e with
            | normal => exact ihm a3 w3 q
            | _ => exact After.weaken k2 q
        exact weak n a2 w2 (ihl c ts1 h1 x ts' h' hc he σ' a2 w2 k4 k3 k5)
      · rename_i hne
        refine Go.wp_mono (ih c ts h x ts' h' hc he σ a w H hts hd) fun e a2 w2 k => ?_
        obtain ⟨k1, k2⟩ := k
        cases x with
        | normal => exact absurd he (hne ts' h')
        | exit id => subst k1; exact ⟨rfl, k2⟩
        | ret => subst k1; exact ⟨rfl, k2⟩
    refine ⟨fun c ts h x ts' h' hc he σ a w H hts hd => ?_, loop⟩
    cases c with
    | skip => simp only [exec, Option.some.injEq, Prod.mk.injEq] at he; obtain ⟨rfl, rfl, rfl⟩ := he; exact wp_skip ⟨rfl, σ, Sg.le_refl σ, hts, H, hd⟩
    | label l => simp only [exec, Option.some.injEq, Prod.mk.injEq] at he; obtain ⟨rfl, rfl, rfl⟩ := he; exact wp_label ⟨rfl, σ, Sg.le_refl σ, hts, H, hd⟩
    | exit id => simp only [exec, Option.some.injEq, Prod.mk.injEq] at he; obtain ⟨rfl, rfl, rfl⟩ := he; exact wp_exit ⟨rfl, σ, Sg.le_refl σ, hts, H, hd⟩
    | ret => simp only [exec, Option.some.injEq, Prod.mk.injEq] at he; obtain ⟨rfl, rfl, rfl⟩ := he; exact wp_ret ⟨rfl, σ, Sg.le_refl σ, hts, H, hd⟩
    | goto l => simp [exec] at he
    | refuse why => simp [exec] at he
    | rangeFunc f ps as b => simp [exec] at he
    | seq c1 c2 =>
      simp only [codeOK, Bool.and_eq_true] at hc
      simp only [exec] at he
      refine wp_seq ?_
      split at he
      · rename_i ts1 h1 h2
        refine Go.wp_mono (ih c1 ts h .normal ts1 h1 hc.1 h2 σ a w H hts hd) fun e a2 w2 k => ?_
        obtain ⟨k1, σ', k2, k3, k4, k5⟩ := k
        subst k1
        exact Go.wp_mono (ih c2 ts1 h1 x ts' h' hc.2 he σ' a2 w2 k4 k3 k5) fun e a3 w3 q => q.weaken k2
      · rename_i hne
        refine Go.wp_mono (ih c1 ts h x ts' h' hc.1 he σ a w H hts hd) fun e a2 w2 k => ?_
        obtain ⟨k1, k2⟩ := k
        cases x with
        | normal => exact absurd he (hne ts' h')
        | exit id => subst k1; exact ⟨rfl, k2⟩
        | ret => subst k1; exact ⟨rfl, k2⟩
    | cond c0 c1 c2 =>
      simp only [codeOK, Bool.and_eq_true] at hc
      have k := ev_sound H hts hc.1
      simp only [exec] at he
      split at he
      · rename_i e; rw [e] at k; generalize hq : a.eval c0 = q at k; cases k
        exact wp_cond_true hq (ih c1 ts h x ts' h' hc.2.1 he σ a w H hts hd)
      · rename_i e; rw [e] at k; generalize hq : a.eval c0 = q at k; cases k
        exact wp_cond_false hq (ih c2 ts h x ts' h' hc.2.2 he σ a w H hts hd)
      · cases he
    | block id c1 =>
      simp only [codeOK] at hc
      simp only [exec] at he
      refine wp_block ?_
      split at he
      · rename_i id' ts1 h1 h2
        split at he
        · rename_i hid
          simp only [Option.some.injEq, Prod.mk.injEq] at he; obtain ⟨rfl, rfl, rfl⟩ := he
          refine Go.wp_mono (ih c1 ts h (.exit id') ts1 h1 hc h2 σ a w H hts hd) fun e a2 w2 k => ?_
          obtain ⟨k1, k2⟩ := k
          subst k1
          have : id' = id := Nat.eq_of_beq_eq_true hid
          simp only [Exit.inBlock, Ex.toExit, this, if_true]
          exact ⟨rfl, k2⟩
        · rename_i hid
          simp only [Option.some.injEq, Prod.mk.injEq] at he; obtain ⟨rfl, rfl, rfl⟩ := he
          refine Go.wp_mono (ih c1 ts h (.exit id') ts1 h1 hc h2 σ a w H hts hd) fun e a2 w2 k => ?_
          obtain ⟨k1, k2⟩ := k
          subst k1
          have : ¬ id' = id := fun e => by rw [e, Nat.beq_refl] at hid; cases hid
          simp only [Exit.inBlock, Ex.toExit, this, if_false]
          exact ⟨rfl, k2⟩
      · rename_i hne
        refine Go.wp_mono (ih c1 ts h x ts' h' hc he σ a w H hts hd) fun e a2 w2 k => ?_
        obtain ⟨k1, k2⟩ := k
        cases x with
        | exit id' => exact absurd he (hne id' ts' h')
        | normal => subst k1; exact ⟨rfl, k2⟩
        | ret => subst k1; exact ⟨rfl, k2⟩
    | scope c1 =>
      simp only [codeOK] at hc
      simp only [exec] at he
      refine wp_scope_straight (Go.wp_mono (ih c1 ts h x ts' h' hc he σ a w H hts hd) fun e a2 w2 k => ?_)
      obtain ⟨k1, k2⟩ := k
      cases x <;> (subst k1; exact ⟨rfl, k2⟩)
    | loop c1 =>
      simp only [codeOK] at hc
      exact wp_loop_rounds (n + 1) (loop c1 ts h x ts' h' hc he σ a w H hts hd)
    | region id ops draw =>
      simp only [codeOK] at hc
      have hcs := callWith_sound hP horc ih
      simp only [exec] at he
      cases draw with
      | false =>
        simp only at he
        split at he
        · rename_i ts1 h1 h2
          simp only [Option.some.injEq, Prod.mk.injEq] at he; obtain ⟨rfl, rfl, rfl⟩ := he
          exact wp_region_list (ops_sound (fun _ => hcs) ops.toList σ h h1 w ts ts1 a hc H hts hd h2 fun σ' a' w' k1 k2 k3 k4 => ⟨rfl, σ', k1, k2, k3, k4⟩)
        · cases he
      | true =>
        simp only at he
        split at he
        · rename_i ents ts1 h1 h2
          split at he
          · rename_i hchk
            simp only [Bool.and_eq_true] at hchk
            simp only [Option.some.injEq, Prod.mk.injEq] at he; obtain ⟨rfl, rfl, rfl⟩ := he
            exact draw_sound hP.mixed (fun _ => hcs) (fun _ => callWith_pure P O _) hc h2 hchk.1 hchk.2 H hts hd fun σ' a' w' k1 k2 k3 k4 => ⟨rfl, σ', k1, k2, k3, k4⟩
          · cases he
        · cases he


/-- What a call of the ideal interpreter answers, the model's call answers. -/
theorem callI_sound (hP : ProgOK P) {O : Orc} (horc : OrcSound P B w0 O) {n : Nat} {f : FuncId} {fn : Func} {c : Code} (hf : P.funcs[f]? = some fn) (hb : fn.body = some c) {args : List Value} {h h' : Heap} {v : Value}
    (hop : O.pure f = none) (ho : O.heap f args h = none) (he : callI P O n f args h = some (v, h')) {σ : Sg} {w : World} {args' : Array Value} (H : HRel P B w0 σ h w) (ha : LRel σ args args'.toList) :
    Calls P f args' w fun e w' => ∃ v', e = .returned v' ∧ ∃ σ', σ.le σ' ∧ VRel σ' v v' ∧ HRel P B w0 σ' h' w' := by
  unfold callI callWith at he
  simp only [hop, ho, hf, hb] at he
  have key : ∀ {x : Ex} {ts' : List Value} {h1 : Heap}, (x = .normal ∨ x = .ret) → exec P O n c (args ++ List.replicate (fn.ntmps - args.length) Go.undef) h = some (x, ts', h1) →
      (match resultsI P ts' h1 fn.results.toList with
        | some l => some (tupleI l, h1)
        | none => none) = some (v, h') → Calls P f args' w fun e w' => ∃ v', e = .returned v' ∧ ∃ σ', σ.le σ' ∧ VRel σ' v v' ∧ HRel P B w0 σ' h' w' := fun {x ts' h1} hx hr he => by
    split at he
    · rename_i l hl
      simp only [Option.some.injEq, Prod.mk.injEq] at he; obtain ⟨rfl, rfl⟩ := he
      exact call_text hP (exec_sound hP horc n).1 hf hb hx hr hl rfl H ha
    · cases he
  split at he
  · rename_i ts' h1 hr; exact key (.inl rfl) hr he
  · rename_i ts' h1 hr; exact key (.inr rfl) hr he
  · cases he

theorem noOrc_sound : OrcSound P B w0 noOrc := ⟨fun f args h v h' he => (by cases he), fun f args h v h' he => (by cases he)⟩

/-- Where all memory that is there is left alone: the empty ideal heap. -/
def Sg.start (g : Nat) (F : Fz) : Sg := ⟨fun i => if i < g then some ⟨i, 0, .exact⟩ else none, F, fun _ _ => none⟩
theorem HRel.start {g : Nat} (hg : P.globals.size ≤ g) (w : World) (hs : g ≤ w.heap.size) {F : Fz} (hF : FzOK F w) : HRel P w.heap.size ⟨w, F⟩ (Sg.start g F) (Heap.empty g) w := by
  refine ⟨Below.refl _ _, Nat.le_refl _, fun i x h => ?_, fun i x h => ?_, fun i hi => ?_, fun i b h => ?_, fun i j bi bj b hi => ?_, hF, fun _ _ => ⟨rfl, rfl⟩, fun _ _ _ h => by cases h⟩
  · simp only [Sg.start] at h
    split at h
    · rename_i hi; exact hi
    · cases h
  · simp only [Sg.start] at h
    split at h
    · rename_i hi; simp only [Option.some.injEq] at h; subst h; simp only; omega
    · cases h
  · have : i < g := by omega
    simp [Sg.start, this]
  · simp only [Heap.empty, Heap.get, Trie.get_leaf] at h; split at h <;> cases h
  · simp only [Heap.empty, Heap.get, Trie.get_leaf] at hi; split at hi <;> cases hi

end Go.Ideal
