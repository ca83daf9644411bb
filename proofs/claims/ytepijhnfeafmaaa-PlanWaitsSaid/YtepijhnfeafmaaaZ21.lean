/- Texts packed together: IRunF CLaw17 CReads CLabs. -/
import Derived.Test.YtepijhnfeafmaaaZ20
section
/- Closed runs in the kernel: the interpreter with all that it makes written out at once, so that nothing is reckoned twice. It answers as the interpreter does. Over any program. -/
set_option linter.unusedVariables false
set_option linter.unusedSimpArgs false
namespace Go.Ideal
open Go.RowKit

section
variable {β : Type}

noncomputable def fBlk (b : Blk) (k : Blk → β) : β := match b with
  | .cells cs t m => fL (fV 1) cs fun cs => fN t fun t => match m with
    | .ro => k (.cells cs t .ro)
    | .fix => k (.cells cs t .fix)
    | .grow => k (.cells cs t .grow)
    | .dead => k (.cells cs t .dead)
  | .iter s pos => fS s fun s => fN pos fun pos => k (.iter s pos)
  | .own n t => fN n fun n => fN t fun t => k (.own n t)
  | .map ks vs => fL (fV 6) ks fun ks => fL (fV 6) vs fun vs => k (.map ks vs)
  | .pool rows => k (.pool rows)
theorem fBlk_eq (b : Blk) (k : Blk → β) : fBlk b k = k b := by
  cases b with
  | cells cs t m => cases m <;> simp only [fBlk, fL_eq (fV_eq 1), fL_eq (fV_eq 6), fN_eq]
  | _ => simp only [fBlk, fL_eq (fV_eq 6), fN_eq, fS_eq]

/-- One place of the heap, written out. -/
noncomputable def fT (g : Blk → (Blk → β) → β) : Nat → Trie Blk → Nat → (Trie Blk → β) → β
  | 0, t, _, k => k t
  | _ + 1, .leaf, _, k => k .leaf
  | _ + 1, .node v l r, 0, k => fO g v fun v => k (.node v l r)
  | f + 1, .node v l r, n + 1, k => match Nat.beq (n % 2) 0 with
    | true => fN (n / 2) fun m => fT g f l m fun l => match v with
      | none => k (.node none l r)
      | some v => k (.node (some v) l r)
    | false => fN (n / 2) fun m => fT g f r m fun r => match v with
      | none => k (.node none l r)
      | some v => k (.node (some v) l r)
theorem fT_eq {g : Blk → (Blk → β) → β} (hg : ∀ b k, g b k = k b) : ∀ (f : Nat) (t : Trie Blk) (n : Nat) (k : Trie Blk → β), fT g f t n k = k t
  | 0, _, _, _ => rfl
  | f + 1, .leaf, n, k => by cases n <;> rfl
  | f + 1, .node v l r, 0, k => by simp only [fT, fO_eq hg]
  | f + 1, .node v l r, n + 1, k => by
    have ih : ∀ t n (k : Trie Blk → β), fT g f t n k = k t := fT_eq hg f
    cases h : Nat.beq (n % 2) 0 <;> cases v <;> simp only [fT, h, fN_eq, ih]
/-- A block that is as it should be. -/
def fBlk0 (b : Blk) (k : Blk → β) : β := match b with
  | .cells cs t m => k (.cells cs t m)
  | .iter s pos => k (.iter s pos)
  | .own n t => k (.own n t)
  | .map ks vs => k (.map ks vs)
  | .pool rows => k (.pool rows)
theorem fBlk0_eq (b : Blk) (k : Blk → β) : fBlk0 b k = k b := by cases b <;> rfl
noncomputable def fH (i : Nat) (h : Heap) (k : Heap → β) : β := match h with
  | ⟨next, tr⟩ => fN next fun next => fT fBlk 64 tr i fun tr => k ⟨next, tr⟩
theorem fH_eq (i : Nat) (h : Heap) (k : Heap → β) : fH i h k = k h := by
  obtain ⟨next, tr⟩ := h
  simp only [fH, fN_eq, fT_eq fBlk_eq]
noncomputable def fH0 (i : Nat) (h : Heap) (k : Heap → β) : β := match h with
  | ⟨next, tr⟩ => fN next fun next => fT fBlk0 64 tr i fun tr => k ⟨next, tr⟩
theorem fH0_eq (i : Nat) (h : Heap) (k : Heap → β) : fH0 i h k = k h := by
  obtain ⟨next, tr⟩ := h
  simp only [fH0, fN_eq, fT_eq fBlk0_eq]
noncomputable def fSet (l : List Value) (i : Nat) (v : Value) (k : List Value → β) : β :=
  @List.rec Value (fun _ => Nat → (List Value → β) → β) (fun _ k => k []) (fun a l ih i k => @Nat.rec (fun _ => β) (k (v :: l)) (fun i _ => ih i fun l => k (a :: l)) i) l i k
theorem fSet_eq : ∀ (l : List Value) (i : Nat) (v : Value) (k : List Value → β), fSet l i v k = k (l.set i v)
  | [], _, _, _ => rfl
  | _ :: _, 0, _, _ => rfl
  | a :: l, i + 1, v, k => by
    have ih := fSet_eq l i v
    simp only [fSet] at ih ⊢
    simp only [ih, List.set_cons_succ]
noncomputable def fPut (ts : List Value) (dst : Option Tmp) (v : Value) (k : List Value → β) : β := match dst with
  | some d => fSet ts d v k
  | none => k ts
theorem fPut_eq (ts : List Value) (dst : Option Tmp) (v : Value) (k : List Value → β) : fPut ts dst v k = k (putI ts dst v) := by cases dst <;> simp only [fPut, putI, fSet_eq]
end

/-- The block that an operation may write. -/
def blkOf (v : Value) : Option Nat := match v with
  | .pointer (some ⟨i, _, _⟩) => some i
  | .slice (some ⟨i, _, _⟩) _ _ => some i
  | .map (some i) => some i
  | .iface 1000003 (.tuple ⟨.int _ tok :: _⟩) => some tok.toNat
  | _ => none
noncomputable def wrOf (o : Op) (ts : List Value) : Option Nat := match o with
  | .store _ a _ => blkOf (qEv ts a)
  | .mapUpdate _ m _ _ | .insert _ m _ _ => blkOf (qEv ts m)
  | .next it _ => blkOf (qEv ts it)
  | .call { args := ⟨x :: _⟩, .. } => blkOf (qEv ts x)
  | _ => none
/-- May it change the heap? 0: no, 1: cells that are there, 2: anyhow. -/
def mayWr (o : Op) : Nat := match o with
  | .move _ | .assign _ | .pick _ _ _ | .load _ _ | .nilCheck _ | .binOp _ _ _ _ _ | .unOp _ _ _ | .fieldAddr _ _ _ | .indexAddr _ _ _
  | .field _ _ _ | .index _ _ _ | .extract _ _ | .makeInterface _ _ | .makeFunc _ _ _ | .slice _ _ _ _ _ => 0
  | .call { callee := .value _, .. } => 0
  | .store _ _ _ => 1
  | _ => 2

/-- The heap behind an operation, written out where it may have been written. -/
noncomputable def fHeap {β : Type} (o : Op) (ts : List Value) (h : Heap) (k : Heap → β) : β := match mayWr o with
  | 0 => k h
  | 1 => match wrOf o ts with
    | some i => fN i fun i => fH0 i h k
    | none => k h
  | _ => match wrOf o ts with
    | some i => fN i fun i => fH i h fun h => match h with
      | ⟨next, tr⟩ => fH (next - 1) ⟨next, tr⟩ k
    | none => match h with
      | ⟨next, tr⟩ => fN next fun next => fH (next - 1) ⟨next, tr⟩ k
theorem fHeap_eq {β : Type} (o : Op) (ts : List Value) (h : Heap) (k : Heap → β) : fHeap o ts h k = k h := by
  obtain ⟨next, tr⟩ := h
  unfold fHeap
  split
  · rfl
  · split
    · simp only [fN_eq, fH0_eq]
    · rfl
  · split
    · simp only [fN_eq, fH_eq]
    · simp only [fN_eq, fH_eq]

/-- How deep is what an operation answers to be written out? -/
def deepOf : Op → Nat
  | .move _ | .assign _ | .pick _ _ _ | .nilCheck _ | .extract _ _ => 0
  | .load _ _ | .field _ _ _ | .index _ _ _ => 1
  | .call { callee := .value _, .. } => 1
  | _ => 6

noncomputable def qCallee (ts : List Value) (c : Call) : Option (FuncId × List Value) :=
  match c.callee with
  | .value (.func f) => some (f, qMap (qEv ts) c.args.toList)
  | .value x => match qEv ts x with
    | .func (.func f) ⟨first⟩ ⟨captured⟩ => some (f, qApp first (qApp (qMap (qEv ts) c.args.toList) captured))
    | _ => none
  | _ => none
theorem qCallee_eq (ts : List Value) (c : Call) : qCallee ts c = calleeI ts c := by
  unfold qCallee calleeI
  simp only [qEvF, qMap_eq, qApp_eq]
  cases c.callee with
  | value x => cases x with
    | func f => rfl
    | _ =>
      simp only
      generalize evI ts _ = y
      cases y with
      | func f a b => cases f <;> first | (obtain ⟨a⟩ := a; obtain ⟨b⟩ := b; simp only [List.append_assoc]; done) | rfl
      | _ => rfl
  | _ => rfl
noncomputable def qWanted (o : Oper) (ops : List Oper) (ts : List Value) : Bool := match o.guard with
  | none => true
  | some (j, want) => match qGet? ops j with
    | some oj => match oj.dst with
      | some t => match qGet? ts t with
        | some (.bool b) => b == want
        | _ => false
      | none => false
    | none => false
theorem qWanted_eq (o : Oper) (ops : List Oper) (ts : List Value) : qWanted o ops ts = wantedI o ops ts := by
  unfold qWanted wantedI yieldedI
  simp only [qGet?_eq]
  cases o.guard with
  | none => rfl
  | some g =>
    obtain ⟨j, want⟩ := g
    simp only
    cases ops[j]? with
    | none => rfl
    | some oj =>
      simp only [Option.bind_some]
      cases oj.dst with
      | none => rfl
      | some t =>
        simp only
        cases ts[t]? with
        | none => rfl
        | some v => cases v <;> rfl

noncomputable def operF (P : Program) (call : CallI) (o : Oper) (ts : List Value) (h : Heap) : Option (Value × Heap) :=
  match o.op with
  | .call c => match c.callee with
    | .builtin _ => opQ P o ts h
    | _ => match qCallee ts c with
      | some (f, args) => fN f fun f => fL (fV 0) args fun args => call f args h
      | none => none
  | _ => opQ P o ts h
theorem operF_eq (P : Program) (call : CallI) (o : Oper) (ts : List Value) (h : Heap) : operF P call o ts h = operI P call o ts h := by
  unfold operF operI
  cases o.op with
  | call c => cases c.callee <;> first | exact opQ_eq P o ts h | (simp only [fN_eq, fL_eq (fV_eq 0), opQ_eq, qCallee_eq]; rfl)
  | _ => exact opQ_eq P o ts h

noncomputable def stepF (P : Program) (call : CallI) (all : List Oper) (o : Oper) (ts : List Value) (h : Heap) (ih : List Value → Heap → Option (List Value × Heap)) : Option (List Value × Heap) := match qWanted o all ts with
  | true => match operF P call o ts h with
    | some (v, h') => fV (deepOf o.op) v fun v => fHeap o.op ts h' fun h' => fPut ts o.dst v fun ts => ih ts h'
    | none => none
  | false => fPut ts o.dst undef fun ts => ih ts h
noncomputable def opsF (P : Program) (call : CallI) (all l : List Oper) (ts : List Value) (h : Heap) : Option (List Value × Heap) :=
  @List.rec Oper (fun _ => List Value → Heap → Option (List Value × Heap)) (fun ts h => some (ts, h)) (fun o _ ih ts h => stepF P call all o ts h ih) l ts h
theorem opsF_eq (P : Program) (call : CallI) (all : List Oper) : ∀ (l : List Oper) (ts : List Value) (h : Heap), opsF P call all l ts h = opsI P (fun _ => call) all l ts h
  | [], _, _ => rfl
  | o :: rest, ts, h => by
    have ih := opsF_eq P call all rest
    show stepF P call all o ts h (opsF P call all rest) = _
    simp only [stepF, opsI, operF_eq, qWanted_eq, fV_eq, fHeap_eq, fPut_eq, ih]
    cases wantedI o all ts <;> rfl

noncomputable def stepTF (P : Program) (call : CallI) (all : List Oper) (o : Oper) (ts : List Value) (h : Heap) (ih : List Value → Heap → Option (List Ent × List Value × Heap)) : Option (List Ent × List Value × Heap) := match qWanted o all ts with
  | true => match operF P call o ts h with
    | some (v, h') => fV (deepOf o.op) v fun v => fHeap o.op ts h' fun h' => fPut ts o.dst v fun ts' => match ih ts' h' with
      | some (l, r) => some (⟨true, v, ts, h⟩ :: l, r)
      | none => none
    | none => none
  | false => fPut ts o.dst undef fun ts' => match ih ts' h with
      | some (l, r) => some (⟨false, undef, ts, h⟩ :: l, r)
      | none => none
noncomputable def opsTF (P : Program) (call : CallI) (all l : List Oper) (ts : List Value) (h : Heap) : Option (List Ent × List Value × Heap) :=
  @List.rec Oper (fun _ => List Value → Heap → Option (List Ent × List Value × Heap)) (fun ts h => some ([], ts, h)) (fun o _ ih ts h => stepTF P call all o ts h ih) l ts h
theorem opsTF_eq (P : Program) (call : CallI) (all : List Oper) : ∀ (l : List Oper) (ts : List Value) (h : Heap), opsTF P call all l ts h = opsT P (fun _ => call) all l ts h
  | [], _, _ => rfl
  | o :: rest, ts, h => by
    have ih := opsTF_eq P call all rest
    show stepTF P call all o ts h (opsTF P call all rest) = _
    simp only [stepTF, opsT, operF_eq, qWanted_eq, fV_eq, fHeap_eq, fPut_eq, ih]
    cases wantedI o all ts <;> rfl

theorem opsT_opsI (P : Program) (call : Nat → CallI) (all : List Oper) : ∀ (l : List Oper) (call : Nat → CallI) (ts : List Value) (h : Heap), opsI P call all l ts h = (opsT P call all l ts h).map (·.2)
  | [], _, _, _ => rfl
  | o :: rest, call, ts, h => by
    simp only [opsI, opsT]
    split
    · split
      · rw [opsT_opsI P call all rest]; split <;> (rename_i e; rw [e]; try rfl)
      · rfl
    · rw [opsT_opsI P call all rest]; split <;> (rename_i e; rw [e]; try rfl)

noncomputable def qResult (P : Program) (ts : List Value) (h : Heap) : ResultVar → Option Value
  | .tmp t => some (qGet undef ts t)
  | .cell a t => match qGet undef ts a with
    | .pointer (some ad) => loadI P h t ad
    | _ => none
theorem qResult_eq (P : Program) (ts : List Value) (h : Heap) (r : ResultVar) : qResult P ts h r = resultI P ts h r := by cases r <;> (simp only [qResult, resultI, qGet_eq]; try rfl)
noncomputable def qResults (P : Program) (ts : List Value) (h : Heap) (l : List ResultVar) : Option (List Value) :=
  @List.rec ResultVar (fun _ => Option (List Value)) (some []) (fun r _ ih => match qResult P ts h r, ih with
    | some v, some l => some (v :: l)
    | _, _ => none) l
theorem qResults_eq (P : Program) (ts : List Value) (h : Heap) : ∀ (l : List ResultVar), qResults P ts h l = resultsI P ts h l
  | [] => rfl
  | r :: l => by
    have ih := qResults_eq P ts h l
    show (match qResult P ts h r, qResults P ts h l with
      | some v, some l => some (v :: l)
      | _, _ => none) = _
    rw [qResult_eq, ih]
    rfl
noncomputable def callF (P : Program) (ex : Code → List Value → Heap → Option (Ex × List Value × Heap)) : CallI := fun f args h =>
  match P.funcs[f]? with
  | some fn => match fn.body with
    | some c => fL (fV 0) (qApp args (qRep undef (fn.ntmps - qLen args))) fun ts0 => match ex c ts0 h with
      | some (.normal, ts, h') | some (.ret, ts, h') => match qResults P ts h' fn.results.toList with
        | some l => some (tupleI l, h')
        | none => none
      | _ => none
    | none => if args.all flat then (pureRun P (callFunc f args.toArray)).bind fun
        | .value v => if flat v then some (v, h) else none
        | _ => none
      else none
  | none => none
theorem callF_eq (P : Program) (ex : Code → List Value → Heap → Option (Ex × List Value × Heap)) : callF P ex = callWith P noOrc ex := by
  funext f args h
  simp only [callF, callWith, noOrc, fL_eq (fV_eq 0), qApp_eq, qRep_eq, qLen_eq, qResults_eq]
  rfl

noncomputable def codeF (P : Program) (ex : Code → List Value → Heap → Option (Ex × List Value × Heap)) (c : Code) (ts : List Value) (h : Heap) : Option (Ex × List Value × Heap) :=
    match c with
    | .skip | .label _ => some (.normal, ts, h)
    | .seq a b => match ex a ts h with
      | some (.normal, ts', h') => ex b ts' h'
      | r => r
    | .cond c a b => match qEv ts c with
      | .bool true => ex a ts h
      | .bool false => ex b ts h
      | _ => none
    | .block id b => match ex b ts h with
      | some (.exit id', ts', h') => match Nat.beq id' id with
        | true => some (.normal, ts', h')
        | false => some (.exit id', ts', h')
      | r => r
    | .loop b => match ex b ts h with
      | some (.normal, ts', h') => ex (.loop b) ts' h'
      | r => r
    | .exit id => some (.exit id, ts, h)
    | .scope b => ex b ts h
    | .ret => some (.ret, ts, h)
    | .region _ ops draw => match draw with
      | false => match opsF P (callF P ex) ops.toList ops.toList ts h with
        | some (ts', h') => some (.normal, ts', h')
        | none => none
      | true => match pairsOK P noOrc.isPure ops (pres ops.toList []) 0 ops.toList with
        | false => none
        | true => match drawStill P noOrc.isPure ops with
          | true => match opsF P (callF P ex) ops.toList ops.toList ts h with
            | some (ts', h') => some (.normal, ts', h')
            | none => none
          | false => match opsTF P (callF P ex) ops.toList ops.toList ts h with
            | some (ents, ts', h') => match readsOK P noOrc.isPure (pres ops.toList []) (loudBits P noOrc.isPure ops.toList 0) ents h' 0 ops.toList ents with
              | true => some (.normal, ts', h')
              | false => none
            | none => none
    | _ => none
noncomputable def execF (P : Program) (n : Nat) : Code → List Value → Heap → Option (Ex × List Value × Heap) :=
  @Nat.rec (fun _ => Code → List Value → Heap → Option (Ex × List Value × Heap)) (fun _ _ _ => none) (fun _ ih => codeF P ih) n
theorem execF_eq (P : Program) : ∀ (n : Nat), execF P n = exec P noOrc n
  | 0 => by funext c ts h; rfl
  | n + 1 => by
    have ih := execF_eq P n
    show codeF P (execF P n) = _
    funext c ts h
    rw [ih]
    have fuse : ∀ ops : Array Oper, (match pairsOK P noOrc.isPure ops (pres ops.toList []) 0 ops.toList with
        | false => none
        | true => match drawStill P noOrc.isPure ops with
          | true => match opsF P (callF P (exec P noOrc n)) ops.toList ops.toList ts h with
            | some (ts', h') => some (Ex.normal, ts', h')
            | none => none
          | false => match opsTF P (callF P (exec P noOrc n)) ops.toList ops.toList ts h with
            | some (ents, ts', h') => match readsOK P noOrc.isPure (pres ops.toList []) (loudBits P noOrc.isPure ops.toList 0) ents h' 0 ops.toList ents with
              | true => some (.normal, ts', h')
              | false => none
            | none => none) = match opsT P (fun _ => callWith P noOrc (exec P noOrc n)) ops.toList ops.toList ts h with
        | some (ents, ts', h') => match pairsOK P noOrc.isPure ops (pres ops.toList []) 0 ops.toList && drawReads P noOrc.isPure ops ents h' with
          | true => some (.normal, ts', h')
          | false => none
        | none => none := fun ops => by
      rw [callF_eq, opsF_eq, opsTF_eq, opsT_opsI P (fun _ => callWith P noOrc (exec P noOrc n))]
      generalize opsT P (fun _ => callWith P noOrc (exec P noOrc n)) ops.toList ops.toList ts h = r
      unfold drawReads
      cases pairsOK P noOrc.isPure ops (pres ops.toList []) 0 ops.toList <;> cases drawStill P noOrc.isPure ops <;> rcases r with _ | ⟨ents, ts', h'⟩ <;> simp
    cases c with
    | region id ops d =>
      cases d with
      | false => simp only [codeF, exec, callF_eq, opsF_eq]; rfl
      | true => simp only [codeF, exec]; exact fuse ops
    | cond o a b => simp only [codeF, exec, qEv_eq]; rfl
    | _ => first | (simp only [codeF, exec]; done) | (simp only [codeF, exec]; rfl)

/-- A closed run. -/
theorem CallK.runF {P : Program} (hP : ProgOK P) (k : Nat) {f : FuncId} {args : List Value} {v : Value} (ha : args.all clo = true) (hv : clo v = true) (ht : hasText P f = true) (he : (callF P (execF P k) f args (Heap.empty P.globals.size)).map (·.1) = some v) : CallK P f args v :=
  CallK.run hP k ha hv ht (by rw [execF_eq, callF_eq] at he; exact he)
end Go.Ideal

end
section
/- What is wrong with any config, and where: the walk of the law. -/
set_option linter.unusedVariables false
set_option linter.unusedSimpArgs false
set_option maxRecDepth 100000
namespace Go.Proofs.Ytepijhnfeafmaaa
open Go Go.Ideal
def greatD (d : Doi) : Bool := decide (300 < d.levels.length) || decide (300 < d.cats.length)
def greatC (c : Conf) : Bool := (c.dois.take 10).any greatD || decide (12 < c.faces.length) || decide (30 < c.labels.length) || decide (8 < c.dois.length) || decide (80 < c.relabels.length) || decide (80 < c.rules.length) || decide (300 < c.routes.length)
/-- Data as they are handed. -/
structure ConfWf (c : Conf) : Prop where
  addr : AddrOK c
  faces : ∀ x ∈ c.faces, FaceOK x
  relabels : ∀ r ∈ c.relabels, PfxOK r.src ∧ PfxOK r.dst
  rules : ∀ r ∈ c.rules, PfxOK r.src ∧ PfxOK r.dst
  routes : ∀ r ∈ c.routes, PfxOK r.to
  labels : ∀ x ∈ c.labels, CatsOK x.cats
theorem ConfWf.ok {c : Conf} (h : ConfWf c) (hg : greatC c = false) : ConfOK c := by
  simp only [greatC, Bool.or_eq_false_iff, decide_eq_false_iff_not] at hg
  obtain ⟨⟨⟨⟨⟨⟨g1, g2⟩, g3⟩, g4⟩, g5⟩, g6⟩, g7⟩ := hg
  refine ⟨⟨by omega, by omega, by omega, by omega, by omega, by omega⟩, h.addr, h.faces, fun d hd => ?_, h.relabels, h.rules, h.routes⟩
  rw [List.take_of_length_le (by omega)] at g1
  have := List.any_eq_false.1 g1 d hd
  simp only [greatD, Bool.or_eq_true, decide_eq_true_eq] at this
  omega
theorem greatD_w (d : Doi) : CallK Try.prog 49 [doiV d] (.bool (greatD d)) :=
  CallK.via progOK (pfs []) [] 100 (Adv.split (7 : Nat) Adv.nil (Adv.split (12 : Nat) Adv.nil Adv.nil)) (by kernel_rfl) (by kernel_rfl) (p := (decide ((↑(List.length (Doi.levels d)) : Int) > (300 : Int)) = true → Value.bool true = Value.bool (greatD d)) ∧
  (decide ((↑(List.length (Doi.levels d)) : Int) > (300 : Int)) = false →
    (decide ((↑(List.length (Doi.cats d)) : Int) > (300 : Int)) = true → Value.bool true = Value.bool (greatD d)) ∧
      (decide ((↑(List.length (Doi.cats d)) : Int) > (300 : Int)) = false → Value.bool false = Value.bool (greatD d)))) (by kernel_rfl) (by
    simp only [Value.bool.injEq]
    repeat' (first | rfl | apply And.intro | intro)
    all_goals grind [greatD])
theorem great_w (c : Conf) : CallK Try.prog 15 [confV c] (.bool (greatC c)) :=
  CallK.via progOK (pfs []) [] 100 (Adv.loop (6 : Nat) (fun (k : Nat) => [((3 : Nat), Value.int IntKind.i64 (↑k : Int))])
  ((fun (h : Heap) (x : Nat) => h) (Heap.mk (nat_lit 1) (Trie.node (some (Blk.cells (confL c) (nat_lit 31) Mode.fix)) Trie.leaf Trie.leaf)))
  (fun (a k : Nat) => a + k = (10 : Nat) ∧ k ≤ List.length (Conf.dois c) ∧ ∀ (j : Nat), j < k → greatD (List.getD (Conf.dois c) j default) = false) (10 : Nat) (0 : Nat)
  fun (i6 s6 : Nat) (j6 : Nat → Value) =>
  Adv.split (13 : Nat)
    (Adv.split (16 : Nat)
      (Adv.chk (24 : Nat) none
        (Adv.chk (25 : Nat) (some (Value.agg (Array.mk (doiL (List.getD (Conf.dois c) s6 default))))) (Adv.purs (26 : Nat) (greatD (List.getD (Conf.dois c) s6 default)) Adv.nil Adv.nil)))
      (Adv.split (23 : Nat) Adv.nil (Adv.split (28 : Nat) Adv.nil (Adv.split (34 : Nat) Adv.nil (Adv.split (40 : Nat) Adv.nil (Adv.split (46 : Nat) Adv.nil (Adv.split (52 : Nat) Adv.nil Adv.nil)))))))
    (Adv.split (21 : Nat) Adv.nil (Adv.split (26 : Nat) Adv.nil (Adv.split (32 : Nat) Adv.nil (Adv.split (38 : Nat) Adv.nil (Adv.split (44 : Nat) Adv.nil (Adv.split (50 : Nat) Adv.nil Adv.nil))))))) (by kernel_rfl) (by kernel_rfl) (p := (((10 : Nat) + (0 : Nat) = (10 : Nat) ∧ (0 : Nat) ≤ List.length (Conf.dois c) ∧ ∀ (j : Nat), j < (0 : Nat) → greatD (List.getD (Conf.dois c) j default) = false) ∧
    Value.int IntKind.i64 (0 : Int) = Value.int IntKind.i64 (0 : Int) ∧
      Heap.mk (nat_lit 1) (Trie.node (some (Blk.cells (confL c) (nat_lit 31) Mode.fix)) Trie.leaf Trie.leaf) =
        Heap.mk (nat_lit 1) (Trie.node (some (Blk.cells (confL c) (nat_lit 31) Mode.fix)) Trie.leaf Trie.leaf)) ∧
  ∀ (i6 s6 : Nat) (j6 : Nat → Value),
    (i6 + s6 = (10 : Nat) ∧ s6 ≤ List.length (Conf.dois c) ∧ ∀ (j : Nat), j < s6 → greatD (List.getD (Conf.dois c) j default) = false) →
      (decide ((↑s6 : Int) < (↑(List.length (Conf.dois c)) : Int)) = true →
          (decide ((↑s6 : Int) < (10 : Int)) = true →
              ((0 : Int) ≤ (↑s6 : Int) ∧ (↑s6 : Int) < (↑(List.length (Conf.dois c)) : Int)) ∧
                Ask.holds Try.prog
                    (Ask.part (Array.toList (Array.mk (doisL (Conf.dois c)))) (Int.toNat (↑(Int.toNat (↑s6 : Int) * nat_lit 3) : Int)) (nat_lit 3) (doiL (List.getD (Conf.dois c) s6 default))) ∧
                  CallK Try.prog (nat_lit 49) [Value.agg (Array.mk (doiL (List.getD (Conf.dois c) s6 default)))] (Value.bool (greatD (List.getD (Conf.dois c) s6 default))) ∧
                    (greatD (List.getD (Conf.dois c) s6 default) = true → Value.bool true = Value.bool (greatC c)) ∧
                      (greatD (List.getD (Conf.dois c) s6 default) = false →
                        ∃ (i6' : Nat),
                          ∃ (s6' : Nat),
                            i6' < i6 ∧
                              (i6' + s6' = (10 : Nat) ∧ s6' ≤ List.length (Conf.dois c) ∧ ∀ (j : Nat), j < s6' → greatD (List.getD (Conf.dois c) j default) = false) ∧
                                Value.int IntKind.i64 (IntKind.wrap IntKind.i64 ((↑s6 : Int) + (1 : Int))) = Value.int IntKind.i64 (↑s6' : Int) ∧
                                  (some (Blk.cells (confL c) (nat_lit 31) Mode.fix) = some (Blk.cells (confL c) (nat_lit 31) Mode.fix) ∧ True) ∧ true = true ∧ true = true ∧ True)) ∧
            (decide ((↑s6 : Int) < (10 : Int)) = false →
              (decide ((↑(List.length (Conf.faces c)) : Int) > (12 : Int)) = true → Value.bool true = Value.bool (greatC c)) ∧
                (decide ((↑(List.length (Conf.faces c)) : Int) > (12 : Int)) = false →
                  (decide ((↑(List.length (Conf.labels c)) : Int) > (30 : Int)) = true → Value.bool true = Value.bool (greatC c)) ∧
                    (decide ((↑(List.length (Conf.labels c)) : Int) > (30 : Int)) = false →
                      (decide ((↑(List.length (Conf.dois c)) : Int) > (8 : Int)) = true → Value.bool true = Value.bool (greatC c)) ∧
                        (decide ((↑(List.length (Conf.dois c)) : Int) > (8 : Int)) = false →
                          (decide ((↑(List.length (Conf.relabels c)) : Int) > (80 : Int)) = true → Value.bool true = Value.bool (greatC c)) ∧
                            (decide ((↑(List.length (Conf.relabels c)) : Int) > (80 : Int)) = false →
                              (decide ((↑(List.length (Conf.rules c)) : Int) > (80 : Int)) = true → Value.bool true = Value.bool (greatC c)) ∧
                                (decide ((↑(List.length (Conf.rules c)) : Int) > (80 : Int)) = false →
                                  (decide ((↑(List.length (Conf.routes c)) : Int) > (300 : Int)) = true → Value.bool true = Value.bool (greatC c)) ∧
                                    (decide ((↑(List.length (Conf.routes c)) : Int) > (300 : Int)) = false → Value.bool false = Value.bool (greatC c))))))))) ∧
        (decide ((↑s6 : Int) < (↑(List.length (Conf.dois c)) : Int)) = false →
          (decide ((↑(List.length (Conf.faces c)) : Int) > (12 : Int)) = true → Value.bool true = Value.bool (greatC c)) ∧
            (decide ((↑(List.length (Conf.faces c)) : Int) > (12 : Int)) = false →
              (decide ((↑(List.length (Conf.labels c)) : Int) > (30 : Int)) = true → Value.bool true = Value.bool (greatC c)) ∧
                (decide ((↑(List.length (Conf.labels c)) : Int) > (30 : Int)) = false →
                  (decide ((↑(List.length (Conf.dois c)) : Int) > (8 : Int)) = true → Value.bool true = Value.bool (greatC c)) ∧
                    (decide ((↑(List.length (Conf.dois c)) : Int) > (8 : Int)) = false →
                      (decide ((↑(List.length (Conf.relabels c)) : Int) > (80 : Int)) = true → Value.bool true = Value.bool (greatC c)) ∧
                        (decide ((↑(List.length (Conf.relabels c)) : Int) > (80 : Int)) = false →
                          (decide ((↑(List.length (Conf.rules c)) : Int) > (80 : Int)) = true → Value.bool true = Value.bool (greatC c)) ∧
                            (decide ((↑(List.length (Conf.rules c)) : Int) > (80 : Int)) = false →
                              (decide ((↑(List.length (Conf.routes c)) : Int) > (300 : Int)) = true → Value.bool true = Value.bool (greatC c)) ∧
                                (decide ((↑(List.length (Conf.routes c)) : Int) > (300 : Int)) = false → Value.bool false = Value.bool (greatC c))))))))) (by kernel_rfl) (by
    have tail : ∀ {k : Nat}, (∀ j, j < k → greatD (c.dois.getD j default) = false) → (k = 10 ∨ k = c.dois.length) → k ≤ 10 → k ≤ c.dois.length → (c.dois.take 10).any greatD = false := fun {k} h1 h2 h3 h4 => by
      rcases h2 with rfl | rfl
      · exact any_take_false default h4 h1
      · rw [List.take_of_length_le h3]; exact anyB_false h1
    refine ⟨⟨⟨by omega, by omega, fun j hj => by omega⟩, rfl, rfl⟩, fun a k j ⟨q1, q2, q3⟩ => ⟨fun h1 => ⟨fun h2 => ?_, fun h2 => ?_⟩, fun h1 => ?_⟩⟩
    · have hk : k < c.dois.length := by have := of_decide_eq_true h1; omega
      have hk2 : k < 10 := by have := of_decide_eq_true h2; omega
      refine ⟨⟨by omega, by omega⟩, dois_part hk 0 3 (by omega) rfl rfl, greatD_w _, fun h3 => ?_, fun h3 => ⟨a - 1, k + 1, by omega, ⟨by omega, by omega, lt_next q3 h3⟩, wrap_next k (by omega), ⟨rfl, trivial⟩, rfl, ⟨rfl, trivial⟩⟩⟩
      have : (c.dois.take 10).any greatD = true := by
        rw [List.any_eq_true]
        refine ⟨c.dois.getD k default, ?_, h3⟩
        have hk3 : k < (c.dois.take 10).length := by rw [List.length_take]; omega
        have := List.getElem_mem hk3
        rw [List.getElem_take] at this
        simpa [List.getD, List.getElem?_eq_getElem hk] using this
      unfold greatC; rw [this]; rfl
    · have e := tail q3 (.inl (by have := of_decide_eq_false h2; omega)) (by omega) q2
      simp only [Value.bool.injEq, greatC, e, Bool.false_or]
      repeat' (first | apply And.intro | intro)
      all_goals grind
    · have e := tail q3 (.inr (by have := of_decide_eq_false h1; omega)) (by omega) q2
      simp only [Value.bool.injEq, greatC, e, Bool.false_or]
      repeat' (first | apply And.intro | intro)
      all_goals grind)
theorem awake17_w : CallK Try.prog 16 [] (.bool true) := CallK.runF progOK 3000 rfl rfl (by kernel_rfl) (by kernel_rfl)
theorem checks17_w (c : Conf) (h : ConfWf c) : CallK Try.prog 3 [confV c] (.bool true) :=
  CallK.via progOK (pfs []) [] 100 (Adv.purs (6 : Nat) (greatC c) (Adv.pur (9 : Nat) (Value.bool true) Adv.nil)
  (Adv.pur (10 : Nat) (Value.tuple (Array.mk [Value.int IntKind.i64 (Prod.fst (checkR c)), Value.int IntKind.i64 (Prod.snd (checkR c))]))
    (Adv.pur (18 : Nat) (Value.tuple (Array.mk [Value.int IntKind.i64 (Prod.fst (checkR c)), Value.int IntKind.i64 (Prod.snd (checkR c))]))
      (Adv.split (27 : Nat)
        (Adv.split (31 : Nat)
          (Adv.purs (35 : Nat) (rightC c) (Adv.split (37 : Nat) (Adv.pur (41 : Nat) (Value.bool true) Adv.nil) Adv.nil) (Adv.split (37 : Nat) Adv.nil (Adv.pur (41 : Nat) (Value.bool true) Adv.nil)))
          Adv.nil)
        Adv.nil)))) (by kernel_rfl) (by kernel_rfl) (p := CallK Try.prog (nat_lit 15) [Value.agg (Array.mk (confL c))] (Value.bool (greatC c)) ∧
  (greatC c = true → CallK Try.prog (nat_lit 16) [] (Value.bool true) ∧ Value.bool true = Value.bool true) ∧
    (greatC c = false →
      CallK Try.prog (nat_lit 17) [Value.agg (Array.mk (confL c))] (Value.tuple (Array.mk [Value.int IntKind.i64 (Prod.fst (checkR c)), Value.int IntKind.i64 (Prod.snd (checkR c))])) ∧
        CallK Try.prog (nat_lit 18) [Value.agg (Array.mk (confL c))] (Value.tuple (Array.mk [Value.int IntKind.i64 (Prod.fst (checkR c)), Value.int IntKind.i64 (Prod.snd (checkR c))])) ∧
          ((Prod.fst (checkR c) == Prod.fst (checkR c)) = true →
              ((Prod.snd (checkR c) == Prod.snd (checkR c)) = true →
                  CallK Try.prog (nat_lit 19) [Value.agg (Array.mk (confL c))] (Value.bool (rightC c)) ∧
                    (rightC c = true →
                        ((Prod.snd (checkR c) == (0 : Int)) = true → CallK Try.prog (nat_lit 16) [] (Value.bool true) ∧ Value.bool true = Value.bool true) ∧
                          ((Prod.snd (checkR c) == (0 : Int)) = false → Value.bool false = Value.bool true)) ∧
                      (rightC c = false →
                        ((Prod.snd (checkR c) == (0 : Int)) = true → Value.bool false = Value.bool true) ∧
                          ((Prod.snd (checkR c) == (0 : Int)) = false → CallK Try.prog (nat_lit 16) [] (Value.bool true) ∧ Value.bool true = Value.bool true))) ∧
                ((Prod.snd (checkR c) == Prod.snd (checkR c)) = false → Value.bool false = Value.bool true)) ∧
            ((Prod.fst (checkR c) == Prod.fst (checkR c)) = false → Value.bool false = Value.bool true))) (by kernel_rfl) (by
    simp only [Value.bool.injEq]
    repeat' (first | exact great_w _ | exact awake17_w | exact check_w _ (h.ok (by assumption)).len h.addr | exact right17_w _ (h.ok (by assumption)).len h.addr | exact ref17_w _ (h.ok (by assumption)) | rfl | apply And.intro | intro)
    all_goals grind [rightC])
end Go.Proofs.Ytepijhnfeafmaaa

end
section
/- What a law is handed of configs, read as plain data. -/
set_option linter.unusedVariables false
set_option maxRecDepth 100000
set_option linter.unusedVariables false
set_option linter.unusedSimpArgs false
namespace Go.Proofs.Ytepijhnfeafmaaa
open Go Go.Ideal Go.RowKit

theorem readsW {H : Type} {enc : TypeId × Value → H} {P : Program} {W : World} {base : Nat} {spare : Nat → Bool} {held : Bool} {t : TypeId} {α β : Type} {f : α → List Value} {wf : α → Prop} {f' : β → List Value} {wf' : β → Prop} (h : ReadsAs enc P W base spare held t f wf) (g : α → β) (hf : ∀ a, wf a → f' (g a) = f a) (hw : ∀ a, wf a → wf' (g a)) : ReadsAs enc P W base spare held t f' wf' := fun fuel cs x k => by
  obtain ⟨a, a1, a2⟩ := h fuel cs x k
  exact ⟨g a, hw a a1, by rw [hf a a1]; exact a2⟩
theorem cellsOf_map {α : Type} (f : α → Value) : ∀ l : List α, cellsOf (fun a => [f a]) l = l.map f
  | [] => rfl
  | a :: l => by simp only [cellsOf, List.map_cons, cellsOf_map f l]; rfl
theorem catsL_cells {l : List Int} (h : l.length = 30) : catsL l = cellsOf (fun n : Int => [.int .u8 n]) l := by
  rw [cellsOf_map]
  have e : catsL l = (List.range 30).map fun i => Value.int .u8 (l.getD i 0) := rfl
  rw [e]
  refine List.ext_getElem (by simp [h]) fun i h1 h2 => ?_
  have hi : i < l.length := by simpa using h2
  simp [List.getD, List.getElem?_eq_getElem hi]

section
variable {H : Type} {enc : TypeId × Value → H} {W : World} {base : Nat} {spare : Nat → Bool} {held : Bool}
theorem rd_i64 : ReadsAs enc Try.prog W base spare held 3 (fun n : Int => [.int .i64 n]) (fun _ => True) := readsW (ReadsAs.int Try.underlying3) id (fun _ _ => rfl) fun _ _ => trivial
theorem rd_bool : ReadsAs enc Try.prog W base spare held 4 (fun b : Bool => [.bool b]) (fun _ => True) := ReadsAs.bool Try.underlying4
theorem rd_u32 : ReadsAs enc Try.prog W base spare held 40 (fun n : Int => [.int .u32 n]) (fun n => 0 ≤ n ∧ n < 4294967296) := readsW (ReadsAs.int Try.underlying40) id (fun _ _ => rfl) fun n h => by
  simp only [Lit.wf, Bool.and_eq_true, decide_eq_true_eq] at h
  have h1 : (0 : Int) ≤ n := h.1
  have h2 : n ≤ 4294967295 := h.2
  exact ⟨h1, show n < 4294967296 by omega⟩
theorem rd_u8 : ReadsAs enc Try.prog W base spare held 5 (fun n : Int => [.int .u8 n]) (fun n => 0 ≤ n ∧ n < 256) := readsW (ReadsAs.int Try.underlying5) id (fun _ _ => rfl) fun n h => by
  simp only [Lit.wf, Bool.and_eq_true, decide_eq_true_eq] at h
  have h1 : (0 : Int) ≤ n := h.1
  have h2 : n ≤ 255 := h.2
  exact ⟨h1, show n < 256 by omega⟩
theorem rd_Cats : ReadsAs enc Try.prog W base spare held 42 (catsL) (CatsOK) := readsW (ReadsAs.array Try.underlying42 (m := 1) (by kernel_rfl) (by kernel_rfl) rd_u8) id (fun _ h => catsL_cells h.1) fun _ h => h
theorem rd_Pfx : ReadsAs enc Try.prog W base spare held 48 (pfxL) (PfxOK) := readsW (FieldsAs.all (FieldsAs.cons (o := 0) (n := 1) Try.underlying48 0 _ rfl rfl (by kernel_rfl) rd_u32 (FieldsAs.cons (o := 1) (n := 1) Try.underlying48 1 _ rfl rfl (by kernel_rfl) rd_i64 (FieldsAs.nil Try.underlying48 (by kernel_rfl))))) (fun p => (⟨p.1, p.2.1⟩ : Pfx)) (fun _ _ => rfl) (fun a h => ⟨a.1.toNat, by show a.1 = _; omega, by have := h.1.2; omega⟩)
theorem rd_Lbl : ReadsAs enc Try.prog W base spare held 44 (lblL) (fun x => CatsOK x.cats) := readsW (FieldsAs.all (FieldsAs.cons (o := 0) (n := 1) Try.underlying44 0 _ rfl rfl (by kernel_rfl) rd_i64 (FieldsAs.cons (o := 1) (n := 30) Try.underlying44 1 _ rfl rfl (by kernel_rfl) rd_Cats (FieldsAs.nil Try.underlying44 (by kernel_rfl))))) (fun p => (⟨p.1, p.2.1⟩ : Lbl)) (fun _ _ => rfl) (fun a h => h.2.1)
theorem rd_Face : ReadsAs enc Try.prog W base spare held 46 (faceL) (fun x => (0 ≤ x.addr ∧ x.addr < 4294967296) ∧ FaceOK x) := readsW (FieldsAs.all (FieldsAs.cons (o := 0) (n := 1) Try.underlying46 0 _ rfl rfl (by kernel_rfl) rd_u32 (FieldsAs.cons (o := 1) (n := 1) Try.underlying46 1 _ rfl rfl (by kernel_rfl) rd_i64 (FieldsAs.cons (o := 2) (n := 1) Try.underlying46 2 _ rfl rfl (by kernel_rfl) rd_i64 (FieldsAs.cons (o := 3) (n := 1) Try.underlying46 3 _ rfl rfl (by kernel_rfl) rd_i64 (FieldsAs.cons (o := 4) (n := 31) Try.underlying46 4 _ rfl rfl (by kernel_rfl) rd_Lbl (FieldsAs.cons (o := 35) (n := 31) Try.underlying46 5 _ rfl rfl (by kernel_rfl) rd_Lbl (FieldsAs.cons (o := 66) (n := 31) Try.underlying46 6 _ rfl rfl (by kernel_rfl) rd_Lbl (FieldsAs.nil Try.underlying46 (by kernel_rfl)))))))))) (fun p => (⟨p.1, p.2.1, p.2.2.1, p.2.2.2.1, p.2.2.2.2.1, p.2.2.2.2.2.1, p.2.2.2.2.2.2.1⟩ : Face)) (fun _ _ => rfl) (fun a h => ⟨h.1, h.2.2.2.2.1, h.2.2.2.2.2.1, h.2.2.2.2.2.2.1⟩)
theorem rd_Pair : ReadsAs enc Try.prog W base spare held 55 (pairL) (fun _ => True) := readsW (FieldsAs.all (FieldsAs.cons (o := 0) (n := 1) Try.underlying55 0 _ rfl rfl (by kernel_rfl) rd_i64 (FieldsAs.cons (o := 1) (n := 1) Try.underlying55 1 _ rfl rfl (by kernel_rfl) rd_i64 (FieldsAs.nil Try.underlying55 (by kernel_rfl))))) (fun p => (⟨p.1, p.2.1⟩ : Pair)) (fun _ _ => rfl) (fun _ _ => trivial)
theorem rd_Pairs : ReadsAs enc Try.prog W base spare held 51 (fun l : List Pair => [pairsV l]) (fun l => (∀ a ∈ l, (fun _ => True) a) ∧ l.length ≤ maxLen) := ReadsAs.slice Try.underlying51 (by rw [show Try.prog.cellsOf 55 = 2 from by kernel_rfl]; decide) (fun a => (pairL_length a).trans (by kernel_rfl)) rd_Pair
theorem rd_Doi : ReadsAs enc Try.prog W base spare held 53 (doiL) (fun _ => True) := readsW (FieldsAs.all (FieldsAs.cons (o := 0) (n := 1) Try.underlying53 0 _ rfl rfl (by kernel_rfl) rd_u32 (FieldsAs.cons (o := 1) (n := 1) Try.underlying53 1 _ rfl rfl (by kernel_rfl) rd_Pairs (FieldsAs.cons (o := 2) (n := 1) Try.underlying53 2 _ rfl rfl (by kernel_rfl) rd_Pairs (FieldsAs.nil Try.underlying53 (by kernel_rfl)))))) (fun p => (⟨p.1, p.2.1, p.2.2.1⟩ : Doi)) (fun _ _ => rfl) (fun _ _ => trivial)
theorem rd_Rule : ReadsAs enc Try.prog W base spare held 50 (ruleL) (fun r => PfxOK r.src ∧ PfxOK r.dst) := readsW (FieldsAs.all (FieldsAs.cons (o := 0) (n := 1) Try.underlying50 0 _ rfl rfl (by kernel_rfl) rd_i64 (FieldsAs.cons (o := 1) (n := 1) Try.underlying50 1 _ rfl rfl (by kernel_rfl) rd_i64 (FieldsAs.cons (o := 2) (n := 2) Try.underlying50 2 _ rfl rfl (by kernel_rfl) rd_Pfx (FieldsAs.cons (o := 4) (n := 2) Try.underlying50 3 _ rfl rfl (by kernel_rfl) rd_Pfx (FieldsAs.cons (o := 6) (n := 1) Try.underlying50 4 _ rfl rfl (by kernel_rfl) rd_i64 (FieldsAs.cons (o := 7) (n := 1) Try.underlying50 5 _ rfl rfl (by kernel_rfl) rd_i64 (FieldsAs.cons (o := 8) (n := 1) Try.underlying50 6 _ rfl rfl (by kernel_rfl) rd_i64 (FieldsAs.cons (o := 9) (n := 1) Try.underlying50 7 _ rfl rfl (by kernel_rfl) rd_i64 (FieldsAs.cons (o := 10) (n := 1) Try.underlying50 8 _ rfl rfl (by kernel_rfl) rd_i64 (FieldsAs.cons (o := 11) (n := 1) Try.underlying50 9 _ rfl rfl (by kernel_rfl) rd_bool (FieldsAs.nil Try.underlying50 (by kernel_rfl))))))))))))) (fun p => (⟨p.1, p.2.1, p.2.2.1, p.2.2.2.1, p.2.2.2.2.1, p.2.2.2.2.2.1, p.2.2.2.2.2.2.1, p.2.2.2.2.2.2.2.1, p.2.2.2.2.2.2.2.2.1, p.2.2.2.2.2.2.2.2.2.1⟩ : Rule)) (fun _ _ => rfl) (fun a h => ⟨h.2.2.1, h.2.2.2.1⟩)
theorem rd_Relab : ReadsAs enc Try.prog W base spare held 110 (relabL) (fun r => PfxOK r.src ∧ PfxOK r.dst) := readsW (FieldsAs.all (FieldsAs.cons (o := 0) (n := 1) Try.underlying110 0 _ rfl rfl (by kernel_rfl) rd_i64 (FieldsAs.cons (o := 1) (n := 1) Try.underlying110 1 _ rfl rfl (by kernel_rfl) rd_i64 (FieldsAs.cons (o := 2) (n := 2) Try.underlying110 2 _ rfl rfl (by kernel_rfl) rd_Pfx (FieldsAs.cons (o := 4) (n := 2) Try.underlying110 3 _ rfl rfl (by kernel_rfl) rd_Pfx (FieldsAs.cons (o := 6) (n := 1) Try.underlying110 4 _ rfl rfl (by kernel_rfl) rd_i64 (FieldsAs.cons (o := 7) (n := 1) Try.underlying110 5 _ rfl rfl (by kernel_rfl) rd_i64 (FieldsAs.nil Try.underlying110 (by kernel_rfl))))))))) (fun p => (⟨p.1, p.2.1, p.2.2.1, p.2.2.2.1, p.2.2.2.2.1, p.2.2.2.2.2.1⟩ : Relab)) (fun _ _ => rfl) (fun a h => ⟨h.2.2.1, h.2.2.2.1⟩)
theorem rd_Rout : ReadsAs enc Try.prog W base spare held 113 (routL) (fun r => PfxOK r.to) := readsW (FieldsAs.all (FieldsAs.cons (o := 0) (n := 2) Try.underlying113 0 _ rfl rfl (by kernel_rfl) rd_Pfx (FieldsAs.cons (o := 2) (n := 1) Try.underlying113 1 _ rfl rfl (by kernel_rfl) rd_i64 (FieldsAs.nil Try.underlying113 (by kernel_rfl))))) (fun p => (⟨p.1, p.2.1⟩ : Rout)) (fun _ _ => rfl) (fun a h => h.1)
theorem rd_Quot : ReadsAs enc Try.prog W base spare held 29 (quotL) (fun _ => True) := readsW (FieldsAs.all (FieldsAs.cons (o := 0) (n := 1) Try.underlying29 0 _ rfl rfl (by kernel_rfl) rd_i64 (FieldsAs.cons (o := 1) (n := 1) Try.underlying29 1 _ rfl rfl (by kernel_rfl) rd_i64 (FieldsAs.cons (o := 2) (n := 1) Try.underlying29 2 _ rfl rfl (by kernel_rfl) rd_i64 (FieldsAs.cons (o := 3) (n := 1) Try.underlying29 3 _ rfl rfl (by kernel_rfl) rd_i64 (FieldsAs.cons (o := 4) (n := 1) Try.underlying29 4 _ rfl rfl (by kernel_rfl) rd_i64 (FieldsAs.cons (o := 5) (n := 1) Try.underlying29 5 _ rfl rfl (by kernel_rfl) rd_i64 (FieldsAs.cons (o := 6) (n := 1) Try.underlying29 6 _ rfl rfl (by kernel_rfl) rd_i64 (FieldsAs.cons (o := 7) (n := 1) Try.underlying29 7 _ rfl rfl (by kernel_rfl) rd_i64 (FieldsAs.cons (o := 8) (n := 1) Try.underlying29 8 _ rfl rfl (by kernel_rfl) rd_i64 (FieldsAs.nil Try.underlying29 (by kernel_rfl)))))))))))) (fun p => (⟨p.1, p.2.1, p.2.2.1, p.2.2.2.1, p.2.2.2.2.1, p.2.2.2.2.2.1, p.2.2.2.2.2.2.1, p.2.2.2.2.2.2.2.1, p.2.2.2.2.2.2.2.2.1⟩ : Quot)) (fun _ _ => rfl) (fun _ _ => trivial)
theorem rd_Faces : ReadsAs enc Try.prog W base spare held 22 (fun l : List Face => [facesV l]) (fun l => (∀ a ∈ l, (fun x => (0 ≤ x.addr ∧ x.addr < 4294967296) ∧ FaceOK x) a) ∧ l.length ≤ maxLen) := ReadsAs.slice Try.underlying22 (by rw [show Try.prog.cellsOf 46 = 97 from by kernel_rfl]; decide) (fun a => (faceL_length a).trans (by kernel_rfl)) rd_Face
theorem rd_Lbls : ReadsAs enc Try.prog W base spare held 23 (fun l : List Lbl => [lblsV l]) (fun l => (∀ a ∈ l, (fun x => CatsOK x.cats) a) ∧ l.length ≤ maxLen) := ReadsAs.slice Try.underlying23 (by rw [show Try.prog.cellsOf 44 = 31 from by kernel_rfl]; decide) (fun a => (lblL_length a).trans (by kernel_rfl)) rd_Lbl
theorem rd_Dois : ReadsAs enc Try.prog W base spare held 24 (fun l : List Doi => [doisV l]) (fun l => (∀ a ∈ l, (fun _ => True) a) ∧ l.length ≤ maxLen) := ReadsAs.slice Try.underlying24 (by rw [show Try.prog.cellsOf 53 = 3 from by kernel_rfl]; decide) (fun a => (doiL_length a).trans (by kernel_rfl)) rd_Doi
theorem rd_Relabs : ReadsAs enc Try.prog W base spare held 25 (fun l : List Relab => [relabsV l]) (fun l => (∀ a ∈ l, (fun r => PfxOK r.src ∧ PfxOK r.dst) a) ∧ l.length ≤ maxLen) := ReadsAs.slice Try.underlying25 (by rw [show Try.prog.cellsOf 110 = 8 from by kernel_rfl]; decide) (fun a => (relabL_length a).trans (by kernel_rfl)) rd_Relab
theorem rd_Rules : ReadsAs enc Try.prog W base spare held 26 (fun l : List Rule => [rulesV l]) (fun l => (∀ a ∈ l, (fun r => PfxOK r.src ∧ PfxOK r.dst) a) ∧ l.length ≤ maxLen) := ReadsAs.slice Try.underlying26 (by rw [show Try.prog.cellsOf 50 = 12 from by kernel_rfl]; decide) (fun a => (ruleL_length a).trans (by kernel_rfl)) rd_Rule
theorem rd_Routs : ReadsAs enc Try.prog W base spare held 27 (fun l : List Rout => [routsV l]) (fun l => (∀ a ∈ l, (fun r => PfxOK r.to) a) ∧ l.length ≤ maxLen) := ReadsAs.slice Try.underlying27 (by rw [show Try.prog.cellsOf 113 = 3 from by kernel_rfl]; decide) (fun a => (routL_length a).trans (by kernel_rfl)) rd_Rout
theorem rd_Conf : ReadsAs enc Try.prog W base spare held 31 (confL) (ConfWf) := readsW (FieldsAs.all (FieldsAs.cons (o := 0) (n := 1) Try.underlying31 0 _ rfl rfl (by kernel_rfl) rd_Faces (FieldsAs.cons (o := 1) (n := 1) Try.underlying31 1 _ rfl rfl (by kernel_rfl) rd_Lbls (FieldsAs.cons (o := 2) (n := 1) Try.underlying31 2 _ rfl rfl (by kernel_rfl) rd_Dois (FieldsAs.cons (o := 3) (n := 1) Try.underlying31 3 _ rfl rfl (by kernel_rfl) rd_Relabs (FieldsAs.cons (o := 4) (n := 1) Try.underlying31 4 _ rfl rfl (by kernel_rfl) rd_Rules (FieldsAs.cons (o := 5) (n := 1) Try.underlying31 5 _ rfl rfl (by kernel_rfl) rd_Routs (FieldsAs.cons (o := 6) (n := 9) Try.underlying31 6 _ rfl rfl (by kernel_rfl) rd_Quot (FieldsAs.nil Try.underlying31 (by kernel_rfl)))))))))) (fun p => (⟨p.1, p.2.1, p.2.2.1, p.2.2.2.1, p.2.2.2.2.1, p.2.2.2.2.2.1, p.2.2.2.2.2.2.1⟩ : Conf)) (fun _ _ => rfl) (fun a h => ⟨fun x hx => (h.1.1 x hx).1, fun x hx => (h.1.1 x hx).2, fun r hr => h.2.2.2.1.1 r hr, fun r hr => h.2.2.2.2.1.1 r hr, fun r hr => h.2.2.2.2.2.1.1 r hr, fun x hx => h.2.1.1 x hx⟩)
end
end Go.Proofs.Ytepijhnfeafmaaa

end
section
/- What config.Labels and config.Owns answer, and the document's lists of labels. -/
set_option linter.unusedVariables false
set_option linter.unusedSimpArgs false
set_option maxRecDepth 100000
namespace Go.Proofs.Ytepijhnfeafmaaa
open Go Go.Ideal
/-- The numbers, below one, of labels of which something holds. -/
def whB (p : Lbl → Bool) (xs : List Lbl) (k : Nat) : List Nat := (List.range k).filter fun j => p (xs.getD j default)
def int1 (i : Nat) : List Value := [.int .i64 i]
theorem int1_length (i : Nat) : (int1 i).length = 1 := rfl
def intsL (l : List Nat) : List Value := cellsOf int1 l
def intsV (l : List Nat) : Value := vsl l.length (intsL l).toArray
theorem intsL_length (l : List Nat) : (intsL l).length = l.length := (cellsOf_length int1_length l).trans (Nat.mul_one _)
theorem intsL_snoc (l : List Nat) (k : Nat) : intsL (l ++ [k]) = intsL l ++ [.int .i64 k] := cellsOf_snoc _ _ _
theorem whB_len (p : Lbl → Bool) (xs : List Lbl) (k : Nat) : (whB p xs k).length ≤ k := by
  have := List.length_filter_le (fun j => p (xs.getD j default)) (List.range k)
  rw [List.length_range] at this; exact this
theorem whB_yes {p : Lbl → Bool} {xs : List Lbl} {k : Nat} (h : p (xs.getD k default) = true) : whB p xs (k + 1) = whB p xs k ++ [k] := by
  simp only [whB, List.range_succ, List.filter_append, List.filter_cons, h, List.filter_nil, if_true]
theorem whB_no {p : Lbl → Bool} {xs : List Lbl} {k : Nat} (h : p (xs.getD k default) = false) : whB p xs (k + 1) = whB p xs k := by
  simp only [whB, List.range_succ, List.filter_append, List.filter_cons, h, List.filter_nil, Bool.false_eq_true, if_false, List.append_nil]
theorem ints_round {tok : Nat} {p : Lbl → Bool} {xs : List Lbl} {k : Nat} (h : p (xs.getD k default) = true) : osl tok 1 (((whB p xs k).length : Int) + 1) ⟨intsL (whB p xs k) ++ [.int .i64 k]⟩ = osl tok 1 ((whB p xs (k + 1)).length : Nat) (intsL (whB p xs (k + 1))).toArray ∧
    some (Blk.own ((whB p xs k).length + 1) 3) = some (Blk.own (whB p xs (k + 1)).length 3) := by
  rw [whB_yes h, intsL_snoc, List.length_append]; exact ⟨rfl, rfl⟩
theorem i64_bytes : (Try.prog.types[(3 : Nat)]).bytes = 8 := by decide +kernel
theorem tblLen_w (xs : List Lbl) : CallK Try.prog 94 [tblV xs] (.int .i64 xs.length) :=
  CallK.via progOK (pfs []) [] 100 (Adv.nil) (by kernel_rfl) (by kernel_rfl) (p := Value.int IntKind.i64 (↑(List.length xs) : Int) = Value.int IntKind.i64 (↑(List.length xs) : Int)) (by kernel_rfl) (by
    rfl)
theorem within1_w (x lo hi : Lbl) : CallK Try.prog 116 [lblV x, vpt 0 (Array.mk (lblL lo)), vpt 0 (Array.mk (lblL hi))] (.bool (inL x lo hi)) :=
  CallK.via progOK (pfs []) [] 100 (Adv.purs (7 : Nat) (inL x lo hi) Adv.nil Adv.nil) (by kernel_rfl) (by kernel_rfl) (p := CallK Try.prog (nat_lit 117) [Value.agg (Array.mk (lblL x)), Value.agg (Array.mk (lblL lo)), Value.agg (Array.mk (lblL hi))] (Value.bool (inL x lo hi)) ∧
  (inL x lo hi = true → Value.bool true = Value.bool (inL x lo hi)) ∧ (inL x lo hi = false → Value.bool false = Value.bool (inL x lo hi))) (by kernel_rfl) (by
    exact ⟨in_w _ _ _, fun h => by rw [h], fun h => by rw [h]⟩)
theorem tblWithin_w (xs : List Lbl) (lo hi : Lbl) (hl : xs.length ≤ 1000) : CallK Try.prog 73 [tblV xs, lblV lo, lblV hi] (intsV (whB (fun x => inL x lo hi) xs xs.length)) :=
  CallK.coe progOK (pfs []) [5] 100 (Adv.pur (15 : Nat) (Value.int IntKind.i64 (↑(List.length xs) : Int))
  (Adv.weak (17 : Nat)
    [(nat_lit 5, Value.iface (nat_lit 1000003) (Value.tuple (Array.mk [Value.int IntKind.i64 (2 : Int), Value.int IntKind.i64 (1 : Int), Value.int IntKind.i64 (0 : Int), Value.agg (Array.mk [])])))]
    (Heap.mk (nat_lit 3)
      (Trie.node (some (Blk.cells (lblL lo) (nat_lit 44) Mode.fix)) (Trie.node (some (Blk.cells (lblL hi) (nat_lit 44) Mode.fix)) Trie.leaf Trie.leaf)
        (Trie.node (some (Blk.own (nat_lit 0) (nat_lit 3))) Trie.leaf Trie.leaf)))
    (Adv.loop (18 : Nat)
      (fun (k : Nat) =>
        [((9 : Nat), Value.int IntKind.i64 (↑k : Int)),
          ((5 : Nat), osl (2 : Nat) (1 : Nat) (↑(List.length (whB (fun (x : Lbl) => inL x lo hi) xs k)) : Int) (List.toArray (intsL (whB (fun (x : Lbl) => inL x lo hi) xs k))))])
      ((fun (h : Heap) (k : Nat) => Heap.set h (2 : Nat) (Blk.own (List.length (whB (fun (x : Lbl) => inL x lo hi) xs k)) (3 : TypeId)))
        (Heap.mk (nat_lit 3)
          (Trie.node (some (Blk.cells (lblL lo) (nat_lit 44) Mode.fix)) (Trie.node (some (Blk.cells (lblL hi) (nat_lit 44) Mode.fix)) Trie.leaf Trie.leaf)
            (Trie.node (some (Blk.own (nat_lit 0) (nat_lit 3))) Trie.leaf Trie.leaf))))
      (fun (i k : Nat) => i + k = List.length xs) (List.length xs) (0 : Nat) fun (i18 s18 : Nat) (j18 : Nat → Value) =>
      Adv.split (20 : Nat)
        (Adv.chk (34 : Nat) none
          (Adv.chk (35 : Nat) (some (Value.agg (Array.mk (lblL (List.getD xs s18 default))))) (Adv.bors (36 : Nat) (inL (List.getD xs s18 default) lo hi) (Adv.chk (41 : Nat) none Adv.nil) Adv.nil)))
        Adv.nil))) (by kernel_rfl) (by kernel_rfl) (p := CallK Try.prog (nat_lit 94)
    [Value.iface (nat_lit 1000001)
        (Value.tuple
          (Array.mk
            [Value.int IntKind.i64 (0 : Int),
              Value.agg
                (Array.mk
                  [Value.iface (nat_lit 1000000) (Value.tuple (Array.mk [Value.int IntKind.i64 (↑(List.length xs) : Int), Value.agg (Array.mk (lblsL xs))])),
                    Value.iface (nat_lit 1000004) (Value.tuple (Array.mk [Value.agg (Array.mk (lblKeys xs)), Value.agg (Array.mk (nums (List.length xs)))]))])]))]
    (Value.int IntKind.i64 (↑(List.length xs) : Int)) ∧
  Weak Try.prog
      [Value.iface (nat_lit 1000001)
          (Value.tuple
            (Array.mk
              [Value.int IntKind.i64 (0 : Int),
                Value.agg
                  (Array.mk
                    [Value.iface (nat_lit 1000000) (Value.tuple (Array.mk [Value.int IntKind.i64 (↑(List.length xs) : Int), Value.agg (Array.mk (lblsL xs))])),
                      Value.iface (nat_lit 1000004) (Value.tuple (Array.mk [Value.agg (Array.mk (lblKeys xs)), Value.agg (Array.mk (nums (List.length xs)))]))])])),
        Value.func (Fn.func (nat_lit 116)) (Array.mk []) (Array.mk [Value.pointer (some (Addr.mk (nat_lit 0) (nat_lit 0) none)), Value.pointer (some (Addr.mk (nat_lit 1) (nat_lit 0) none))]),
        Value.tuple (Array.mk []), Value.tuple (Array.mk []), Value.slice none (nat_lit 0) (nat_lit 0), Value.slice none (nat_lit 0) (nat_lit 0), Value.tuple (Array.mk []),
        Value.iface (nat_lit 1000001)
          (Value.tuple
            (Array.mk
              [Value.int IntKind.i64 (0 : Int),
                Value.agg
                  (Array.mk
                    [Value.iface (nat_lit 1000000) (Value.tuple (Array.mk [Value.int IntKind.i64 (↑(List.length xs) : Int), Value.agg (Array.mk (lblsL xs))])),
                      Value.iface (nat_lit 1000004) (Value.tuple (Array.mk [Value.agg (Array.mk (lblKeys xs)), Value.agg (Array.mk (nums (List.length xs)))]))])])),
        Value.int IntKind.i64 (↑(List.length xs) : Int), Value.int IntKind.i64 (0 : Int), Value.tuple (Array.mk []), Value.tuple (Array.mk []), Value.tuple (Array.mk []), Value.tuple (Array.mk []),
        Value.tuple (Array.mk []), Value.tuple (Array.mk []), Value.tuple (Array.mk []), Value.tuple (Array.mk []), Value.tuple (Array.mk []), Value.tuple (Array.mk []), Value.tuple (Array.mk []),
        Value.tuple (Array.mk []), Value.tuple (Array.mk []), Value.tuple (Array.mk []), Value.tuple (Array.mk []), Value.tuple (Array.mk []), Value.tuple (Array.mk [])]
      (Heap.mk (nat_lit 2) (Trie.node (some (Blk.cells (lblL lo) (nat_lit 44) Mode.fix)) (Trie.node (some (Blk.cells (lblL hi) (nat_lit 44) Mode.fix)) Trie.leaf Trie.leaf) Trie.leaf))
      [Value.iface (nat_lit 1000001)
          (Value.tuple
            (Array.mk
              [Value.int IntKind.i64 (0 : Int),
                Value.agg
                  (Array.mk
                    [Value.iface (nat_lit 1000000) (Value.tuple (Array.mk [Value.int IntKind.i64 (↑(List.length xs) : Int), Value.agg (Array.mk (lblsL xs))])),
                      Value.iface (nat_lit 1000004) (Value.tuple (Array.mk [Value.agg (Array.mk (lblKeys xs)), Value.agg (Array.mk (nums (List.length xs)))]))])])),
        Value.func (Fn.func (nat_lit 116)) (Array.mk []) (Array.mk [Value.pointer (some (Addr.mk (nat_lit 0) (nat_lit 0) none)), Value.pointer (some (Addr.mk (nat_lit 1) (nat_lit 0) none))]),
        Value.tuple (Array.mk []), Value.tuple (Array.mk []), Value.slice none (nat_lit 0) (nat_lit 0),
        Value.iface (nat_lit 1000003) (Value.tuple (Array.mk [Value.int IntKind.i64 (2 : Int), Value.int IntKind.i64 (1 : Int), Value.int IntKind.i64 (0 : Int), Value.agg (Array.mk [])])),
        Value.tuple (Array.mk []),
        Value.iface (nat_lit 1000001)
          (Value.tuple
            (Array.mk
              [Value.int IntKind.i64 (0 : Int),
                Value.agg
                  (Array.mk
                    [Value.iface (nat_lit 1000000) (Value.tuple (Array.mk [Value.int IntKind.i64 (↑(List.length xs) : Int), Value.agg (Array.mk (lblsL xs))])),
                      Value.iface (nat_lit 1000004) (Value.tuple (Array.mk [Value.agg (Array.mk (lblKeys xs)), Value.agg (Array.mk (nums (List.length xs)))]))])])),
        Value.int IntKind.i64 (↑(List.length xs) : Int), Value.int IntKind.i64 (0 : Int), Value.tuple (Array.mk []), Value.tuple (Array.mk []), Value.tuple (Array.mk []), Value.tuple (Array.mk []),
        Value.tuple (Array.mk []), Value.tuple (Array.mk []), Value.tuple (Array.mk []), Value.tuple (Array.mk []), Value.tuple (Array.mk []), Value.tuple (Array.mk []), Value.tuple (Array.mk []),
        Value.tuple (Array.mk []), Value.tuple (Array.mk []), Value.tuple (Array.mk []), Value.tuple (Array.mk []), Value.tuple (Array.mk []), Value.tuple (Array.mk [])]
      (Heap.mk (nat_lit 3)
        (Trie.node (some (Blk.cells (lblL lo) (nat_lit 44) Mode.fix)) (Trie.node (some (Blk.cells (lblL hi) (nat_lit 44) Mode.fix)) Trie.leaf Trie.leaf)
          (Trie.node (some (Blk.own (nat_lit 0) (nat_lit 3))) Trie.leaf Trie.leaf))) ∧
    (List.length xs + (0 : Nat) = List.length xs ∧
        (Value.int IntKind.i64 (0 : Int) = Value.int IntKind.i64 (0 : Int) ∧
            Value.iface (nat_lit 1000003) (Value.tuple (Array.mk [Value.int IntKind.i64 (2 : Int), Value.int IntKind.i64 (1 : Int), Value.int IntKind.i64 (0 : Int), Value.agg (Array.mk [])])) =
              Value.iface (nat_lit 1000003) (Value.tuple (Array.mk [Value.int IntKind.i64 (2 : Int), Value.int IntKind.i64 (1 : Int), Value.int IntKind.i64 (0 : Int), Value.agg (Array.mk [])]))) ∧
          Heap.mk (nat_lit 3)
              (Trie.node (some (Blk.cells (lblL lo) (nat_lit 44) Mode.fix)) (Trie.node (some (Blk.cells (lblL hi) (nat_lit 44) Mode.fix)) Trie.leaf Trie.leaf)
                (Trie.node (some (Blk.own (nat_lit 0) (nat_lit 3))) Trie.leaf Trie.leaf)) =
            Heap.mk (nat_lit 3)
              (Trie.node (some (Blk.cells (lblL lo) (nat_lit 44) Mode.fix)) (Trie.node (some (Blk.cells (lblL hi) (nat_lit 44) Mode.fix)) Trie.leaf Trie.leaf)
                (Trie.node (some (Blk.own (nat_lit 0) (nat_lit 3))) Trie.leaf Trie.leaf))) ∧
      ∀ (i18 s18 : Nat) (j18 : Nat → Value),
        i18 + s18 = List.length xs →
          (decide ((↑s18 : Int) < (↑(List.length xs) : Int)) = true →
              ((0 : Int) ≤ (↑s18 : Int) ∧ (↑s18 : Int) < (↑(List.length xs) : Int)) ∧
                Ask.holds Try.prog (Ask.part (Array.toList (Array.mk (lblsL xs))) (Int.toNat (↑(Int.toNat (↑s18 : Int) * nat_lit 31) : Int)) (nat_lit 31) (lblL (List.getD xs s18 default))) ∧
                  CallK Try.prog (nat_lit 116)
                      [Value.agg (Array.mk (lblL (List.getD xs s18 default))), Value.iface (nat_lit 1000001) (Value.tuple (Array.mk [Value.int IntKind.i64 (0 : Int), Value.agg (Array.mk (lblL lo))])),
                        Value.iface (nat_lit 1000001) (Value.tuple (Array.mk [Value.int IntKind.i64 (0 : Int), Value.agg (Array.mk (lblL hi))]))]
                      (Value.bool (inL (List.getD xs s18 default) lo hi)) ∧
                    (inL (List.getD xs s18 default) lo hi = true →
                        (List.length (Array.toList (Array.mk (intsL (whB (fun (x : Lbl) => inL x lo hi) xs s18)))) = List.length (whB (fun (x : Lbl) => inL x lo hi) xs s18) ∧
                            ((↑(List.length (whB (fun (x : Lbl) => inL x lo hi) xs s18)) : Int) + (↑(nat_lit 1) : Int)) *
                                ((↑(TypeInfo.bytes (Tables.types (Program.toTables Try.prog))[(3 : Nat)]) : Int) + (1 : Int)) ≤
                              (1099511627776 : Int)) ∧
                          ∃ (i18' : Nat),
                            ∃ (s18' : Nat),
                              i18' < i18 ∧
                                i18' + s18' = List.length xs ∧
                                  (Value.int IntKind.i64 (IntKind.wrap IntKind.i64 ((↑s18 : Int) + (1 : Int))) = Value.int IntKind.i64 (↑s18' : Int) ∧
                                      Value.iface (nat_lit 1000003)
                                          (Value.tuple
                                            (Array.mk
                                              [Value.int IntKind.i64 (2 : Int), Value.int IntKind.i64 (1 : Int),
                                                Value.int IntKind.i64 ((↑(List.length (whB (fun (x : Lbl) => inL x lo hi) xs s18)) : Int) + (↑(nat_lit 1) : Int)),
                                                Value.agg
                                                  (Array.mk
                                                    (Array.toList (Array.mk (intsL (whB (fun (x : Lbl) => inL x lo hi) xs s18))) ++
                                                      List.take (nat_lit 1 * Int.toNat (1 : Int)) (List.drop (nat_lit 0) [Value.int IntKind.i64 (↑s18 : Int)])))])) =
                                        Value.iface (nat_lit 1000003)
                                          (Value.tuple
                                            (Array.mk
                                              [Value.int IntKind.i64 (2 : Int), Value.int IntKind.i64 (1 : Int),
                                                Value.int IntKind.i64 (↑(List.length (whB (fun (x : Lbl) => inL x lo hi) xs s18')) : Int),
                                                Value.agg (Array.mk (intsL (whB (fun (x : Lbl) => inL x lo hi) xs s18')))]))) ∧
                                    (some
                                            (Blk.own
                                              (List.length (whB (fun (x : Lbl) => inL x lo hi) xs s18) +
                                                List.length (List.take (nat_lit 1 * Int.toNat (1 : Int)) (List.drop (nat_lit 0) [Value.int IntKind.i64 (↑s18 : Int)])))
                                              (nat_lit 3)) =
                                          some (Blk.own (List.length (whB (fun (x : Lbl) => inL x lo hi) xs s18')) (nat_lit 3)) ∧
                                        some (Blk.cells (lblL hi) (nat_lit 44) Mode.fix) = some (Blk.cells (lblL hi) (nat_lit 44) Mode.fix) ∧
                                          some (Blk.cells (lblL lo) (nat_lit 44) Mode.fix) = some (Blk.cells (lblL lo) (nat_lit 44) Mode.fix) ∧ True) ∧
                                      true = true ∧ true = true ∧ true = true ∧ True) ∧
                      (inL (List.getD xs s18 default) lo hi = false →
                        ∃ (i18' : Nat),
                          ∃ (s18' : Nat),
                            i18' < i18 ∧
                              i18' + s18' = List.length xs ∧
                                (Value.int IntKind.i64 (IntKind.wrap IntKind.i64 ((↑s18 : Int) + (1 : Int))) = Value.int IntKind.i64 (↑s18' : Int) ∧
                                    Value.iface (nat_lit 1000003)
                                        (Value.tuple
                                          (Array.mk
                                            [Value.int IntKind.i64 (2 : Int), Value.int IntKind.i64 (1 : Int), Value.int IntKind.i64 (↑(List.length (whB (fun (x : Lbl) => inL x lo hi) xs s18)) : Int),
                                              Value.agg (Array.mk (intsL (whB (fun (x : Lbl) => inL x lo hi) xs s18)))])) =
                                      Value.iface (nat_lit 1000003)
                                        (Value.tuple
                                          (Array.mk
                                            [Value.int IntKind.i64 (2 : Int), Value.int IntKind.i64 (1 : Int),
                                              Value.int IntKind.i64 (↑(List.length (whB (fun (x : Lbl) => inL x lo hi) xs s18')) : Int),
                                              Value.agg (Array.mk (intsL (whB (fun (x : Lbl) => inL x lo hi) xs s18')))]))) ∧
                                  (some (Blk.own (List.length (whB (fun (x : Lbl) => inL x lo hi) xs s18)) (nat_lit 3)) =
                                        some (Blk.own (List.length (whB (fun (x : Lbl) => inL x lo hi) xs s18')) (nat_lit 3)) ∧
                                      some (Blk.cells (lblL hi) (nat_lit 44) Mode.fix) = some (Blk.cells (lblL hi) (nat_lit 44) Mode.fix) ∧
                                        some (Blk.cells (lblL lo) (nat_lit 44) Mode.fix) = some (Blk.cells (lblL lo) (nat_lit 44) Mode.fix) ∧ True) ∧
                                    true = true ∧ true = true ∧ true = true ∧ True)) ∧
            (decide ((↑s18 : Int) < (↑(List.length xs) : Int)) = false →
              Ideal.Coe
                (Value.iface (nat_lit 1000003)
                  (Value.tuple
                    (Array.mk
                      [Value.int IntKind.i64 (2 : Int), Value.int IntKind.i64 (1 : Int), Value.int IntKind.i64 (↑(List.length (whB (fun (x : Lbl) => inL x lo hi) xs s18)) : Int),
                        Value.agg (Array.mk (intsL (whB (fun (x : Lbl) => inL x lo hi) xs s18)))])))
                (intsV (whB (fun (x : Lbl) => inL x lo hi) xs (List.length xs))))) (by kernel_rfl) (by
    refine ⟨tblLen_w _, Weak.own' 5 1 3 (by rfl) (by rfl) (by rfl), ⟨by omega, ⟨rfl, rfl⟩, rfl⟩, fun i k j q1 => ⟨fun h1 => ?_, fun h1 => ?_⟩⟩
    · have hk : k < xs.length := by have := of_decide_eq_true h1; omega
      refine ⟨⟨by omega, by omega⟩, lbls_part hk, within1_w _ _ _, fun h2 => ⟨⟨intsL_length _, ?_⟩, i - 1, k + 1, by omega, by omega, ⟨wrap_next k (by omega), (ints_round h2).1⟩, ⟨(ints_round (tok := 2) h2).2, rfl, rfl, trivial⟩, rfl, ⟨rfl, rfl, trivial⟩⟩, fun h2 => ⟨i - 1, k + 1, by omega, by omega, ⟨wrap_next k (by omega), by rw [whB_no h2]⟩, ⟨by rw [whB_no h2], rfl, rfl, trivial⟩, rfl, ⟨rfl, rfl, trivial⟩⟩⟩
      exact mul_room 1001 1000 (show ((whB (fun x => inL x lo hi) xs k).length : Int) + 1 ≤ 1001 by have := whB_len (fun x => inL x lo hi) xs k; omega) (by have := i64_bytes; omega) (by have := i64_bytes; omega) (by decide) (by decide)
    · have hk : k = xs.length := by have := of_decide_eq_false h1; omega
      subst hk
      exact Coe.os 2 1 _ _)
theorem refWithinL_w (xs : List Lbl) (lo hi : Lbl) (hl : xs.length ≤ 1000) (hx : ∀ x ∈ xs, CatsOK x.cats) (hlo : CatsOK lo.cats) (hhi : CatsOK hi.cats) : CallK Try.prog 25 [lblsV xs, lblV lo, lblV hi] (intsV (whB (fun x => inL x lo hi) xs xs.length)) :=
  CallK.coe progOK (pfs [76]) [7] 100 (Adv.weak (9 : Nat)
  [(nat_lit 7, Value.iface (nat_lit 1000003) (Value.tuple (Array.mk [Value.int IntKind.i64 (2 : Int), Value.int IntKind.i64 (1 : Int), Value.int IntKind.i64 (0 : Int), Value.agg (Array.mk [])])))]
  (Heap.mk (nat_lit 3)
    (Trie.node (some (Blk.cells (lblL lo) (nat_lit 44) Mode.fix)) (Trie.node (some (Blk.cells (lblL hi) (nat_lit 44) Mode.fix)) Trie.leaf Trie.leaf)
      (Trie.node (some (Blk.own (nat_lit 0) (nat_lit 3))) Trie.leaf Trie.leaf)))
  (Adv.loop (10 : Nat)
    (fun (k : Nat) =>
      [((8 : Nat), Value.int IntKind.i64 (↑k : Int)),
        ((7 : Nat), osl (2 : Nat) (1 : Nat) (↑(List.length (whB (fun (x : Lbl) => inL x lo hi) xs k)) : Int) (List.toArray (intsL (whB (fun (x : Lbl) => inL x lo hi) xs k))))])
    ((fun (h : Heap) (k : Nat) => Heap.set h (2 : Nat) (Blk.own (List.length (whB (fun (x : Lbl) => inL x lo hi) xs k)) (3 : TypeId)))
      (Heap.mk (nat_lit 3)
        (Trie.node (some (Blk.cells (lblL lo) (nat_lit 44) Mode.fix)) (Trie.node (some (Blk.cells (lblL hi) (nat_lit 44) Mode.fix)) Trie.leaf Trie.leaf)
          (Trie.node (some (Blk.own (nat_lit 0) (nat_lit 3))) Trie.leaf Trie.leaf))))
    (fun (i k : Nat) => i + k = List.length xs) (List.length xs) (0 : Nat) fun (i10 s10 : Nat) (j10 : Nat → Value) =>
    Adv.split (16 : Nat)
      (Adv.chk (22 : Nat) none
        (Adv.chk (23 : Nat) (some (Value.agg (Array.mk (lblL (List.getD xs s10 default)))))
          (Adv.purs (25 : Nat) (domL (List.getD xs s10 default) lo)
            (Adv.chk (30 : Nat) none
              (Adv.chk (31 : Nat) (some (Value.agg (Array.mk (lblL (List.getD xs s10 default))))) (Adv.purs (32 : Nat) (domL hi (List.getD xs s10 default)) (Adv.chk (38 : Nat) none Adv.nil) Adv.nil)))
            Adv.nil)))
      Adv.nil)) (by kernel_rfl) (by kernel_rfl) (p := Weak Try.prog
    [Value.iface (nat_lit 1000000) (Value.tuple (Array.mk [Value.int IntKind.i64 (↑(List.length xs) : Int), Value.agg (Array.mk (lblsL xs))])), Value.agg (Array.mk (lblL lo)),
      Value.agg (Array.mk (lblL hi)), Value.tuple (Array.mk []), Value.pointer (some (Addr.mk (nat_lit 0) (nat_lit 0) none)), Value.pointer (some (Addr.mk (nat_lit 1) (nat_lit 0) none)),
      Value.slice none (nat_lit 0) (nat_lit 0), Value.slice none (nat_lit 0) (nat_lit 0), Value.int IntKind.i64 (0 : Int), Value.tuple (Array.mk []), Value.tuple (Array.mk []),
      Value.tuple (Array.mk []), Value.tuple (Array.mk []), Value.tuple (Array.mk []), Value.tuple (Array.mk []), Value.tuple (Array.mk []), Value.tuple (Array.mk []), Value.tuple (Array.mk []),
      Value.tuple (Array.mk []), Value.tuple (Array.mk []), Value.tuple (Array.mk []), Value.tuple (Array.mk []), Value.tuple (Array.mk []), Value.tuple (Array.mk []), Value.tuple (Array.mk []),
      Value.tuple (Array.mk []), Value.tuple (Array.mk []), Value.tuple (Array.mk []), Value.tuple (Array.mk []), Value.tuple (Array.mk []), Value.tuple (Array.mk []), Value.tuple (Array.mk []),
      Value.tuple (Array.mk []), Value.tuple (Array.mk [])]
    (Heap.mk (nat_lit 2) (Trie.node (some (Blk.cells (lblL lo) (nat_lit 44) Mode.fix)) (Trie.node (some (Blk.cells (lblL hi) (nat_lit 44) Mode.fix)) Trie.leaf Trie.leaf) Trie.leaf))
    [Value.iface (nat_lit 1000000) (Value.tuple (Array.mk [Value.int IntKind.i64 (↑(List.length xs) : Int), Value.agg (Array.mk (lblsL xs))])), Value.agg (Array.mk (lblL lo)),
      Value.agg (Array.mk (lblL hi)), Value.tuple (Array.mk []), Value.pointer (some (Addr.mk (nat_lit 0) (nat_lit 0) none)), Value.pointer (some (Addr.mk (nat_lit 1) (nat_lit 0) none)),
      Value.slice none (nat_lit 0) (nat_lit 0),
      Value.iface (nat_lit 1000003) (Value.tuple (Array.mk [Value.int IntKind.i64 (2 : Int), Value.int IntKind.i64 (1 : Int), Value.int IntKind.i64 (0 : Int), Value.agg (Array.mk [])])),
      Value.int IntKind.i64 (0 : Int), Value.tuple (Array.mk []), Value.tuple (Array.mk []), Value.tuple (Array.mk []), Value.tuple (Array.mk []), Value.tuple (Array.mk []), Value.tuple (Array.mk []),
      Value.tuple (Array.mk []), Value.tuple (Array.mk []), Value.tuple (Array.mk []), Value.tuple (Array.mk []), Value.tuple (Array.mk []), Value.tuple (Array.mk []), Value.tuple (Array.mk []),
      Value.tuple (Array.mk []), Value.tuple (Array.mk []), Value.tuple (Array.mk []), Value.tuple (Array.mk []), Value.tuple (Array.mk []), Value.tuple (Array.mk []), Value.tuple (Array.mk []),
      Value.tuple (Array.mk []), Value.tuple (Array.mk []), Value.tuple (Array.mk []), Value.tuple (Array.mk []), Value.tuple (Array.mk [])]
    (Heap.mk (nat_lit 3)
      (Trie.node (some (Blk.cells (lblL lo) (nat_lit 44) Mode.fix)) (Trie.node (some (Blk.cells (lblL hi) (nat_lit 44) Mode.fix)) Trie.leaf Trie.leaf)
        (Trie.node (some (Blk.own (nat_lit 0) (nat_lit 3))) Trie.leaf Trie.leaf))) ∧
  (List.length xs + (0 : Nat) = List.length xs ∧
      (Value.int IntKind.i64 (0 : Int) = Value.int IntKind.i64 (0 : Int) ∧
          Value.iface (nat_lit 1000003) (Value.tuple (Array.mk [Value.int IntKind.i64 (2 : Int), Value.int IntKind.i64 (1 : Int), Value.int IntKind.i64 (0 : Int), Value.agg (Array.mk [])])) =
            Value.iface (nat_lit 1000003) (Value.tuple (Array.mk [Value.int IntKind.i64 (2 : Int), Value.int IntKind.i64 (1 : Int), Value.int IntKind.i64 (0 : Int), Value.agg (Array.mk [])]))) ∧
        Heap.mk (nat_lit 3)
            (Trie.node (some (Blk.cells (lblL lo) (nat_lit 44) Mode.fix)) (Trie.node (some (Blk.cells (lblL hi) (nat_lit 44) Mode.fix)) Trie.leaf Trie.leaf)
              (Trie.node (some (Blk.own (nat_lit 0) (nat_lit 3))) Trie.leaf Trie.leaf)) =
          Heap.mk (nat_lit 3)
            (Trie.node (some (Blk.cells (lblL lo) (nat_lit 44) Mode.fix)) (Trie.node (some (Blk.cells (lblL hi) (nat_lit 44) Mode.fix)) Trie.leaf Trie.leaf)
              (Trie.node (some (Blk.own (nat_lit 0) (nat_lit 3))) Trie.leaf Trie.leaf))) ∧
    ∀ (i10 s10 : Nat) (j10 : Nat → Value),
      i10 + s10 = List.length xs →
        (decide ((↑s10 : Int) < (↑(List.length xs) : Int)) = true →
            ((0 : Int) ≤ (↑s10 : Int) ∧ (↑s10 : Int) < (↑(List.length xs) : Int)) ∧
              Ask.holds Try.prog (Ask.part (Array.toList (Array.mk (lblsL xs))) (Int.toNat (↑(Int.toNat (↑s10 : Int) * nat_lit 31) : Int)) (nat_lit 31) (lblL (List.getD xs s10 default))) ∧
                CallK Try.prog (nat_lit 76) [Value.agg (Array.mk (lblL (List.getD xs s10 default))), Value.agg (Array.mk (lblL lo))] (Value.bool (domL (List.getD xs s10 default) lo)) ∧
                  (domL (List.getD xs s10 default) lo = true →
                      ((0 : Int) ≤ (↑s10 : Int) ∧ (↑s10 : Int) < (↑(List.length xs) : Int)) ∧
                        Ask.holds Try.prog (Ask.part (Array.toList (Array.mk (lblsL xs))) (Int.toNat (↑(Int.toNat (↑s10 : Int) * nat_lit 31) : Int)) (nat_lit 31) (lblL (List.getD xs s10 default))) ∧
                          CallK Try.prog (nat_lit 76) [Value.agg (Array.mk (lblL hi)), Value.agg (Array.mk (lblL (List.getD xs s10 default)))] (Value.bool (domL hi (List.getD xs s10 default))) ∧
                            (domL hi (List.getD xs s10 default) = true →
                                (List.length (Array.toList (Array.mk (intsL (whB (fun (x : Lbl) => inL x lo hi) xs s10)))) = List.length (whB (fun (x : Lbl) => inL x lo hi) xs s10) ∧
                                    ((↑(List.length (whB (fun (x : Lbl) => inL x lo hi) xs s10)) : Int) + (↑(nat_lit 1) : Int)) *
                                        ((↑(TypeInfo.bytes (Tables.types (Program.toTables Try.prog))[(3 : Nat)]) : Int) + (1 : Int)) ≤
                                      (1099511627776 : Int)) ∧
                                  ∃ (i10' : Nat),
                                    ∃ (s10' : Nat),
                                      i10' < i10 ∧
                                        i10' + s10' = List.length xs ∧
                                          (Value.int IntKind.i64 (IntKind.wrap IntKind.i64 ((↑s10 : Int) + (1 : Int))) = Value.int IntKind.i64 (↑s10' : Int) ∧
                                              Value.iface (nat_lit 1000003)
                                                  (Value.tuple
                                                    (Array.mk
                                                      [Value.int IntKind.i64 (2 : Int), Value.int IntKind.i64 (1 : Int),
                                                        Value.int IntKind.i64 ((↑(List.length (whB (fun (x : Lbl) => inL x lo hi) xs s10)) : Int) + (↑(nat_lit 1) : Int)),
                                                        Value.agg
                                                          (Array.mk
                                                            (Array.toList (Array.mk (intsL (whB (fun (x : Lbl) => inL x lo hi) xs s10))) ++
                                                              List.take (nat_lit 1 * Int.toNat (1 : Int)) (List.drop (nat_lit 0) [Value.int IntKind.i64 (↑s10 : Int)])))])) =
                                                Value.iface (nat_lit 1000003)
                                                  (Value.tuple
                                                    (Array.mk
                                                      [Value.int IntKind.i64 (2 : Int), Value.int IntKind.i64 (1 : Int),
                                                        Value.int IntKind.i64 (↑(List.length (whB (fun (x : Lbl) => inL x lo hi) xs s10')) : Int),
                                                        Value.agg (Array.mk (intsL (whB (fun (x : Lbl) => inL x lo hi) xs s10')))]))) ∧
                                            (some
                                                    (Blk.own
                                                      (List.length (whB (fun (x : Lbl) => inL x lo hi) xs s10) +
                                                        List.length (List.take (nat_lit 1 * Int.toNat (1 : Int)) (List.drop (nat_lit 0) [Value.int IntKind.i64 (↑s10 : Int)])))
                                                      (nat_lit 3)) =
                                                  some (Blk.own (List.length (whB (fun (x : Lbl) => inL x lo hi) xs s10')) (nat_lit 3)) ∧
                                                some (Blk.cells (lblL hi) (nat_lit 44) Mode.fix) = some (Blk.cells (lblL hi) (nat_lit 44) Mode.fix) ∧
                                                  some (Blk.cells (lblL lo) (nat_lit 44) Mode.fix) = some (Blk.cells (lblL lo) (nat_lit 44) Mode.fix) ∧ True) ∧
                                              true = true ∧ true = true ∧ true = true ∧ True) ∧
                              (domL hi (List.getD xs s10 default) = false →
                                ∃ (i10' : Nat),
                                  ∃ (s10' : Nat),
                                    i10' < i10 ∧
                                      i10' + s10' = List.length xs ∧
                                        (Value.int IntKind.i64 (IntKind.wrap IntKind.i64 ((↑s10 : Int) + (1 : Int))) = Value.int IntKind.i64 (↑s10' : Int) ∧
                                            Value.iface (nat_lit 1000003)
                                                (Value.tuple
                                                  (Array.mk
                                                    [Value.int IntKind.i64 (2 : Int), Value.int IntKind.i64 (1 : Int),
                                                      Value.int IntKind.i64 (↑(List.length (whB (fun (x : Lbl) => inL x lo hi) xs s10)) : Int),
                                                      Value.agg (Array.mk (intsL (whB (fun (x : Lbl) => inL x lo hi) xs s10)))])) =
                                              Value.iface (nat_lit 1000003)
                                                (Value.tuple
                                                  (Array.mk
                                                    [Value.int IntKind.i64 (2 : Int), Value.int IntKind.i64 (1 : Int),
                                                      Value.int IntKind.i64 (↑(List.length (whB (fun (x : Lbl) => inL x lo hi) xs s10')) : Int),
                                                      Value.agg (Array.mk (intsL (whB (fun (x : Lbl) => inL x lo hi) xs s10')))]))) ∧
                                          (some (Blk.own (List.length (whB (fun (x : Lbl) => inL x lo hi) xs s10)) (nat_lit 3)) =
                                                some (Blk.own (List.length (whB (fun (x : Lbl) => inL x lo hi) xs s10')) (nat_lit 3)) ∧
                                              some (Blk.cells (lblL hi) (nat_lit 44) Mode.fix) = some (Blk.cells (lblL hi) (nat_lit 44) Mode.fix) ∧
                                                some (Blk.cells (lblL lo) (nat_lit 44) Mode.fix) = some (Blk.cells (lblL lo) (nat_lit 44) Mode.fix) ∧ True) ∧
                                            true = true ∧ true = true ∧ true = true ∧ True)) ∧
                    (domL (List.getD xs s10 default) lo = false →
                      ∃ (i10' : Nat),
                        ∃ (s10' : Nat),
                          i10' < i10 ∧
                            i10' + s10' = List.length xs ∧
                              (Value.int IntKind.i64 (IntKind.wrap IntKind.i64 ((↑s10 : Int) + (1 : Int))) = Value.int IntKind.i64 (↑s10' : Int) ∧
                                  Value.iface (nat_lit 1000003)
                                      (Value.tuple
                                        (Array.mk
                                          [Value.int IntKind.i64 (2 : Int), Value.int IntKind.i64 (1 : Int), Value.int IntKind.i64 (↑(List.length (whB (fun (x : Lbl) => inL x lo hi) xs s10)) : Int),
                                            Value.agg (Array.mk (intsL (whB (fun (x : Lbl) => inL x lo hi) xs s10)))])) =
                                    Value.iface (nat_lit 1000003)
                                      (Value.tuple
                                        (Array.mk
                                          [Value.int IntKind.i64 (2 : Int), Value.int IntKind.i64 (1 : Int), Value.int IntKind.i64 (↑(List.length (whB (fun (x : Lbl) => inL x lo hi) xs s10')) : Int),
                                            Value.agg (Array.mk (intsL (whB (fun (x : Lbl) => inL x lo hi) xs s10')))]))) ∧
                                (some (Blk.own (List.length (whB (fun (x : Lbl) => inL x lo hi) xs s10)) (nat_lit 3)) =
                                      some (Blk.own (List.length (whB (fun (x : Lbl) => inL x lo hi) xs s10')) (nat_lit 3)) ∧
                                    some (Blk.cells (lblL hi) (nat_lit 44) Mode.fix) = some (Blk.cells (lblL hi) (nat_lit 44) Mode.fix) ∧
                                      some (Blk.cells (lblL lo) (nat_lit 44) Mode.fix) = some (Blk.cells (lblL lo) (nat_lit 44) Mode.fix) ∧ True) ∧
                                  true = true ∧ true = true ∧ true = true ∧ True)) ∧
          (decide ((↑s10 : Int) < (↑(List.length xs) : Int)) = false →
            Ideal.Coe
              (Value.iface (nat_lit 1000003)
                (Value.tuple
                  (Array.mk
                    [Value.int IntKind.i64 (2 : Int), Value.int IntKind.i64 (1 : Int), Value.int IntKind.i64 (↑(List.length (whB (fun (x : Lbl) => inL x lo hi) xs s10)) : Int),
                      Value.agg (Array.mk (intsL (whB (fun (x : Lbl) => inL x lo hi) xs s10)))])))
              (intsV (whB (fun (x : Lbl) => inL x lo hi) xs (List.length xs))))) (by kernel_rfl) (by
    have gi : ∀ {k : Nat}, k < xs.length → CatsOK (xs.getD k default).cats := fun hk => hx _ (getD_mem hk)
    refine ⟨Weak.own' 7 1 3 (by rfl) (by rfl) (by rfl), ⟨by omega, ⟨rfl, rfl⟩, rfl⟩, fun i k j q1 => ⟨fun h1 => ?_, fun h1 => ?_⟩⟩
    · have hk : k < xs.length := by have := of_decide_eq_true h1; omega
      have no : inL (xs.getD k default) lo hi = false → ∃ i' s', i' < i ∧ i' + s' = xs.length ∧ (Value.int .i64 (IntKind.wrap .i64 ((k : Int) + 1)) = .int .i64 (s' : Nat) ∧
          osl 2 1 (whB (fun x => inL x lo hi) xs k).length (intsL (whB (fun x => inL x lo hi) xs k)).toArray = osl 2 1 (whB (fun x => inL x lo hi) xs s').length (intsL (whB (fun x => inL x lo hi) xs s')).toArray) ∧
          (some (Blk.own (whB (fun x => inL x lo hi) xs k).length 3) = some (Blk.own (whB (fun x => inL x lo hi) xs s').length 3) ∧ some (Blk.cells (lblL hi) 44 .fix) = some (Blk.cells (lblL hi) 44 .fix) ∧ some (Blk.cells (lblL lo) 44 .fix) = some (Blk.cells (lblL lo) 44 .fix) ∧ True) ∧ true = true ∧ true = true ∧ true = true ∧ True := fun h2 =>
        ⟨i - 1, k + 1, by omega, by omega, ⟨wrap_next k (by omega), by rw [whB_no h2]⟩, ⟨by rw [whB_no h2], rfl, rfl, trivial⟩, rfl, rfl, rfl, trivial⟩
      refine ⟨⟨by omega, by omega⟩, lbls_part hk, refDom_w _ _ (gi hk) hlo, fun h2 => ⟨⟨by omega, by omega⟩, lbls_part hk, refDom_w _ _ hhi (gi hk), fun h3 => ?_, fun h3 => no (by unfold inL; rw [h2, h3]; rfl)⟩, fun h2 => no (by unfold inL; rw [h2]; rfl)⟩
      have h4 : inL (xs.getD k default) lo hi = true := by unfold inL; rw [h2, h3]; rfl
      refine ⟨⟨intsL_length _, ?_⟩, i - 1, k + 1, by omega, by omega, ⟨wrap_next k (by omega), (ints_round (p := fun x => inL x lo hi) h4).1⟩, ⟨(ints_round (tok := 2) (p := fun x => inL x lo hi) h4).2, rfl, rfl, trivial⟩, rfl, ⟨rfl, rfl, trivial⟩⟩
      exact mul_room 1001 1000 (show ((whB (fun x => inL x lo hi) xs k).length : Int) + 1 ≤ 1001 by have := whB_len (fun x => inL x lo hi) xs k; omega) (by have := i64_bytes; omega) (by have := i64_bytes; omega) (by decide) (by decide)
    · have hk : k = xs.length := by have := of_decide_eq_false h1; omega
      subst hk
      exact Coe.os 2 1 _ _)
theorem ints_part {l : List Nat} {k : Nat} (hk : k < l.length) {o : Nat} (ho : o = k * 1 + 0) : (Ask.part (intsL l) o 1 [.int .i64 (l.getD k 0 : Nat)]).holds Try.prog := by
  subst ho; exact cellsOf_part (P := Try.prog) (f := int1) int1_length 0 hk 0 1 (by omega) _ rfl
theorem ints_w (l : List Nat) (hl : l.length ≤ 1000) : CallK Try.prog 24 [intsV l, intsV l] (.bool true) :=
  CallK.via progOK (pfs []) [] 100 (Adv.split (8 : Nat) Adv.nil
  (Adv.loop (13 : Nat) (fun (k : Nat) => [((5 : Nat), Value.int IntKind.i64 (↑k : Int))]) ((fun (h : Heap) (x : Nat) => h) (Heap.mk (nat_lit 0) Trie.leaf)) (fun (i k : Nat) => i + k = List.length l)
    (List.length l) (0 : Nat) fun (i13 s13 : Nat) (j13 : Nat → Value) =>
    Adv.split (19 : Nat)
      (Adv.chk (25 : Nat) none
        (Adv.chk (26 : Nat) (some (Value.int IntKind.i64 (↑(List.getD l s13 (0 : Nat)) : Int)))
          (Adv.chk (29 : Nat) none (Adv.chk (30 : Nat) (some (Value.int IntKind.i64 (↑(List.getD l s13 (0 : Nat)) : Int))) (Adv.split (31 : Nat) Adv.nil Adv.nil)))))
      Adv.nil)) (by kernel_rfl) (by kernel_rfl) (p := (((↑(List.length l) : Int) != (↑(List.length l) : Int)) = true → Value.bool false = Value.bool true) ∧
  (((↑(List.length l) : Int) != (↑(List.length l) : Int)) = false →
    (List.length l + (0 : Nat) = List.length l ∧ Value.int IntKind.i64 (0 : Int) = Value.int IntKind.i64 (0 : Int) ∧ Heap.mk (nat_lit 0) Trie.leaf = Heap.mk (nat_lit 0) Trie.leaf) ∧
      ∀ (i13 s13 : Nat) (j13 : Nat → Value),
        i13 + s13 = List.length l →
          (decide ((↑s13 : Int) < (↑(List.length l) : Int)) = true →
              ((0 : Int) ≤ (↑s13 : Int) ∧ (↑s13 : Int) < (↑(List.length l) : Int)) ∧
                Ask.holds Try.prog
                    (Ask.part (Array.toList (Array.mk (intsL l))) (Int.toNat (↑(Int.toNat (↑s13 : Int) * nat_lit 1) : Int)) (nat_lit 1) [Value.int IntKind.i64 (↑(List.getD l s13 (0 : Nat)) : Int)]) ∧
                  ((0 : Int) ≤ (↑s13 : Int) ∧ (↑s13 : Int) < (↑(List.length l) : Int)) ∧
                    Ask.holds Try.prog
                        (Ask.part (Array.toList (Array.mk (intsL l))) (Int.toNat (↑(Int.toNat (↑s13 : Int) * nat_lit 1) : Int)) (nat_lit 1)
                          [Value.int IntKind.i64 (↑(List.getD l s13 (0 : Nat)) : Int)]) ∧
                      (((↑(List.getD l s13 (0 : Nat)) : Int) != (↑(List.getD l s13 (0 : Nat)) : Int)) = true → Value.bool false = Value.bool true) ∧
                        (((↑(List.getD l s13 (0 : Nat)) : Int) != (↑(List.getD l s13 (0 : Nat)) : Int)) = false →
                          ∃ (i13' : Nat),
                            ∃ (s13' : Nat),
                              i13' < i13 ∧
                                i13' + s13' = List.length l ∧
                                  Value.int IntKind.i64 (IntKind.wrap IntKind.i64 ((↑s13 : Int) + (1 : Int))) = Value.int IntKind.i64 (↑s13' : Int) ∧ True ∧ true = true ∧ True)) ∧
            (decide ((↑s13 : Int) < (↑(List.length l) : Int)) = false → Value.bool true = Value.bool true))) (by kernel_rfl) (by
    refine ⟨fun h => by simp at h, fun _ => ⟨⟨by omega, rfl, rfl⟩, fun i k j q1 => ⟨fun h1 => ?_, fun _ => rfl⟩⟩⟩
    have hk : k < l.length := by have := of_decide_eq_true h1; omega
    exact ⟨⟨by omega, by omega⟩, ints_part hk rfl, ⟨by omega, by omega⟩, ints_part hk rfl, fun h => by simp at h, fun _ => ⟨i - 1, k + 1, by omega, by omega, wrap_next k (by omega), trivial, rfl, trivial⟩⟩)
theorem ownsSame_w (x : Face) (a : Int) : CallK Try.prog 75 [faceV x, vpt 0 (Array.mk [.int .u32 a])] (.bool (x.addr == a)) :=
  CallK.via progOK (pfs []) [] 100 (Adv.split (7 : Nat) Adv.nil Adv.nil) (by kernel_rfl) (by kernel_rfl) (p := ((Face.addr x == a) = true → Value.bool true = Value.bool (Face.addr x == a)) ∧ ((Face.addr x == a) = false → Value.bool false = Value.bool (Face.addr x == a))) (by kernel_rfl) (by
    exact ⟨fun h => by rw [h], fun h => by rw [h]⟩)
def ownB (c : Conf) (a : Int) : Int := idxB c.faces fun x => x.addr == a
theorem owns_w (c : Conf) (a : Int) (hl : c.faces.length ≤ 1099511627776) : CallK Try.prog 22 [confV c, .int .u32 a] (.int .i64 (ownB c a)) :=
  CallK.via progOK (pfs []) [] 100 (Adv.loop (16 : Nat) (fun (k : Nat) => [((8 : Nat), Value.int IntKind.i64 (↑k : Int))])
  ((fun (h : Heap) (x : Nat) => h)
    (Heap.mk (nat_lit 2) (Trie.node (some (Blk.cells (confL c) (nat_lit 31) Mode.fix)) (Trie.node (some (Blk.cells [Value.int IntKind.u32 a] (nat_lit 40) Mode.fix)) Trie.leaf Trie.leaf) Trie.leaf)))
  (fun (i k : Nat) => i + k = List.length (Conf.faces c) ∧ ∀ (j : Nat), j < k → (Face.addr (List.getD (Conf.faces c) j default) == a) = false) (List.length (Conf.faces c)) (0 : Nat)
  fun (i16 s16 : Nat) (j16 : Nat → Value) =>
  Adv.split (18 : Nat)
    (Adv.chk (29 : Nat) none
      (Adv.chk (30 : Nat) (some (Value.agg (Array.mk (faceL (List.getD (Conf.faces c) s16 default))))) (Adv.bors (31 : Nat) (Face.addr (List.getD (Conf.faces c) s16 default) == a) Adv.nil Adv.nil)))
    Adv.nil) (by kernel_rfl) (by kernel_rfl) (p := ((List.length (Conf.faces c) + (0 : Nat) = List.length (Conf.faces c) ∧ ∀ (j : Nat), j < (0 : Nat) → (Face.addr (List.getD (Conf.faces c) j default) == a) = false) ∧
    Value.int IntKind.i64 (0 : Int) = Value.int IntKind.i64 (0 : Int) ∧
      Heap.mk (nat_lit 2) (Trie.node (some (Blk.cells (confL c) (nat_lit 31) Mode.fix)) (Trie.node (some (Blk.cells [Value.int IntKind.u32 a] (nat_lit 40) Mode.fix)) Trie.leaf Trie.leaf) Trie.leaf) =
        Heap.mk (nat_lit 2)
          (Trie.node (some (Blk.cells (confL c) (nat_lit 31) Mode.fix)) (Trie.node (some (Blk.cells [Value.int IntKind.u32 a] (nat_lit 40) Mode.fix)) Trie.leaf Trie.leaf) Trie.leaf)) ∧
  ∀ (i16 s16 : Nat) (j16 : Nat → Value),
    (i16 + s16 = List.length (Conf.faces c) ∧ ∀ (j : Nat), j < s16 → (Face.addr (List.getD (Conf.faces c) j default) == a) = false) →
      (decide ((↑s16 : Int) < (↑(List.length (Conf.faces c)) : Int)) = true →
          ((0 : Int) ≤ (↑s16 : Int) ∧ (↑s16 : Int) < (↑(List.length (Conf.faces c)) : Int)) ∧
            Ask.holds Try.prog
                (Ask.part (Array.toList (Array.mk (facesL (Conf.faces c)))) (Int.toNat (↑(Int.toNat (↑s16 : Int) * nat_lit 97) : Int)) (nat_lit 97) (faceL (List.getD (Conf.faces c) s16 default))) ∧
              CallK Try.prog (nat_lit 75)
                  [Value.agg (Array.mk (faceL (List.getD (Conf.faces c) s16 default))),
                    Value.iface (nat_lit 1000001) (Value.tuple (Array.mk [Value.int IntKind.i64 (0 : Int), Value.agg (Array.mk [Value.int IntKind.u32 a])]))]
                  (Value.bool (Face.addr (List.getD (Conf.faces c) s16 default) == a)) ∧
                ((Face.addr (List.getD (Conf.faces c) s16 default) == a) = true → Value.int IntKind.i64 (↑s16 : Int) = Value.int IntKind.i64 (ownB c a)) ∧
                  ((Face.addr (List.getD (Conf.faces c) s16 default) == a) = false →
                    ∃ (i16' : Nat),
                      ∃ (s16' : Nat),
                        i16' < i16 ∧
                          (i16' + s16' = List.length (Conf.faces c) ∧ ∀ (j : Nat), j < s16' → (Face.addr (List.getD (Conf.faces c) j default) == a) = false) ∧
                            Value.int IntKind.i64 (IntKind.wrap IntKind.i64 ((↑s16 : Int) + (1 : Int))) = Value.int IntKind.i64 (↑s16' : Int) ∧
                              (some (Blk.cells [Value.int IntKind.u32 a] (nat_lit 40) Mode.fix) = some (Blk.cells [Value.int IntKind.u32 a] (nat_lit 40) Mode.fix) ∧
                                  some (Blk.cells (confL c) (nat_lit 31) Mode.fix) = some (Blk.cells (confL c) (nat_lit 31) Mode.fix) ∧ True) ∧
                                true = true ∧ true = true ∧ true = true ∧ True)) ∧
        (decide ((↑s16 : Int) < (↑(List.length (Conf.faces c)) : Int)) = false → Value.int IntKind.i64 (-1 : Int) = Value.int IntKind.i64 (ownB c a))) (by kernel_rfl) (by
    refine ⟨⟨⟨by omega, fun j hj => by omega⟩, rfl, rfl⟩, fun i k j ⟨q1, q2⟩ => ⟨fun h1 => ?_, fun h1 => ?_⟩⟩
    · have hk : k < c.faces.length := by have := of_decide_eq_true h1; omega
      exact ⟨⟨by omega, by omega⟩, faces_part hk 0 97 (by omega) rfl rfl, ownsSame_w _ _, fun h2 => congrArg (Value.int .i64) (idxB_some (d := default) hk h2 q2).symm, fun h2 => ⟨i - 1, k + 1, by omega, ⟨by omega, lt_next q2 h2⟩, wrap_next k (by omega), ⟨rfl, rfl, trivial⟩, rfl, ⟨rfl, rfl, trivial⟩⟩⟩
    · have hk : k = c.faces.length := by have := of_decide_eq_false h1; omega
      subst hk
      exact congrArg (Value.int .i64) (idxB_none (d := default) q2).symm)
/-- The labels within the range of an interface. -/
def labelsC (c : Conf) (i : Int) : List Nat := if (rightC c && (decide (0 ≤ i) && decide (i < c.faces.length))) = true then whB (fun x => inL x (c.faces.getD i.toNat default).lo (c.faces.getD i.toNat default).hi) c.labels c.labels.length else []
theorem labelsC_t {c : Conf} {i : Int} (h1 : rightC c = true) (h2 : 0 ≤ i) (h3 : i < c.faces.length) : labelsC c i = whB (fun x => inL x (c.faces.getD i.toNat default).lo (c.faces.getD i.toNat default).hi) c.labels c.labels.length := by
  unfold labelsC; rw [h1, decide_eq_true h2, decide_eq_true h3]; rfl
theorem labelsC_f {c : Conf} {i : Int} (h : (rightC c && (decide (0 ≤ i) && decide (i < c.faces.length))) = false) : labelsC c i = [] := by
  unfold labelsC; rw [h]; rfl
theorem nil_labels {c : Conf} {i : Int} (h : (rightC c && (decide (0 ≤ i) && decide (i < c.faces.length))) = false) : Coe (.slice none 0 0) (intsV (labelsC c i)) := by
  rw [labelsC_f h]; exact Coe.nil
theorem right_ok {c : Conf} (h : rightC c = true) : okT c.labels = true := by
  grind [rightC, checkR, okT]
theorem labels_w (c : Conf) (i : Int) (hw : ConfOK c) (hl : c.labels.length ≤ 1000) : CallK Try.prog 21 [confV c, .int .i64 i] (intsV (labelsC c i)) :=
  CallK.coe progOK (pfs []) [] 100 (Adv.purs (6 : Nat) (rightC c)
  (Adv.split (10 : Nat) Adv.nil
    (Adv.split (17 : Nat) Adv.nil
      (Adv.cas (23 : Nat) (okT (Conf.labels c))
        (Adv.pur (23 : Nat)
          (Value.tuple
            (Array.mk
              [Value.iface (nat_lit 1000001)
                  (Value.tuple
                    (Array.mk
                      [Value.int IntKind.i64 (0 : Int),
                        Value.agg
                          (Array.mk
                            [Value.iface (nat_lit 1000000) (Value.tuple (Array.mk [Value.int IntKind.i64 (↑(List.length (Conf.labels c)) : Int), Value.agg (Array.mk (lblsL (Conf.labels c)))])),
                              Value.iface (nat_lit 1000004) (Value.tuple (Array.mk [Value.agg (Array.mk (lblKeys (Conf.labels c))), Value.agg (Array.mk (nums (List.length (Conf.labels c))))]))])])),
                Value.int IntKind.i64 (↑(List.length (Conf.labels c)) : Int), Value.int IntKind.i64 (0 : Int)]))
          (Adv.chk (36 : Nat) none
            (Adv.chk (38 : Nat) (some (Value.agg (Array.mk (lblL (Face.lo (List.getD (Conf.faces c) (Int.toNat i) default))))))
              (Adv.chk (42 : Nat) none
                (Adv.chk (44 : Nat) (some (Value.agg (Array.mk (lblL (Face.hi (List.getD (Conf.faces c) (Int.toNat i) default))))))
                  (Adv.pur (45 : Nat)
                    (Value.iface (nat_lit 1000000)
                      (Value.tuple
                        (Array.mk
                          [Value.int IntKind.i64
                              (↑(List.length
                                    (whB (fun (x : Lbl) => inL x (Face.lo (List.getD (Conf.faces c) (Int.toNat i) default)) (Face.hi (List.getD (Conf.faces c) (Int.toNat i) default))) (Conf.labels c)
                                      (List.length (Conf.labels c)))) :
                                Int),
                            Value.agg
                              (Array.mk
                                (intsL
                                  (whB (fun (x : Lbl) => inL x (Face.lo (List.getD (Conf.faces c) (Int.toNat i) default)) (Face.hi (List.getD (Conf.faces c) (Int.toNat i) default))) (Conf.labels c)
                                    (List.length (Conf.labels c)))))])))
                    Adv.nil))))))
        (Adv.pur (23 : Nat) (Value.tuple (Array.mk [Value.pointer none, Value.int IntKind.i64 (Prod.fst (lblsChk (Conf.labels c))), Value.int IntKind.i64 (Prod.snd (lblsChk (Conf.labels c)))]))
          (Adv.chk (36 : Nat) none
            (Adv.chk (38 : Nat) (some (Value.agg (Array.mk (lblL (Face.lo (List.getD (Conf.faces c) (Int.toNat i) default))))))
              (Adv.chk (42 : Nat) none (Adv.chk (44 : Nat) (some (Value.agg (Array.mk (lblL (Face.hi (List.getD (Conf.faces c) (Int.toNat i) default)))))) Adv.nil))))))))
  Adv.nil) (by kernel_rfl) (by kernel_rfl) (p := CallK Try.prog (nat_lit 19) [Value.agg (Array.mk (confL c))] (Value.bool (rightC c)) ∧
  (rightC c = true →
      (decide (i < (0 : Int)) = true → Ideal.Coe (Value.slice none (nat_lit 0) (nat_lit 0)) (intsV (labelsC c i))) ∧
        (decide (i < (0 : Int)) = false →
          (decide (i ≥ (↑(List.length (Conf.faces c)) : Int)) = true → Ideal.Coe (Value.slice none (nat_lit 0) (nat_lit 0)) (intsV (labelsC c i))) ∧
            (decide (i ≥ (↑(List.length (Conf.faces c)) : Int)) = false →
              (okT (Conf.labels c) = true →
                  CallK Try.prog (nat_lit 72)
                      [Value.iface (nat_lit 1000000) (Value.tuple (Array.mk [Value.int IntKind.i64 (↑(List.length (Conf.labels c)) : Int), Value.agg (Array.mk (lblsL (Conf.labels c)))]))]
                      (Value.tuple
                        (Array.mk
                          [Value.iface (nat_lit 1000001)
                              (Value.tuple
                                (Array.mk
                                  [Value.int IntKind.i64 (0 : Int),
                                    Value.agg
                                      (Array.mk
                                        [Value.iface (nat_lit 1000000)
                                            (Value.tuple (Array.mk [Value.int IntKind.i64 (↑(List.length (Conf.labels c)) : Int), Value.agg (Array.mk (lblsL (Conf.labels c)))])),
                                          Value.iface (nat_lit 1000004)
                                            (Value.tuple (Array.mk [Value.agg (Array.mk (lblKeys (Conf.labels c))), Value.agg (Array.mk (nums (List.length (Conf.labels c))))]))])])),
                            Value.int IntKind.i64 (↑(List.length (Conf.labels c)) : Int), Value.int IntKind.i64 (0 : Int)])) ∧
                    ((0 : Int) ≤ i ∧ i < (↑(List.length (Conf.faces c)) : Int)) ∧
                      Ask.holds Try.prog
                          (Ask.part (Array.toList (Array.mk (facesL (Conf.faces c)))) (Int.toNat (↑(Int.toNat (↑(Int.toNat i * nat_lit 97) : Int) + nat_lit 4) : Int)) (nat_lit 31)
                            (lblL (Face.lo (List.getD (Conf.faces c) (Int.toNat i) default)))) ∧
                        ((0 : Int) ≤ i ∧ i < (↑(List.length (Conf.faces c)) : Int)) ∧
                          Ask.holds Try.prog
                              (Ask.part (Array.toList (Array.mk (facesL (Conf.faces c)))) (Int.toNat (↑(Int.toNat (↑(Int.toNat i * nat_lit 97) : Int) + nat_lit 35) : Int)) (nat_lit 31)
                                (lblL (Face.hi (List.getD (Conf.faces c) (Int.toNat i) default)))) ∧
                            CallK Try.prog (nat_lit 73)
                                [Value.iface (nat_lit 1000001)
                                    (Value.tuple
                                      (Array.mk
                                        [Value.int IntKind.i64 (0 : Int),
                                          Value.agg
                                            (Array.mk
                                              [Value.iface (nat_lit 1000000)
                                                  (Value.tuple (Array.mk [Value.int IntKind.i64 (↑(List.length (Conf.labels c)) : Int), Value.agg (Array.mk (lblsL (Conf.labels c)))])),
                                                Value.iface (nat_lit 1000004)
                                                  (Value.tuple (Array.mk [Value.agg (Array.mk (lblKeys (Conf.labels c))), Value.agg (Array.mk (nums (List.length (Conf.labels c))))]))])])),
                                  Value.agg (Array.mk (lblL (Face.lo (List.getD (Conf.faces c) (Int.toNat i) default)))),
                                  Value.agg (Array.mk (lblL (Face.hi (List.getD (Conf.faces c) (Int.toNat i) default))))]
                                (Value.iface (nat_lit 1000000)
                                  (Value.tuple
                                    (Array.mk
                                      [Value.int IntKind.i64
                                          (↑(List.length
                                                (whB (fun (x : Lbl) => inL x (Face.lo (List.getD (Conf.faces c) (Int.toNat i) default)) (Face.hi (List.getD (Conf.faces c) (Int.toNat i) default)))
                                                  (Conf.labels c) (List.length (Conf.labels c)))) :
                                            Int),
                                        Value.agg
                                          (Array.mk
                                            (intsL
                                              (whB (fun (x : Lbl) => inL x (Face.lo (List.getD (Conf.faces c) (Int.toNat i) default)) (Face.hi (List.getD (Conf.faces c) (Int.toNat i) default)))
                                                (Conf.labels c) (List.length (Conf.labels c)))))]))) ∧
                              Ideal.Coe
                                (Value.iface (nat_lit 1000000)
                                  (Value.tuple
                                    (Array.mk
                                      [Value.int IntKind.i64
                                          (↑(List.length
                                                (whB (fun (x : Lbl) => inL x (Face.lo (List.getD (Conf.faces c) (Int.toNat i) default)) (Face.hi (List.getD (Conf.faces c) (Int.toNat i) default)))
                                                  (Conf.labels c) (List.length (Conf.labels c)))) :
                                            Int),
                                        Value.agg
                                          (Array.mk
                                            (intsL
                                              (whB (fun (x : Lbl) => inL x (Face.lo (List.getD (Conf.faces c) (Int.toNat i) default)) (Face.hi (List.getD (Conf.faces c) (Int.toNat i) default)))
                                                (Conf.labels c) (List.length (Conf.labels c)))))])))
                                (intsV (labelsC c i))) ∧
                (okT (Conf.labels c) = false →
                  CallK Try.prog (nat_lit 72)
                      [Value.iface (nat_lit 1000000) (Value.tuple (Array.mk [Value.int IntKind.i64 (↑(List.length (Conf.labels c)) : Int), Value.agg (Array.mk (lblsL (Conf.labels c)))]))]
                      (Value.tuple (Array.mk [Value.pointer none, Value.int IntKind.i64 (Prod.fst (lblsChk (Conf.labels c))), Value.int IntKind.i64 (Prod.snd (lblsChk (Conf.labels c)))])) ∧
                    ((0 : Int) ≤ i ∧ i < (↑(List.length (Conf.faces c)) : Int)) ∧
                      Ask.holds Try.prog
                          (Ask.part (Array.toList (Array.mk (facesL (Conf.faces c)))) (Int.toNat (↑(Int.toNat (↑(Int.toNat i * nat_lit 97) : Int) + nat_lit 4) : Int)) (nat_lit 31)
                            (lblL (Face.lo (List.getD (Conf.faces c) (Int.toNat i) default)))) ∧
                        ((0 : Int) ≤ i ∧ i < (↑(List.length (Conf.faces c)) : Int)) ∧
                          Ask.holds Try.prog
                              (Ask.part (Array.toList (Array.mk (facesL (Conf.faces c)))) (Int.toNat (↑(Int.toNat (↑(Int.toNat i * nat_lit 97) : Int) + nat_lit 35) : Int)) (nat_lit 31)
                                (lblL (Face.hi (List.getD (Conf.faces c) (Int.toNat i) default)))) ∧
                            Ideal.Coe (Value.slice none (nat_lit 0) (nat_lit 0)) (intsV (labelsC c i)))))) ∧
    (rightC c = false → Ideal.Coe (Value.slice none (nat_lit 0) (nat_lit 0)) (intsV (labelsC c i)))) (by kernel_rfl) (by
    refine ⟨right17_w _ hw.len hw.addr, fun h1 => ⟨fun h2 => nil_labels ?_, fun h2 => ⟨fun h3 => nil_labels ?_, fun h3 => ⟨fun h4 => ?_, fun h4 => ?_⟩⟩⟩, fun h1 => nil_labels (by rw [h1]; rfl)⟩
    · have := of_decide_eq_true h2
      rw [decide_eq_false (by omega : ¬ 0 ≤ i), Bool.false_and, Bool.and_false]
    · have := of_decide_eq_true h3
      rw [decide_eq_false (by omega : ¬ i < c.faces.length), Bool.and_false, Bool.and_false]
    · have h2' := of_decide_eq_false h2
      have h3' := of_decide_eq_false h3
      refine ⟨tblNew_t _ hw.len.labels h4, ⟨by omega, by omega⟩, faces_part (by omega) 4 31 (by omega) rfl rfl, ⟨by omega, by omega⟩, faces_part (by omega) 35 31 (by omega) rfl rfl, tblWithin_w _ _ _ hl, ?_⟩
      rw [labelsC_t h1 (by omega) (by omega)]
      exact Coe.refl _
    · rw [right_ok h1] at h4; cases h4)
theorem ints2_w (l m : List Nat) (hl : l.length ≤ 1000) (h : m = l) : CallK Try.prog 24 [intsV l, intsV m] (.bool true) := by subst h; exact ints_w _ hl
end Go.Proofs.Ytepijhnfeafmaaa

end
