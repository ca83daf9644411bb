/- Closed runs in the kernel: the interpreter with all that it makes written out at once, so that nothing is reckoned twice. It answers as the interpreter does. Over any program. -/
import Derived.Test.YtepijhnfeafmaaaIFast
set_option linter.unusedVariables false
set_option linter.unusedSimpArgs false
namespace Go.Ideal
open Go.RowKit

section
variable {β : Type}

noncomputable def fBlk (b : Blk) (k : Blk → β) : β := match b with
  | .cells cs t m => fL (fV 1) cs fun cs => fN t fun t => match m with
    | .ro => k (.cells cs t .ro)
    | .fix => k (.cells cs t .fix)
    | .grow => k (.cells cs t .grow)
    | .dead => k (.cells cs t .dead)
  | .iter s pos => fS s fun s => fN pos fun pos => k (.iter s pos)
  | .own n t => fN n fun n => fN t fun t => k (.own n t)
  | .map ks vs => fL (fV 6) ks fun ks => fL (fV 6) vs fun vs => k (.map ks vs)
theorem fBlk_eq (b : Blk) (k : Blk → β) : fBlk b k = k b := by
  cases b with
  | cells cs t m => cases m <;> simp only [fBlk, fL_eq (fV_eq 1), fL_eq (fV_eq 6), fN_eq]
  | _ => simp only [fBlk, fL_eq (fV_eq 6), fN_eq, fS_eq]

/-- One place of the heap, written out. -/
noncomputable def fT (g : Blk → (Blk → β) → β) : Nat → Trie Blk → Nat → (Trie Blk → β) → β
  | 0, t, _, k => k t
  | _ + 1, .leaf, _, k => k .leaf
  | _ + 1, .node v l r, 0, k => fO g v fun v => k (.node v l r)
  | f + 1, .node v l r, n + 1, k => match Nat.beq (n % 2) 0 with
    | true => fN (n / 2) fun m => fT g f l m fun l => match v with
      | none => k (.node none l r)
      | some v => k (.node (some v) l r)
    | false => fN (n / 2) fun m => fT g f r m fun r => match v with
      | none => k (.node none l r)
      | some v => k (.node (some v) l r)
theorem fT_eq {g : Blk → (Blk → β) → β} (hg : ∀ b k, g b k = k b) : ∀ (f : Nat) (t : Trie Blk) (n : Nat) (k : Trie Blk → β), fT g f t n k = k t
  | 0, _, _, _ => rfl
  | f + 1, .leaf, n, k => by cases n <;> rfl
  | f + 1, .node v l r, 0, k => by simp only [fT, fO_eq hg]
  | f + 1, .node v l r, n + 1, k => by
    have ih : ∀ t n (k : Trie Blk → β), fT g f t n k = k t := fT_eq hg f
    cases h : Nat.beq (n % 2) 0 <;> cases v <;> simp only [fT, h, fN_eq, ih]
/-- A block that is as it should be. -/
def fBlk0 (b : Blk) (k : Blk → β) : β := match b with
  | .cells cs t m => k (.cells cs t m)
  | .iter s pos => k (.iter s pos)
  | .own n t => k (.own n t)
  | .map ks vs => k (.map ks vs)
theorem fBlk0_eq (b : Blk) (k : Blk → β) : fBlk0 b k = k b := by cases b <;> rfl
noncomputable def fH (i : Nat) (h : Heap) (k : Heap → β) : β := match h with
  | ⟨next, tr⟩ => fN next fun next => fT fBlk 64 tr i fun tr => k ⟨next, tr⟩
theorem fH_eq (i : Nat) (h : Heap) (k : Heap → β) : fH i h k = k h := by
  obtain ⟨next, tr⟩ := h
  simp only [fH, fN_eq, fT_eq fBlk_eq]
noncomputable def fH0 (i : Nat) (h : Heap) (k : Heap → β) : β := match h with
  | ⟨next, tr⟩ => fN next fun next => fT fBlk0 64 tr i fun tr => k ⟨next, tr⟩
theorem fH0_eq (i : Nat) (h : Heap) (k : Heap → β) : fH0 i h k = k h := by
  obtain ⟨next, tr⟩ := h
  simp only [fH0, fN_eq, fT_eq fBlk0_eq]
noncomputable def fSet (l : List Value) (i : Nat) (v : Value) (k : List Value → β) : β :=
  @List.rec Value (fun _ => Nat → (List Value → β) → β) (fun _ k => k []) (fun a l ih i k => @Nat.rec (fun _ => β) (k (v :: l)) (fun i _ => ih i fun l => k (a :: l)) i) l i k
theorem fSet_eq : ∀ (l : List Value) (i : Nat) (v : Value) (k : List Value → β), fSet l i v k = k (l.set i v)
  | [], _, _, _ => rfl
  | _ :: _, 0, _, _ => rfl
  | a :: l, i + 1, v, k => by
    have ih := fSet_eq l i v
    simp only [fSet] at ih ⊢
    simp only [ih, List.set_cons_succ]
noncomputable def fPut (ts : List Value) (dst : Option Tmp) (v : Value) (k : List Value → β) : β := match dst with
  | some d => fSet ts d v k
  | none => k ts
theorem fPut_eq (ts : List Value) (dst : Option Tmp) (v : Value) (k : List Value → β) : fPut ts dst v k = k (putI ts dst v) := by cases dst <;> simp only [fPut, putI, fSet_eq]
end

/-- The block that an operation may write. -/
def blkOf (v : Value) : Option Nat := match v with
  | .pointer (some ⟨i, _, _⟩) => some i
  | .slice (some ⟨i, _, _⟩) _ _ => some i
  | .map (some i) => some i
  | .iface 1000003 (.tuple ⟨.int _ tok :: _⟩) => some tok.toNat
  | _ => none
noncomputable def wrOf (o : Op) (ts : List Value) : Option Nat := match o with
  | .store _ a _ => blkOf (qEv ts a)
  | .mapUpdate _ m _ _ | .insert _ m _ _ => blkOf (qEv ts m)
  | .next it _ => blkOf (qEv ts it)
  | .call { args := ⟨x :: _⟩, .. } => blkOf (qEv ts x)
  | _ => none
/-- May it change the heap? 0: no, 1: cells that are there, 2: anyhow. -/
def mayWr (o : Op) : Nat := match o with
  | .move _ | .assign _ | .pick _ _ _ | .load _ _ | .nilCheck _ | .binOp _ _ _ _ _ | .unOp _ _ _ | .fieldAddr _ _ _ | .indexAddr _ _ _
  | .field _ _ _ | .index _ _ _ | .extract _ _ | .makeInterface _ _ | .makeFunc _ _ _ | .slice _ _ _ _ _ => 0
  | .call { callee := .value _, .. } => 0
  | .store _ _ _ => 1
  | _ => 2

/-- The heap behind an operation, written out where it may have been written. -/
noncomputable def fHeap {β : Type} (o : Op) (ts : List Value) (h : Heap) (k : Heap → β) : β := match mayWr o with
  | 0 => k h
  | 1 => match wrOf o ts with
    | some i => fN i fun i => fH0 i h k
    | none => k h
  | _ => match wrOf o ts with
    | some i => fN i fun i => fH i h fun h => match h with
      | ⟨next, tr⟩ => fH (next - 1) ⟨next, tr⟩ k
    | none => match h with
      | ⟨next, tr⟩ => fN next fun next => fH (next - 1) ⟨next, tr⟩ k
theorem fHeap_eq {β : Type} (o : Op) (ts : List Value) (h : Heap) (k : Heap → β) : fHeap o ts h k = k h := by
  obtain ⟨next, tr⟩ := h
  unfold fHeap
  split
  · rfl
  · split
    · simp only [fN_eq, fH0_eq]
    · rfl
  · split
    · simp only [fN_eq, fH_eq]
    · simp only [fN_eq, fH_eq]

/-- How deep is what an operation answers to be written out? -/
def deepOf : Op → Nat
  | .move _ | .assign _ | .pick _ _ _ | .nilCheck _ | .extract _ _ => 0
  | .load _ _ | .field _ _ _ | .index _ _ _ => 1
  | .call { callee := .value _, .. } => 1
  | _ => 6

noncomputable def qCallee (ts : List Value) (c : Call) : Option (FuncId × List Value) :=
  match c.callee with
  | .value (.func f) => some (f, qMap (qEv ts) c.args.toList)
  | .value x => match qEv ts x with
    | .func (.func f) ⟨first⟩ ⟨captured⟩ => some (f, qApp first (qApp (qMap (qEv ts) c.args.toList) captured))
    | _ => none
  | _ => none
theorem qCallee_eq (ts : List Value) (c : Call) : qCallee ts c = calleeI ts c := by
  unfold qCallee calleeI
  simp only [qEvF, qMap_eq, qApp_eq]
  cases c.callee with
  | value x => cases x with
    | func f => rfl
    | _ =>
      simp only
      generalize evI ts _ = y
      cases y with
      | func f a b => cases f <;> first | (obtain ⟨a⟩ := a; obtain ⟨b⟩ := b; simp only [List.append_assoc]; done) | rfl
      | _ => rfl
  | _ => rfl
noncomputable def qWanted (o : Oper) (ops : List Oper) (ts : List Value) : Bool := match o.guard with
  | none => true
  | some (j, want) => match qGet? ops j with
    | some oj => match oj.dst with
      | some t => match qGet? ts t with
        | some (.bool b) => b == want
        | _ => false
      | none => false
    | none => false
theorem qWanted_eq (o : Oper) (ops : List Oper) (ts : List Value) : qWanted o ops ts = wantedI o ops ts := by
  unfold qWanted wantedI yieldedI
  simp only [qGet?_eq]
  cases o.guard with
  | none => rfl
  | some g =>
    obtain ⟨j, want⟩ := g
    simp only
    cases ops[j]? with
    | none => rfl
    | some oj =>
      simp only [Option.bind_some]
      cases oj.dst with
      | none => rfl
      | some t =>
        simp only
        cases ts[t]? with
        | none => rfl
        | some v => cases v <;> rfl

noncomputable def operF (P : Program) (call : CallI) (o : Oper) (ts : List Value) (h : Heap) : Option (Value × Heap) :=
  match o.op with
  | .call c => match c.callee with
    | .builtin _ => opQ P o ts h
    | _ => match qCallee ts c with
      | some (f, args) => fN f fun f => fL (fV 0) args fun args => call f args h
      | none => none
  | _ => opQ P o ts h
theorem operF_eq (P : Program) (call : CallI) (o : Oper) (ts : List Value) (h : Heap) : operF P call o ts h = operI P call o ts h := by
  unfold operF operI
  cases o.op with
  | call c => cases c.callee <;> first | exact opQ_eq P o ts h | (simp only [fN_eq, fL_eq (fV_eq 0), opQ_eq, qCallee_eq]; rfl)
  | _ => exact opQ_eq P o ts h

noncomputable def stepF (P : Program) (call : CallI) (all : List Oper) (o : Oper) (ts : List Value) (h : Heap) (ih : List Value → Heap → Option (List Value × Heap)) : Option (List Value × Heap) := match qWanted o all ts with
  | true => match operF P call o ts h with
    | some (v, h') => fV (deepOf o.op) v fun v => fHeap o.op ts h' fun h' => fPut ts o.dst v fun ts => ih ts h'
    | none => none
  | false => fPut ts o.dst undef fun ts => ih ts h
noncomputable def opsF (P : Program) (call : CallI) (all l : List Oper) (ts : List Value) (h : Heap) : Option (List Value × Heap) :=
  @List.rec Oper (fun _ => List Value → Heap → Option (List Value × Heap)) (fun ts h => some (ts, h)) (fun o _ ih ts h => stepF P call all o ts h ih) l ts h
theorem opsF_eq (P : Program) (call : CallI) (all : List Oper) : ∀ (l : List Oper) (ts : List Value) (h : Heap), opsF P call all l ts h = opsI P (fun _ => call) all l ts h
  | [], _, _ => rfl
  | o :: rest, ts, h => by
    have ih := opsF_eq P call all rest
    show stepF P call all o ts h (opsF P call all rest) = _
    simp only [stepF, opsI, operF_eq, qWanted_eq, fV_eq, fHeap_eq, fPut_eq, ih]
    cases wantedI o all ts <;> rfl

noncomputable def stepTF (P : Program) (call : CallI) (all : List Oper) (o : Oper) (ts : List Value) (h : Heap) (ih : List Value → Heap → Option (List Ent × List Value × Heap)) : Option (List Ent × List Value × Heap) := match qWanted o all ts with
  | true => match operF P call o ts h with
    | some (v, h') => fV (deepOf o.op) v fun v => fHeap o.op ts h' fun h' => fPut ts o.dst v fun ts' => match ih ts' h' with
      | some (l, r) => some (⟨true, v, ts, h⟩ :: l, r)
      | none => none
    | none => none
  | false => fPut ts o.dst undef fun ts' => match ih ts' h with
      | some (l, r) => some (⟨false, undef, ts, h⟩ :: l, r)
      | none => none
noncomputable def opsTF (P : Program) (call : CallI) (all l : List Oper) (ts : List Value) (h : Heap) : Option (List Ent × List Value × Heap) :=
  @List.rec Oper (fun _ => List Value → Heap → Option (List Ent × List Value × Heap)) (fun ts h => some ([], ts, h)) (fun o _ ih ts h => stepTF P call all o ts h ih) l ts h
theorem opsTF_eq (P : Program) (call : CallI) (all : List Oper) : ∀ (l : List Oper) (ts : List Value) (h : Heap), opsTF P call all l ts h = opsT P (fun _ => call) all l ts h
  | [], _, _ => rfl
  | o :: rest, ts, h => by
    have ih := opsTF_eq P call all rest
    show stepTF P call all o ts h (opsTF P call all rest) = _
    simp only [stepTF, opsT, operF_eq, qWanted_eq, fV_eq, fHeap_eq, fPut_eq, ih]
    cases wantedI o all ts <;> rfl

theorem opsT_opsI (P : Program) (call : Nat → CallI) (all : List Oper) : ∀ (l : List Oper) (call : Nat → CallI) (ts : List Value) (h : Heap), opsI P call all l ts h = (opsT P call all l ts h).map (·.2)
  | [], _, _, _ => rfl
  | o :: rest, call, ts, h => by
    simp only [opsI, opsT]
    split
    · split
      · rw [opsT_opsI P call all rest]; split <;> (rename_i e; rw [e]; try rfl)
      · rfl
    · rw [opsT_opsI P call all rest]; split <;> (rename_i e; rw [e]; try rfl)

noncomputable def qResult (P : Program) (ts : List Value) (h : Heap) : ResultVar → Option Value
  | .tmp t => some (qGet undef ts t)
  | .cell a t => match qGet undef ts a with
    | .pointer (some ad) => loadI P h t ad
    | _ => none
theorem qResult_eq (P : Program) (ts : List Value) (h : Heap) (r : ResultVar) : qResult P ts h r = resultI P ts h r := by cases r <;> (simp only [qResult, resultI, qGet_eq]; try rfl)
noncomputable def qResults (P : Program) (ts : List Value) (h : Heap) (l : List ResultVar) : Option (List Value) :=
  @List.rec ResultVar (fun _ => Option (List Value)) (some []) (fun r _ ih => match qResult P ts h r, ih with
    | some v, some l => some (v :: l)
    | _, _ => none) l
theorem qResults_eq (P : Program) (ts : List Value) (h : Heap) : ∀ (l : List ResultVar), qResults P ts h l = resultsI P ts h l
  | [] => rfl
  | r :: l => by
    have ih := qResults_eq P ts h l
    show (match qResult P ts h r, qResults P ts h l with
      | some v, some l => some (v :: l)
      | _, _ => none) = _
    rw [qResult_eq, ih]
    rfl
noncomputable def callF (P : Program) (ex : Code → List Value → Heap → Option (Ex × List Value × Heap)) : CallI := fun f args h =>
  match P.funcs[f]? with
  | some fn => match fn.body with
    | some c => fL (fV 0) (qApp args (qRep undef (fn.ntmps - qLen args))) fun ts0 => match ex c ts0 h with
      | some (.normal, ts, h') | some (.ret, ts, h') => match qResults P ts h' fn.results.toList with
        | some l => some (tupleI l, h')
        | none => none
      | _ => none
    | none => if args.all flat then (pureRun P (callFunc f args.toArray)).bind fun
        | .value v => if flat v then some (v, h) else none
        | _ => none
      else none
  | none => none
theorem callF_eq (P : Program) (ex : Code → List Value → Heap → Option (Ex × List Value × Heap)) : callF P ex = callWith P noOrc ex := by
  funext f args h
  simp only [callF, callWith, noOrc, fL_eq (fV_eq 0), qApp_eq, qRep_eq, qLen_eq, qResults_eq]
  rfl

noncomputable def codeF (P : Program) (ex : Code → List Value → Heap → Option (Ex × List Value × Heap)) (c : Code) (ts : List Value) (h : Heap) : Option (Ex × List Value × Heap) :=
    match c with
    | .skip | .label _ => some (.normal, ts, h)
    | .seq a b => match ex a ts h with
      | some (.normal, ts', h') => ex b ts' h'
      | r => r
    | .cond c a b => match qEv ts c with
      | .bool true => ex a ts h
      | .bool false => ex b ts h
      | _ => none
    | .block id b => match ex b ts h with
      | some (.exit id', ts', h') => match Nat.beq id' id with
        | true => some (.normal, ts', h')
        | false => some (.exit id', ts', h')
      | r => r
    | .loop b => match ex b ts h with
      | some (.normal, ts', h') => ex (.loop b) ts' h'
      | r => r
    | .exit id => some (.exit id, ts, h)
    | .scope b => ex b ts h
    | .ret => some (.ret, ts, h)
    | .region _ ops draw => match draw with
      | false => match opsF P (callF P ex) ops.toList ops.toList ts h with
        | some (ts', h') => some (.normal, ts', h')
        | none => none
      | true => match pairsOK P noOrc.isPure ops (pres ops.toList []) 0 ops.toList with
        | false => none
        | true => match drawStill P noOrc.isPure ops with
          | true => match opsF P (callF P ex) ops.toList ops.toList ts h with
            | some (ts', h') => some (.normal, ts', h')
            | none => none
          | false => match opsTF P (callF P ex) ops.toList ops.toList ts h with
            | some (ents, ts', h') => match readsOK P noOrc.isPure (pres ops.toList []) (loudBits P noOrc.isPure ops.toList 0) ents h' 0 ops.toList ents with
              | true => some (.normal, ts', h')
              | false => none
            | none => none
    | _ => none
noncomputable def execF (P : Program) (n : Nat) : Code → List Value → Heap → Option (Ex × List Value × Heap) :=
  @Nat.rec (fun _ => Code → List Value → Heap → Option (Ex × List Value × Heap)) (fun _ _ _ => none) (fun _ ih => codeF P ih) n
theorem execF_eq (P : Program) : ∀ (n : Nat), execF P n = exec P noOrc n
  | 0 => by funext c ts h; rfl
  | n + 1 => by
    have ih := execF_eq P n
    show codeF P (execF P n) = _
    funext c ts h
    rw [ih]
    have fuse : ∀ ops : Array Oper, (match pairsOK P noOrc.isPure ops (pres ops.toList []) 0 ops.toList with
        | false => none
        | true => match drawStill P noOrc.isPure ops with
          | true => match opsF P (callF P (exec P noOrc n)) ops.toList ops.toList ts h with
            | some (ts', h') => some (Ex.normal, ts', h')
            | none => none
          | false => match opsTF P (callF P (exec P noOrc n)) ops.toList ops.toList ts h with
            | some (ents, ts', h') => match readsOK P noOrc.isPure (pres ops.toList []) (loudBits P noOrc.isPure ops.toList 0) ents h' 0 ops.toList ents with
              | true => some (.normal, ts', h')
              | false => none
            | none => none) = match opsT P (fun _ => callWith P noOrc (exec P noOrc n)) ops.toList ops.toList ts h with
        | some (ents, ts', h') => match pairsOK P noOrc.isPure ops (pres ops.toList []) 0 ops.toList && drawReads P noOrc.isPure ops ents h' with
          | true => some (.normal, ts', h')
          | false => none
        | none => none := fun ops => by
      rw [callF_eq, opsF_eq, opsTF_eq, opsT_opsI P (fun _ => callWith P noOrc (exec P noOrc n))]
      generalize opsT P (fun _ => callWith P noOrc (exec P noOrc n)) ops.toList ops.toList ts h = r
      unfold drawReads
      cases pairsOK P noOrc.isPure ops (pres ops.toList []) 0 ops.toList <;> cases drawStill P noOrc.isPure ops <;> rcases r with _ | ⟨ents, ts', h'⟩ <;> simp
    cases c with
    | region id ops d =>
      cases d with
      | false => simp only [codeF, exec, callF_eq, opsF_eq]; rfl
      | true => simp only [codeF, exec]; exact fuse ops
    | cond o a b => simp only [codeF, exec, qEv_eq]; rfl
    | _ => first | (simp only [codeF, exec]; done) | (simp only [codeF, exec]; rfl)

/-- A closed run. -/
theorem CallK.runF {P : Program} (hP : ProgOK P) (k : Nat) {f : FuncId} {args : List Value} {v : Value} (ha : args.all clo = true) (hv : clo v = true) (ht : hasText P f = true) (he : (callF P (execF P k) f args (Heap.empty P.globals.size)).map (·.1) = some v) : CallK P f args v :=
  CallK.run hP k ha hv ht (by rw [execF_eq, callF_eq] at he; exact he)
end Go.Ideal
