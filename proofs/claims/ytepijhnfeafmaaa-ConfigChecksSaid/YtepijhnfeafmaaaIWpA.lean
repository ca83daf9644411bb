/- The interpreter that answers with what is to be shown: the kernel runs it through code over values that are not known; advice says what it does where values alone don't tell. Over any program. -/
import Derived.Test.YtepijhnfeafmaaaIBor
import Derived.Test.YtepijhnfeafmaaaITrim
set_option linter.unusedVariables false
set_option linter.unusedSimpArgs false
namespace Go.Ideal
open Go.RowKit

/-- What is said at a step. -/
inductive Adv : Type 1 where
  | nil
  /-- a Bool's two values -/
  | split (n : Nat) (t e : Adv)
  /-- the answer, written otherwise -/
  | put (n : Nat) (v : Value) (r : Adv)
  /-- an operation that asks something; where it can't be reckoned: its answer -/
  | chk (n : Nat) (told : Option Value) (r : Adv)
  | chks (n : Nat) (told : Option Value) (t e : Adv)
  /-- a case -/
  | cas (n : Nat) (b : Bool) (t e : Adv)
  /-- a call that answers so, and leaves memory alone -/
  | pur (n : Nat) (v : Value) (r : Adv)
  | purs (n : Nat) (b : Bool) (t e : Adv)
  /-- the same, of memory as it stands -/
  | bor (n : Nat) (v : Value) (r : Adv)
  | bors (n : Nat) (b : Bool) (t e : Adv)
  /-- a call that answers so, and leaves this heap -/
  | ctr (n : Nat) (v : Value) (h : Heap) (r : Adv)
  /-- a call of which something is known -/
  | all (n : Nat) {α : Type} (v : α → Value) (h : α → Heap) (p : α → Prop) (r : α → Adv)
  /-- a loop with a state -/
  | loop (n : Nat) {σ : Type} (f : σ → List (Nat × Value)) (H : σ → Heap) (Inv : Nat → σ → Prop) (n0 : Nat) (s0 : σ) (r : Nat → σ → (Nat → Value) → Adv)
  /-- a region: what is known behind it -/
  | join (n : Nat) (f : List (Nat × Value)) (r1 r2 : Adv)
  /-- the state, seen otherwise -/
  | weak (n : Nat) (g : List (Nat × Value)) (h : Heap) (r : Adv)

def HoldsL (P : Program) : List Ask → Prop
  | [] => True
  | [a] => a.holds P
  | a :: l => a.holds P ∧ HoldsL P l
theorem HoldsL.holds {P : Program} : ∀ {l : List Ask}, HoldsL P l → Holds P l
  | [], _ => fun a ha => by cases ha
  | [x], h => fun a ha => by simp at ha; subst ha; exact h
  | x :: y :: l, h => fun a ha => by
    rcases List.mem_cons.1 ha with rfl | ha
    · exact h.1
    · exact HoldsL.holds h.2 a ha

/-- Operations on the ideal heap that ask something. -/
def opC (P : Program) (o : Oper) (ts : List Value) (h : Heap) (told : Option Value) : Option (Value × Heap × List Ask) := match o.op with
  | .binOp op t x y _ => match flatOp ts x && flatOp ts y with
    | false => none
    | true => match op, evI ts x, evI ts y with
      | .shl, .int k a, .int _ b => some (.int k (k.wrap (a * 2 ^ (min b.toNat k.bits))), h, [.le 0 b])
      | .shr, .int k a, .int _ b => some (.int k (a.fdiv (2 ^ (min b.toNat k.bits))), h, [.le 0 b])
      | .quo, .int k a, .int k' b => match decide (k = k') with
        | true => some (.int k (k.wrap (a.tdiv b)), h, [.ne b 0])
        | false => none
      | .rem, .int k a, .int k' b => match decide (k = k') with
        | true => some (.int k (a.tmod b), h, [.ne b 0])
        | false => none
      | .eql, .agg c, .agg d => match pureRun P (eqGuard .eql t x y (.agg c) (.agg d)), told with
        | some (), some (.bool b) => some (.bool b, h, [.eqv t (.agg c) (.agg d) b])
        | some (), none => match eqD P 10000 t (.agg c) (.agg d) with
          | some b => some (.bool b, h, [])
          | none => none
        | _, _ => none
      | .neq, .agg c, .agg d => match pureRun P (eqGuard .neq t x y (.agg c) (.agg d)), told with
        | some (), some (.bool b) => some (.bool (!b), h, [.eqv t (.agg c) (.agg d) b])
        | some (), none => match eqD P 10000 t (.agg c) (.agg d) with
          | some b => some (.bool (!b), h, [])
          | none => none
        | _, _ => none
      | _, _, _ => none
  | .indexAddr t x ix => match intI (evI ts ix), P.underlying t, evI ts x with
    | some i, some (.array len elem), .pointer (some ⟨b, off, none⟩) => match sizeI P elem with
      | some size => some (.pointer (some ⟨b, off + i.toNat * size, none⟩), h, [.le 0 i, .lt i len])
      | none => none
    | some i, some (.slice elem), .slice (some ⟨b, off, none⟩) len _ => match sizeI P elem with
      | some size => some (.pointer (some ⟨b, off + i.toNat * size, none⟩), h, [.le 0 i, .lt i len])
      | none => none
    | _, _, _ => none
  | .index t x ix => match intI (evI ts ix), P.underlying t, evI ts x, told with
    | some i, some (.array len elem), .agg cs, some v => match sizeI P elem with
      | some size => some (v, h, [.le 0 i, .lt i len, .partv elem cs.toList (i.toNat * size) v])
      | none => none
    | some i, some .string, .string s, some (.int .u8 b) => some (.int .u8 b, h, [.le 0 i, .byte s.data.toList i.toNat b])
    | _, _, _, _ => none
  | .load t a => match evI ts a, told with
    | .pointer (some ad), some v => match h.get ad.block, ad.spot, isAggI P t, sizeI P t with
      | some (.cells _ _ .dead), _, _, _ => none
      | some (.cells cs _ _), none, some true, some n => match v with
        | .agg l => some (v, h, [.part cs ad.off n l.toList])
        | _ => none
      | some (.cells cs _ _), none, some false, some _ => some (v, h, [.part cs ad.off 1 [v]])
      | _, _, _, _ => none
    | _, _ => none
  | .store t a x => match evI ts a, sizeI P t with
    | .pointer (some ad), some n => match Nat.beq (Value.cellList (evI ts x)).length n && (Value.cellList (evI ts x)).all oneCell with
      | false => none
      | true => match h.get ad.block, ad.spot with
        | some (.cells cs t' .fix), none => some (Go.undef, h.set ad.block (.cells (splice cs ad.off (Value.cellList (evI ts x))) t' .fix), [.nle (ad.off + n) cs.length])
        | some (.cells cs t' .grow), none => some (Go.undef, h.set ad.block (.cells (splice cs ad.off (Value.cellList (evI ts x))) t' .grow), [.nle (ad.off + n) cs.length])
        | _, _ => none
    | _, _ => none
  | .slice _ _ _ _ _ => match told with
    | some t => match opV P o ts none with
      | some (v0, l0) => some (t, h, .get [v0] 0 t :: l0)
      | none => none
    | none => none
  | _ => none

/-- An operation that asks something. -/
def askI (P : Program) (o : Oper) (ts : List Value) (h : Heap) (told : Option Value) : Option (Value × Heap × List Ask) := match opC P o ts h told with
  | some r => some r
  | none => match opV P o ts told with
    | some (v, l) => some (v, h, l)
    | none => opH P o ts h told

def agreeP : List (Nat × Value) → List Value → Prop
  | [], _ => True
  | [(i, v)], ts => ts.getD i Go.undef = v
  | (i, v) :: r, ts => ts.getD i Go.undef = v ∧ agreeP r ts

def hasText (P : Program) (f : FuncId) : Bool := match P.funcs[f]? with
  | some fn => fn.body.isSome
  | none => false

abbrev KV := Value → Heap → Nat → Adv → Prop
abbrev KT := List Value → Heap → Nat → Adv → Prop
abbrev KX := Ex → List Value → Heap → Nat → Adv → Prop

/-- An operation that is no call of a function, case by case. -/
def wpOp1 (P : Program) (o : Oper) (ts : List Value) (h : Heap) (n : Nat) (adv : Adv) (K : KV) : Prop := match adv with
  | .split m t e => match Nat.beq m n with
    | true => match opI P o ts h with
      | some (.bool b, h') => (b = true → K (.bool true) h' (n + 1) t) ∧ (b = false → K (.bool false) h' (n + 1) e)
      | _ => False
    | false => match opI P o ts h with
      | some (v, h') => K v h' (n + 1) (.split m t e)
      | none => False
  | .put m v r => match Nat.beq m n with
    | true => match opI P o ts h with
      | some (v0, h') => v0 = v ∧ K v h' (n + 1) r
      | none => False
    | false => match opI P o ts h with
      | some (v', h') => K v' h' (n + 1) (.put m v r)
      | none => False
  | .chk m told r => match Nat.beq m n with
    | true => match askI P o ts h told with
      | some (v, h', []) => K v h' (n + 1) r
      | some (v, h', l) => HoldsL P l ∧ K v h' (n + 1) r
      | none => False
    | false => match opI P o ts h with
      | some (v', h') => K v' h' (n + 1) (.chk m told r)
      | none => False
  | .chks m told t e => match Nat.beq m n with
    | true => match askI P o ts h told with
      | some (.bool b, h', l) => HoldsL P l ∧ (b = true → K (.bool true) h' (n + 1) t) ∧ (b = false → K (.bool false) h' (n + 1) e)
      | _ => False
    | false => match opI P o ts h with
      | some (v', h') => K v' h' (n + 1) (.chks m told t e)
      | none => False
  | adv => match opI P o ts h with
    | some (v, h') => K v h' (n + 1) adv
    | none => False

/-- An operation that is no call of a function. -/
def wpOp (P : Program) (o : Oper) (ts : List Value) (h : Heap) (n : Nat) (adv : Adv) (K : KV) : Prop := match adv with
  | .cas m b t e => match Nat.beq m n with
    | true => (b = true → wpOp1 P o ts h n t K) ∧ (b = false → wpOp1 P o ts h n e K)
    | false => wpOp1 P o ts h n (.cas m b t e) K
  | adv => wpOp1 P o ts h n adv K

/-- A call: by what is known of it, or by its text; case by case. -/
def wpCall1 (P : Program) (pf : FuncId → Bool) (d : Bool) (inl : FuncId → List Value → Heap → Nat → Adv → KV → Prop) (f : FuncId) (args : List Value) (h : Heap) (n : Nat) (adv : Adv) (K : KV) : Prop := match adv with
  | .pur m v r => match Nat.beq m n, hasText P f with
    | true, true => CallK P f args v ∧ K v h (n + 1) r
    | true, false => False
    | false, _ => inl f args h (n + 1) (.pur m v r) K
  | .purs m b t e => match Nat.beq m n, hasText P f with
    | true, true => CallK P f args (.bool b) ∧ (b = true → K (.bool true) h (n + 1) t) ∧ (b = false → K (.bool false) h (n + 1) e)
    | true, false => False
    | false, _ => inl f args h (n + 1) (.purs m b t e) K
  | .bor m v r => match Nat.beq m n, hasText P f, d && pf f with
    | true, true, false => match borL (borV false 8 h) args, flat v with
      | some args2, true => CallK P f args2 v ∧ K v h (n + 1) r
      | _, _ => False
    | true, _, _ => False
    | false, _, _ => inl f args h (n + 1) (.bor m v r) K
  | .bors m b t e => match Nat.beq m n, hasText P f, d && pf f with
    | true, true, false => match borL (borV false 8 h) args with
      | some args2 => CallK P f args2 (.bool b) ∧ (b = true → K (.bool true) h (n + 1) t) ∧ (b = false → K (.bool false) h (n + 1) e)
      | none => False
    | true, _, _ => False
    | false, _, _ => inl f args h (n + 1) (.bors m b t e) K
  | .ctr m v h' r => match Nat.beq m n, hasText P f, d && pf f with
    | true, true, false => CallS P f args h (fun v1 h1 => v1 = v ∧ h1 = h') ∧ K v h' (n + 1) r
    | true, _, _ => False
    | false, _, _ => inl f args h (n + 1) (.ctr m v h' r) K
  | .all m v hh p r => match Nat.beq m n, hasText P f, d with
    | true, true, false => CallS P f args h (fun v1 h1 => ∃ x, p x ∧ v1 = v x ∧ h1 = hh x) ∧ ∀ x, p x → K (v x) (hh x) (n + 1) (r x)
    | true, _, _ => False
    | false, _, _ => inl f args h (n + 1) (.all m v hh p r) K
  | adv => inl f args h (n + 1) adv K

def wpCall (P : Program) (pf : FuncId → Bool) (d : Bool) (inl : FuncId → List Value → Heap → Nat → Adv → KV → Prop) (f : FuncId) (args : List Value) (h : Heap) (n : Nat) (adv : Adv) (K : KV) : Prop := match adv with
  | .cas m b t e => match Nat.beq m n with
    | true => (b = true → wpCall1 P pf d inl f args h n t K) ∧ (b = false → wpCall1 P pf d inl f args h n e K)
    | false => wpCall1 P pf d inl f args h n (.cas m b t e) K
  | adv => wpCall1 P pf d inl f args h n adv K

def wpOper (P : Program) (pf : FuncId → Bool) (d : Bool) (inl : FuncId → List Value → Heap → Nat → Adv → KV → Prop) (o : Oper) (ts : List Value) (h : Heap) (n : Nat) (adv : Adv) (K : KV) : Prop := match o.op with
  | .call c => match c.callee with
    | .builtin _ => wpOp P o ts h n adv K
    | _ => match calleeI ts c with
      | some (f, args) => wpCall P pf d inl f args h n adv K
      | none => False
  | _ => wpOp P o ts h n adv K

def wpOps (P : Program) (pf : FuncId → Bool) (d : Bool) (inl : FuncId → List Value → Heap → Nat → Adv → KV → Prop) (all : List Oper) : List Oper → List Value → Heap → Nat → Adv → KT → Prop
  | [], ts, h, n, adv, K => K ts h n adv
  | o :: l, ts, h, n, adv, K => match wantedI o all ts with
    | false => wpOps P pf d inl all l (putI ts o.dst Go.undef) h n adv K
    | true => wpOper P pf d inl o ts h n adv fun v h' n' adv' => wpOps P pf d inl all l (putI ts o.dst v) h' n' adv' K

/-- A call by its text, in a region that draws its order: run out. -/
def inlD (P : Program) (pf : FuncId → Bool) (k : Nat) (f : FuncId) (args : List Value) (h : Heap) (n : Nat) (adv : Adv) (K : KV) : Prop := match pf f with
  | true => False
  | false => match callWith P noOrc (exec P noOrc k) f args h with
    | some (v, h') => K v h' n adv
    | none => False

def inlT (P : Program) (ex : Code → List Value → Heap → Nat → Adv → KX → Prop) (f : FuncId) (args : List Value) (h : Heap) (n : Nat) (adv : Adv) (K : KV) : Prop := match P.funcs[f]? with
  | some fn => match fn.body with
    | some c => ex c (args ++ List.replicate (fn.ntmps - args.length) Go.undef) h n adv fun x ts' h' n' adv' => match x with
      | .exit _ => False
      | _ => match resultsI P ts' h' fn.results.toList with
        | some l => K (tupleI l) h' n' adv'
        | none => False
    | none => False
  | none => False

def writes : Code → List Nat
  | .region _ ops _ => ops.toList.filterMap (·.dst)
  | .seq a b => writes a ++ writes b
  | .cond _ a b => writes a ++ writes b
  | .loop a => writes a
  | .block _ a => writes a
  | .scope a => writes a
  | _ => []

def overlay (W : List Nat) (S : List (Nat × Value)) (j : Nat → Value) : Nat → List Value → List Value
  | _, [] => []
  | i, v :: l => (match W.any (Nat.beq i) with
    | true => match S.find? (fun p => Nat.beq p.1 i) with
      | some p => p.2
      | none => j i
    | false => v) :: overlay W S j (i + 1) l

def setL : List Value → List (Nat × Value) → List Value
  | ts, [] => ts
  | ts, (i, v) :: g => setL (ts.set i v) g

def weakAt (wk : List Nat) (n : Nat) : Adv → Option (List (Nat × Value) × Heap × Adv)
  | .weak m g h r => match Nat.beq m n && g.all fun p => wk.any (Nat.beq p.1) with
    | true => some (g, h, r)
    | false => none
  | _ => none

def inlOf (P : Program) (pf : FuncId → Bool) (k : Nat) (ex : Code → List Value → Heap → Nat → Adv → KX → Prop) : Bool → FuncId → List Value → Heap → Nat → Adv → KV → Prop
  | true => inlD P pf k
  | false => inlT P ex

/-- A loop, round by round. -/
def unrollU (ex : Code → List Value → Heap → Nat → Adv → KX → Prop) (b : Code) : Nat → List Value → Heap → Nat → Adv → KX → Prop
  | 0, _, _, _, _, _ => False
  | m + 1, ts, h, n, adv, Q => ex b ts h n adv fun x ts' h' n' adv' => match x with
    | .normal => unrollU ex b m ts' h' n' adv' Q
    | x => Q x ts' h' n' adv'

/-- Operations, one by one; structs are compared cell by cell. -/
def operX (P : Program) (call : CallI) (o : Oper) (ts : List Value) (h : Heap) : Option (Value × Heap) := match opC P o ts h none with
  | some (v, h', []) => some (v, h')
  | _ => operI P call o ts h
def opsX (P : Program) (call : CallI) (all : List Oper) : List Oper → List Value → Heap → Option (List Ent × List Value × Heap)
  | [], ts, h => some ([], ts, h)
  | o :: rest, ts, h => match wantedI o all ts with
    | true => match operX P call o ts h with
      | some (v, h') => match opsX P call all rest (putI ts o.dst v) h' with
        | some (l, r) => some (⟨true, v, ts, h⟩ :: l, r)
        | none => none
      | none => none
    | false => match opsX P call all rest (putI ts o.dst Go.undef) h with
      | some (l, r) => some (⟨false, Go.undef, ts, h⟩ :: l, r)
      | none => none

/-- Is it said of the call that it leaves memory alone? -/
def keepsM (n : Nat) : Adv → Bool
  | .pur m _ _ => Nat.beq m n
  | .purs m _ _ _ => Nat.beq m n
  | .bor m _ _ => Nat.beq m n
  | .bors m _ _ _ => Nat.beq m n
  | _ => false
def isFn : Op → Bool
  | .call { callee := .builtin _, .. } => false
  | .call _ => true
  | _ => false
def flagOf (P : Program) (pf : FuncId → Bool) (o : Oper) (n : Nat) (adv : Adv) : Bool := !isLoud P pf o.op || (isFn o.op && keepsM n adv)
/-- Operations of a region that draws its order, what is known of each kept. -/
def wpOpsE (P : Program) (pf : FuncId → Bool) (inl : FuncId → List Value → Heap → Nat → Adv → KV → Prop) (all : List Oper) : List Oper → List Value → Heap → Nat → Adv → List Ent → List Bool → (List Ent → List Bool → KT) → Prop
  | [], ts, h, n, adv, acc, fl, K => K acc fl ts h n adv
  | o :: l, ts, h, n, adv, acc, fl, K => match wantedI o all ts with
    | false => wpOpsE P pf inl all l (putI ts o.dst Go.undef) h n adv (acc ++ [⟨false, Go.undef, ts, h⟩]) (fl ++ [true]) K
    | true => wpOper P pf true inl o ts h n adv fun v h' n' adv' => wpOpsE P pf inl all l (putI ts o.dst v) h' n' adv' (acc ++ [⟨true, v, ts, h⟩]) (fl ++ [flagOf P pf o n adv]) K
/-- A region that draws its order; where its reads come up elsewhere they are to be the same. -/
def wpDrawE (P : Program) (pf : FuncId → Bool) (k : Nat) (ops : Array Oper) (ts : List Value) (h : Heap) (n : Nat) (adv : Adv) (K : KT) : Prop := match pairsOK P pf ops (pres ops.toList []) 0 ops.toList with
  | false => False
  | true => wpOpsE P pf (inlD P pf k) ops.toList ops.toList ts h n adv [] [] fun ents fl ts' h' n' adv' => match readsL P pf (pres ops.toList []) (loudBits P pf ops.toList 0) fl ents h' 0 ops.toList ents with
    | some l => EqL l ∧ K ts' h' n' adv'
    | none => False

/-- A region that draws its order, run out; where its reads come up elsewhere they are to be the same. -/
def wpDraw (P : Program) (k : Nat) (ops : Array Oper) (ts : List Value) (h : Heap) (K : List Value → Heap → Prop) : Prop := match pairsOK P noOrc.isPure ops (pres ops.toList []) 0 ops.toList with
  | false => False
  | true => match opsX P (callWith P noOrc (exec P noOrc k)) ops.toList ops.toList ts h with
    | some (ents, ts', h') => match readsL P noOrc.isPure (pres ops.toList []) (loudBits P noOrc.isPure ops.toList 0) [] ents h' 0 ops.toList ents with
      | some l => EqL l ∧ K ts' h'
      | none => False
    | none => False

/-- At a round's end: what was made in it is forgotten. -/
def loopEnd (P : Program) (fs : List (Nat × Value)) (h h' h2 : Heap) : Prop :=
  EqBlks h' h2 h.next ∧ (Nat.beq h2.next h.next && fs.all (fun p => refsOK 8 h.next p.2)) = true ∧ refsP h.next h2 h.next
/-- 'wk': the temporaries that may be seen otherwise on the way. -/
def wpA (P : Program) (pf : FuncId → Bool) (wk : List Nat) : Nat → Code → List Value → Heap → Nat → Adv → KX → Prop
  | 0, _, _, _, _, _, _ => False
  | k + 1, c, ts, h, n, adv, Q => match weakAt wk n adv with
    | some (g, h2, r) => Weak P ts h (setL ts g) h2 ∧ wpA P pf wk k c (setL ts g) h2 (n + 1) r Q
    | none => match c with
      | .skip | .label _ => Q .normal ts h n adv
      | .exit id => Q (.exit id) ts h n adv
      | .ret => Q .ret ts h n adv
      | .seq a b => wpA P pf wk k a ts h n adv fun x ts' h' n' adv' => match x with
        | .normal => wpA P pf wk k b ts' h' n' adv' Q
        | x => Q x ts' h' n' adv'
      | .cond c a b => match evI ts c with
        | .bool true => wpA P pf wk k a ts h n adv Q
        | .bool false => wpA P pf wk k b ts h n adv Q
        | _ => False
      | .block id b => wpA P pf wk k b ts h n adv fun x ts' h' n' adv' => match x with
        | .exit id' => match Nat.beq id' id with
          | true => Q .normal ts' h' n' adv'
          | false => Q (.exit id') ts' h' n' adv'
        | x => Q x ts' h' n' adv'
      | .scope b => wpA P pf wk k b ts h n adv Q
      | .loop b => match adv with
        | .loop m f H Inv n0 s0 r => match Nat.beq m n with
          | true => (Inv n0 s0 ∧ agreeP (f s0) ts ∧ h = H s0) ∧ ∀ i s j, Inv i s → wpA P pf wk k b (overlay (writes b ++ wk) (f s) j 0 ts) (H s) (n + 1) (r i s j) fun x ts' h' n' adv' => match x with
            | .normal => ∃ i' s', i' < i ∧ Inv i' s' ∧ agreeP (f s') ts' ∧ loopEnd P (f s') (H s) h' (H s')
            | x => Q x ts' h' n' adv'
          | false => unrollU (wpA P pf wk k) b k ts h n (.loop m f H Inv n0 s0 r) Q
        | adv => unrollU (wpA P pf wk k) b k ts h n adv Q
      | .region _ ops d => match !d || (pairsOK P pf ops (pres ops.toList []) 0 ops.toList && drawStill P pf ops) with
        | false => wpDrawE P pf k ops ts h n adv fun ts' h' n' adv' => Q .normal ts' h' n' adv'
        | true => match adv with
          | .join m f r1 r2 => match Nat.beq m n with
            | true => wpOps P pf d (inlOf P pf k (wpA P pf wk k) d) ops.toList ops.toList ts h (n + 1) r1 (fun ts' h' _ _ => agreeP f ts' ∧ h' = h) ∧
                ∀ j, Q .normal (overlay (ops.toList.filterMap (·.dst)) f j 0 ts) h (n + 1) r2
            | false => wpOps P pf d (inlOf P pf k (wpA P pf wk k) d) ops.toList ops.toList ts h n (.join m f r1 r2) fun ts' h' n' adv' => Q .normal ts' h' n' adv'
          | adv => wpOps P pf d (inlOf P pf k (wpA P pf wk k) d) ops.toList ops.toList ts h n adv fun ts' h' n' adv' => Q .normal ts' h' n' adv'
      | _ => False

end Go.Ideal
