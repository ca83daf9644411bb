/- Texts packed together: IFast IRunF IRunO CReach2 CReachLaw2 CReach3. -/
import Derived.Test.YtepijhnfeafmaaaZ16
section
/- Operations, each reckoned by a small text of its own: quick in the kernel. They answer as the interpreter's do. Over any program. -/
set_option linter.unusedVariables false
set_option linter.unusedSimpArgs false
namespace Go.Ideal
open Go.RowKit

def fBin (op : BinOp) (x y : Value) : Option Value := match x, y with
  | .int k a, .int k' b => match op with
    | .eql => match decide (k = k') with
      | true => some (.bool (a == b))
      | false => none
    | .neq => match decide (k = k') with
      | true => some (.bool (a != b))
      | false => none
    | .lss => match decide (k = k') with
      | true => some (.bool (decide (a < b)))
      | false => none
    | .leq => match decide (k = k') with
      | true => some (.bool (decide (a ≤ b)))
      | false => none
    | .gtr => match decide (k = k') with
      | true => some (.bool (decide (a > b)))
      | false => none
    | .geq => match decide (k = k') with
      | true => some (.bool (decide (a ≥ b)))
      | false => none
    | .add => match decide (k = k') with
      | true => some (.int k (k.wrap (a + b)))
      | false => none
    | .sub => match decide (k = k') with
      | true => some (.int k (k.wrap (a - b)))
      | false => none
    | .mul => match decide (k = k') with
      | true => some (.int k (k.wrap (a * b)))
      | false => none
    | .and => match decide (k = k') with
      | true => some (.int k (k.wrap (BitVec.ofInt k.bits a &&& BitVec.ofInt k.bits b).toNat))
      | false => none
    | .or => match decide (k = k') with
      | true => some (.int k (k.wrap (BitVec.ofInt k.bits a ||| BitVec.ofInt k.bits b).toNat))
      | false => none
    | _ => none
  | _, _ => none

theorem fBin_sound {P : Program} {op : BinOp} {t ty : TypeId} {x y : Operand} {o : Oper} {ts : List Value} {h : Heap} {v : Value} (ho : o.op = .binOp op t x y ty) (he : fBin op (evI ts x) (evI ts y) = some v) : opB P o ts h = some (v, h) := by
  unfold fBin at he
  split at he
  · rename_i k a k' b hx hy
    have hfl : (flatOp ts x && flatOp ts y) = true := by
      have h1 : flatOp ts x = true := by
        unfold flatOp
        split
        · rename_i g; simp [evI] at hx
        · rw [hx]; rfl
      have h2 : flatOp ts y = true := by
        unfold flatOp
        split
        · rename_i g; simp [evI] at hy
        · rw [hy]; rfl
      rw [h1, h2]; rfl
    unfold opB
    rw [ho]
    simp only [hfl, if_true]
    unfold execOp
    rw [ho]
    simp only [hx, hy]
    cases op <;> first | (simp only [reduceCtorEq] at he; done) | skip
    all_goals (
      by_cases hk : k = k'
      · subst hk
        simp only [decide_true, Option.some.injEq] at he
        subst he; cases k <;> rfl
      · simp only [hk, decide_false, reduceCtorEq] at he)
  · cases he

/-! the rest, each of its own -/
noncomputable def fLoad (P : Program) (t : TypeId) (a : Operand) (ts : List Value) (h : Heap) : Option (Value × Heap) := match qEv ts a with
  | .pointer (some ad) => match isAggI P t, sizeI P t with
    | some true, some (n + 1) => match qRd h ad (n + 1) with
      | some cs => some (.agg ⟨cs⟩, h)
      | none => none
    | some false, some _ => match qRd h ad 1 with
      | some [v] => some (v, h)
      | _ => none
    | _, _ => none
  | _ => none
theorem fLoad_sound {P : Program} {t : TypeId} {a : Operand} {ts : List Value} {h : Heap} {r : Value × Heap} (he : fLoad P t a ts h = some r) : (match evI ts a with
  | .pointer (some ad) => (loadI P h t ad).map fun v => (v, h)
  | _ => none) = some r := by
  unfold fLoad at he
  rw [qEv_eq] at he
  split at he
  · rename_i ad ha
    unfold loadI
    split at he
    · rename_i n h1 h2
      split at he
      · rename_i cs hc
        simp only [h1, h2, qRd_eq hc (by omega)]
        simpa using he
      · cases he
    · rename_i n h1 h2
      split at he
      · rename_i v hc
        simp only [h1, h2, qRd_eq hc (by omega)]
        simpa using he
      · cases he
    · cases he
  · cases he
noncomputable def fStore (P : Program) (t : TypeId) (a x : Operand) (ts : List Value) (h : Heap) : Option (Value × Heap) := match qEv ts a with
  | .pointer (some ad) => match sizeI P t with
    | some n => fHd (qEv ts x) fun v => match Nat.beq (qLen (Value.cellList v)) n with
      | true => match qWr h ad (Value.cellList v) with
        | some h' => some (undef, h')
        | none => none
      | false => none
    | none => none
  | _ => none
theorem fStore_sound {P : Program} {t : TypeId} {a x : Operand} {ts : List Value} {h : Heap} {r : Value × Heap} (he : fStore P t a x ts h = some r) : (match evI ts a with
  | .pointer (some ad) => (storeI P h t ad (evI ts x)).map fun h' => (undef, h')
  | _ => none) = some r := by
  unfold fStore at he
  simp only [fHd_eq] at he
  rw [qEv_eq, qEv_eq] at he
  split at he
  · rename_i ad ha
    unfold storeI
    split at he
    · rename_i n hs
      simp only [hs]
      split at he
      · rename_i hb
        rw [qLen_eq] at hb
        split at he
        · rename_i h' hw
          rw [if_pos hb, qWr_eq hw]; exact he
        · cases he
      · cases he
    · cases he
  · cases he
noncomputable def fFieldAddr (P : Program) (s : TypeId) (x : Operand) (f : Nat) (ts : List Value) (h : Heap) : Option (Value × Heap) := match fieldOf P s f, qEv ts x with
  | some fl, .pointer (some a) => match sizeI P fl.type with
    | some 0 | none => none
    | _ => some (.pointer (some (a.add fl.offset)), h)
  | _, _ => none
noncomputable def fIndexAddr (P : Program) (t : TypeId) (x ix : Operand) (ts : List Value) (h : Heap) : Option (Value × Heap) := match intI (qEv ts ix), P.underlying t, qEv ts x with
  | some i, some (.array len elem), .pointer (some a) => match sizeI P elem with
    | some size => if 0 ≤ i ∧ i < len then some (.pointer (some (a.add (i.toNat * size))), h) else none
    | none => none
  | some i, some (.slice elem), .slice (some a) len _ => match sizeI P elem with
    | some size => if 0 ≤ i ∧ i < len then some (.pointer (some (a.add (i.toNat * size))), h) else none
    | none => none
  | _, _, _ => none
noncomputable def qPart (P : Program) (t : TypeId) (cs : List Value) (off : Nat) : Option Value :=
  match isAggI P t, sizeI P t with
  | some true, some n => match qTake n (qDrop off cs) with
    | some l => some (.agg ⟨l⟩)
    | none => none
  | some false, some _ => qGet? cs off
  | _, _ => none
theorem qPart_eq {P : Program} {t : TypeId} {cs : List Value} {off : Nat} {v : Value} (he : qPart P t cs off = some v) : partI P t cs off = some v := by
  unfold qPart at he
  unfold partI
  split at he
  · rename_i n h1 h2
    rw [qTake_eq, qDrop_eq] at he
    split at he
    · rename_i l hl
      split at hl
      · cases hl; simp only [h1, h2]; simpa using he
      · cases hl
    · cases he
  · rename_i n h1 h2
    rw [qGet?_eq] at he
    simp only [h1, h2, he]
  · cases he
noncomputable def fField (P : Program) (s : TypeId) (x : Operand) (f : Nat) (ts : List Value) (h : Heap) : Option (Value × Heap) := match fieldOf P s f, qEv ts x with
  | some fl, .agg cs => match qPart P fl.type cs.toList fl.offset with
    | some v => some (v, h)
    | none => none
  | _, _ => none
theorem fField_sound {P : Program} {s : TypeId} {x : Operand} {f : Nat} {ts : List Value} {h : Heap} {r : Value × Heap} (he : fField P s x f ts h = some r) : (match fieldOf P s f, evI ts x with
  | some fl, .agg cs => (partI P fl.type cs.toList fl.offset).map fun v => (v, h)
  | _, _ => none) = some r := by
  unfold fField at he
  rw [qEv_eq] at he
  split at he
  · rename_i fl cs h1 h2
    split at he
    · rename_i v hv
      simp only [h1, qPart_eq hv]; simpa using he
    · cases he
  · cases he
noncomputable def fIndex (P : Program) (t : TypeId) (x ix : Operand) (ts : List Value) (h : Heap) : Option (Value × Heap) := match intI (qEv ts ix), P.underlying t, qEv ts x with
  | some i, some (.array len elem), .agg cs => match sizeI P elem with
    | some size => if 0 ≤ i ∧ i < len then match qPart P elem cs.toList (i.toNat * size) with
      | some v => some (v, h)
      | none => none
      else none
    | none => none
  | some i, some .string, .string s => if 0 ≤ i then match qGet? s.data.toList i.toNat with
    | some b => some (.int .u8 b.toNat, h)
    | none => none
    else none
  | _, _, _ => none
theorem fIndex_sound {P : Program} {t : TypeId} {x ix : Operand} {ts : List Value} {h : Heap} {r : Value × Heap} (he : fIndex P t x ix ts h = some r) : (match intI (evI ts ix), P.underlying t, evI ts x with
    | some i, some (.array len elem), .agg cs => match sizeI P elem with
      | some size => if 0 ≤ i ∧ i < len then (partI P elem cs.toList (i.toNat * size)).map fun v => (v, h) else none
      | none => none
    | some i, some .string, .string s => if 0 ≤ i then match s.data.toList[i.toNat]? with
      | some b => some (.int .u8 b.toNat, h)
      | none => none
      else none
    | _, _, _ => none) = some r := by
  unfold fIndex at he
  rw [qEv_eq, qEv_eq] at he
  split at he
  · rename_i i len elem cs h1 h2 h3
    split at he
    · rename_i size hs
      split at he
      · rename_i hi
        split at he
        · rename_i v hv
          simp only [hs, if_pos hi, qPart_eq hv]; simpa using he
        · cases he
      · cases he
    · cases he
  · rename_i i s h1 h2 h3
    split at he
    · rename_i hi
      rw [qGet?_eq] at he
      rw [if_pos hi]; exact he
    · cases he
  · cases he
noncomputable def fExtract (t : Operand) (i : Nat) (ts : List Value) (h : Heap) : Option (Value × Heap) := match qEv ts t with
  | .tuple ⟨vs⟩ => match qGet? vs i with
    | some v => some (v, h)
    | none => none
  | _ => none
theorem fExtract_sound {t : Operand} {i : Nat} {ts : List Value} {h : Heap} {r : Value × Heap} (he : fExtract t i ts h = some r) : (match evI ts t with
    | .tuple vs => (vs.toList[i]?).map fun v => (v, h)
    | _ => none) = some r := by
  unfold fExtract at he
  rw [qEv_eq] at he
  split at he
  · rename_i vs hv1
    rw [qGet?_eq] at he
    split at he
    · rename_i v hv
      rw [hv1]
      show (vs[i]?).map _ = some r
      rw [hv]; exact he
    · cases he
  · cases he
noncomputable def fBox (x : Operand) (t : TypeId) (ts : List Value) (h : Heap) : Option (Value × Heap) := some (newI h (Value.cellList (qEv ts x)) t .fix)
def fAlloc (P : Program) (t : TypeId) (h : Heap) : Option (Value × Heap) := match zeroI P t with
  | some z => some (newI h z t .fix)
  | none => none
noncomputable def fMakeFunc (fn : Fn) (first captured : Array Operand) (ts : List Value) (h : Heap) : Option (Value × Heap) := some (.func fn ⟨qMap (qEv ts) first.toList⟩ ⟨qMap (qEv ts) captured.toList⟩, h)
noncomputable def fPick (c a b : Operand) (ts : List Value) (h : Heap) : Option (Value × Heap) := match qEv ts c with
  | .bool true => some (qEv ts a, h)
  | .bool false => some (qEv ts b, h)
  | _ => none
noncomputable def fBinO (op : BinOp) (x y : Operand) (ts : List Value) (h : Heap) : Option (Value × Heap) := match fBin op (qEv ts x) (qEv ts y) with
  | some v => some (v, h)
  | none => none
noncomputable def fBi (P : Program) (b : Builtin) (args : Array Operand) (argTypes : Array TypeId) (ts : List Value) (h : Heap) : Option (Value × Heap) := builtinI P h b argTypes (qMap (qEv ts) args.toList)

/-- Operations that have a quick way. -/
noncomputable def fastOp (P : Program) (o : Op) (ts : List Value) (h : Heap) : Option (Value × Heap) := match o with
  | .move x | .assign x => some (qEv ts x, h)
  | .load t a => fLoad P t a ts h
  | .store t a x => fStore P t a x ts h
  | .fieldAddr s x f => fFieldAddr P s x f ts h
  | .indexAddr t x ix => fIndexAddr P t x ix ts h
  | .field s x f => fField P s x f ts h
  | .index t x ix => fIndex P t x ix ts h
  | .extract t i => fExtract t i ts h
  | .box t x => fBox x t ts h
  | .alloc t => fAlloc P t h
  | .makeFunc fn first captured => fMakeFunc fn first captured ts h
  | .pick c a b => fPick c a b ts h
  | .binOp op _ x y _ => fBinO op x y ts h
  | .call { callee := .builtin b, args, argTypes } => fBi P b args argTypes ts h
  | _ => none
theorem qEvF (ts : List Value) : qEv ts = evI ts := by funext o; exact qEv_eq ts o
theorem fastOp_sound {P : Program} {o : Oper} {ts : List Value} {h : Heap} {r : Value × Heap} (he : fastOp P o.op ts h = some r) : opB P o ts h = some r := by
  generalize ho : o.op = op at he
  cases op <;> simp only [fastOp, reduceCtorEq] at he
  case binOp op t x y ty =>
    unfold fBinO at he
    rw [qEvF] at he
    split at he
    · rename_i v hv; simp only [Option.some.injEq] at he; subst he; exact fBin_sound ho hv
    · cases he
  case call c =>
    obtain ⟨callee, args, argTypes⟩ := c
    cases callee <;> simp only [reduceCtorEq] at he
    unfold opB
    rw [ho]
    unfold fBi at he
    rw [qEvF, qMap_eq] at he
    rename_i b
    show (match builtinI P h b argTypes (args.toList.map (evI ts)) with
      | some r => some r
      | none => _) = some r
    rw [he]
  all_goals (unfold opB; rw [ho])
  case load t a => exact fLoad_sound he
  case store t a x => exact fStore_sound he
  case field s x f => exact fField_sound he
  case index t x ix => exact fIndex_sound he
  case extract t i => exact fExtract_sound he
  case makeFunc fn a b => simp only [fMakeFunc, qEvF, qMap_eq] at he; exact he
  all_goals (first | exact he | (simp only [fFieldAddr, fIndexAddr, fBox, fPick, qEvF] at he; exact he))

noncomputable def opQ (P : Program) (o : Oper) (ts : List Value) (h : Heap) : Option (Value × Heap) := match fastOp P o.op ts h with
  | some r => some r
  | none => opI P o ts h
theorem opQ_eq (P : Program) (o : Oper) (ts : List Value) (h : Heap) : opQ P o ts h = opI P o ts h := by
  unfold opQ
  split
  · rename_i r he
    have := fastOp_sound he
    unfold opI
    rw [this]
  · rfl
end Go.Ideal

end
section
/- Closed runs in the kernel: the interpreter with all that it makes written out at once, so that nothing is reckoned twice. It answers as the interpreter does. Over any program. -/
set_option linter.unusedVariables false
set_option linter.unusedSimpArgs false
namespace Go.Ideal
open Go.RowKit

section
variable {β : Type}

noncomputable def fBlk (b : Blk) (k : Blk → β) : β := match b with
  | .cells cs t m => fL (fV 1) cs fun cs => fN t fun t => match m with
    | .ro => k (.cells cs t .ro)
    | .fix => k (.cells cs t .fix)
    | .grow => k (.cells cs t .grow)
    | .dead => k (.cells cs t .dead)
  | .iter s pos => fS s fun s => fN pos fun pos => k (.iter s pos)
  | .own n t => fN n fun n => fN t fun t => k (.own n t)
  | .map ks vs => fL (fV 6) ks fun ks => fL (fV 6) vs fun vs => k (.map ks vs)
  | .pool rows => k (.pool rows)
theorem fBlk_eq (b : Blk) (k : Blk → β) : fBlk b k = k b := by
  cases b with
  | cells cs t m => cases m <;> simp only [fBlk, fL_eq (fV_eq 1), fL_eq (fV_eq 6), fN_eq]
  | _ => simp only [fBlk, fL_eq (fV_eq 6), fN_eq, fS_eq]

/-- One place of the heap, written out. -/
noncomputable def fT (g : Blk → (Blk → β) → β) : Nat → Trie Blk → Nat → (Trie Blk → β) → β
  | 0, t, _, k => k t
  | _ + 1, .leaf, _, k => k .leaf
  | _ + 1, .node v l r, 0, k => fO g v fun v => k (.node v l r)
  | f + 1, .node v l r, n + 1, k => match Nat.beq (n % 2) 0 with
    | true => fN (n / 2) fun m => fT g f l m fun l => match v with
      | none => k (.node none l r)
      | some v => k (.node (some v) l r)
    | false => fN (n / 2) fun m => fT g f r m fun r => match v with
      | none => k (.node none l r)
      | some v => k (.node (some v) l r)
theorem fT_eq {g : Blk → (Blk → β) → β} (hg : ∀ b k, g b k = k b) : ∀ (f : Nat) (t : Trie Blk) (n : Nat) (k : Trie Blk → β), fT g f t n k = k t
  | 0, _, _, _ => rfl
  | f + 1, .leaf, n, k => by cases n <;> rfl
  | f + 1, .node v l r, 0, k => by simp only [fT, fO_eq hg]
  | f + 1, .node v l r, n + 1, k => by
    have ih : ∀ t n (k : Trie Blk → β), fT g f t n k = k t := fT_eq hg f
    cases h : Nat.beq (n % 2) 0 <;> cases v <;> simp only [fT, h, fN_eq, ih]
/-- A block that is as it should be. -/
def fBlk0 (b : Blk) (k : Blk → β) : β := match b with
  | .cells cs t m => k (.cells cs t m)
  | .iter s pos => k (.iter s pos)
  | .own n t => k (.own n t)
  | .map ks vs => k (.map ks vs)
  | .pool rows => k (.pool rows)
theorem fBlk0_eq (b : Blk) (k : Blk → β) : fBlk0 b k = k b := by cases b <;> rfl
noncomputable def fH (i : Nat) (h : Heap) (k : Heap → β) : β := match h with
  | ⟨next, tr⟩ => fN next fun next => fT fBlk 64 tr i fun tr => k ⟨next, tr⟩
theorem fH_eq (i : Nat) (h : Heap) (k : Heap → β) : fH i h k = k h := by
  obtain ⟨next, tr⟩ := h
  simp only [fH, fN_eq, fT_eq fBlk_eq]
noncomputable def fH0 (i : Nat) (h : Heap) (k : Heap → β) : β := match h with
  | ⟨next, tr⟩ => fN next fun next => fT fBlk0 64 tr i fun tr => k ⟨next, tr⟩
theorem fH0_eq (i : Nat) (h : Heap) (k : Heap → β) : fH0 i h k = k h := by
  obtain ⟨next, tr⟩ := h
  simp only [fH0, fN_eq, fT_eq fBlk0_eq]
noncomputable def fSet (l : List Value) (i : Nat) (v : Value) (k : List Value → β) : β :=
  @List.rec Value (fun _ => Nat → (List Value → β) → β) (fun _ k => k []) (fun a l ih i k => @Nat.rec (fun _ => β) (k (v :: l)) (fun i _ => ih i fun l => k (a :: l)) i) l i k
theorem fSet_eq : ∀ (l : List Value) (i : Nat) (v : Value) (k : List Value → β), fSet l i v k = k (l.set i v)
  | [], _, _, _ => rfl
  | _ :: _, 0, _, _ => rfl
  | a :: l, i + 1, v, k => by
    have ih := fSet_eq l i v
    simp only [fSet] at ih ⊢
    simp only [ih, List.set_cons_succ]
noncomputable def fPut (ts : List Value) (dst : Option Tmp) (v : Value) (k : List Value → β) : β := match dst with
  | some d => fSet ts d v k
  | none => k ts
theorem fPut_eq (ts : List Value) (dst : Option Tmp) (v : Value) (k : List Value → β) : fPut ts dst v k = k (putI ts dst v) := by cases dst <;> simp only [fPut, putI, fSet_eq]
end

/-- The block that an operation may write. -/
def blkOf (v : Value) : Option Nat := match v with
  | .pointer (some ⟨i, _, _⟩) => some i
  | .slice (some ⟨i, _, _⟩) _ _ => some i
  | .map (some i) => some i
  | .iface 1000003 (.tuple ⟨.int _ tok :: _⟩) => some tok.toNat
  | _ => none
noncomputable def wrOf (o : Op) (ts : List Value) : Option Nat := match o with
  | .store _ a _ => blkOf (qEv ts a)
  | .mapUpdate _ m _ _ | .insert _ m _ _ => blkOf (qEv ts m)
  | .next it _ => blkOf (qEv ts it)
  | .call { args := ⟨x :: _⟩, .. } => blkOf (qEv ts x)
  | _ => none
/-- May it change the heap? 0: no, 1: cells that are there, 2: anyhow. -/
def mayWr (o : Op) : Nat := match o with
  | .move _ | .assign _ | .pick _ _ _ | .load _ _ | .nilCheck _ | .binOp _ _ _ _ _ | .unOp _ _ _ | .fieldAddr _ _ _ | .indexAddr _ _ _
  | .field _ _ _ | .index _ _ _ | .extract _ _ | .makeInterface _ _ | .makeFunc _ _ _ | .slice _ _ _ _ _ => 0
  | .call { callee := .value _, .. } => 0
  | .store _ _ _ => 1
  | _ => 2

/-- The heap behind an operation, written out where it may have been written. -/
noncomputable def fHeap {β : Type} (o : Op) (ts : List Value) (h : Heap) (k : Heap → β) : β := match mayWr o with
  | 0 => k h
  | 1 => match wrOf o ts with
    | some i => fN i fun i => fH0 i h k
    | none => k h
  | _ => match wrOf o ts with
    | some i => fN i fun i => fH i h fun h => match h with
      | ⟨next, tr⟩ => fH (next - 1) ⟨next, tr⟩ k
    | none => match h with
      | ⟨next, tr⟩ => fN next fun next => fH (next - 1) ⟨next, tr⟩ k
theorem fHeap_eq {β : Type} (o : Op) (ts : List Value) (h : Heap) (k : Heap → β) : fHeap o ts h k = k h := by
  obtain ⟨next, tr⟩ := h
  unfold fHeap
  split
  · rfl
  · split
    · simp only [fN_eq, fH0_eq]
    · rfl
  · split
    · simp only [fN_eq, fH_eq]
    · simp only [fN_eq, fH_eq]

/-- How deep is what an operation answers to be written out? -/
def deepOf : Op → Nat
  | .move _ | .assign _ | .pick _ _ _ | .nilCheck _ | .extract _ _ => 0
  | .load _ _ | .field _ _ _ | .index _ _ _ => 1
  | .call { callee := .value _, .. } => 1
  | _ => 6

noncomputable def qCallee (ts : List Value) (c : Call) : Option (FuncId × List Value) :=
  match c.callee with
  | .value (.func f) => some (f, qMap (qEv ts) c.args.toList)
  | .value x => match qEv ts x with
    | .func (.func f) ⟨first⟩ ⟨captured⟩ => some (f, qApp first (qApp (qMap (qEv ts) c.args.toList) captured))
    | _ => none
  | _ => none
theorem qCallee_eq (ts : List Value) (c : Call) : qCallee ts c = calleeI ts c := by
  unfold qCallee calleeI
  simp only [qEvF, qMap_eq, qApp_eq]
  cases c.callee with
  | value x => cases x with
    | func f => rfl
    | _ =>
      simp only
      generalize evI ts _ = y
      cases y with
      | func f a b => cases f <;> first | (obtain ⟨a⟩ := a; obtain ⟨b⟩ := b; simp only [List.append_assoc]; done) | rfl
      | _ => rfl
  | _ => rfl
noncomputable def qWanted (o : Oper) (ops : List Oper) (ts : List Value) : Bool := match o.guard with
  | none => true
  | some (j, want) => match qGet? ops j with
    | some oj => match oj.dst with
      | some t => match qGet? ts t with
        | some (.bool b) => b == want
        | _ => false
      | none => false
    | none => false
theorem qWanted_eq (o : Oper) (ops : List Oper) (ts : List Value) : qWanted o ops ts = wantedI o ops ts := by
  unfold qWanted wantedI yieldedI
  simp only [qGet?_eq]
  cases o.guard with
  | none => rfl
  | some g =>
    obtain ⟨j, want⟩ := g
    simp only
    cases ops[j]? with
    | none => rfl
    | some oj =>
      simp only [Option.bind_some]
      cases oj.dst with
      | none => rfl
      | some t =>
        simp only
        cases ts[t]? with
        | none => rfl
        | some v => cases v <;> rfl

noncomputable def operF (P : Program) (call : CallI) (o : Oper) (ts : List Value) (h : Heap) : Option (Value × Heap) :=
  match o.op with
  | .call c => match c.callee with
    | .builtin _ => opQ P o ts h
    | _ => match qCallee ts c with
      | some (f, args) => fN f fun f => fL (fV 0) args fun args => call f args h
      | none => none
  | _ => opQ P o ts h
theorem operF_eq (P : Program) (call : CallI) (o : Oper) (ts : List Value) (h : Heap) : operF P call o ts h = operI P call o ts h := by
  unfold operF operI
  cases o.op with
  | call c => cases c.callee <;> first | exact opQ_eq P o ts h | (simp only [fN_eq, fL_eq (fV_eq 0), opQ_eq, qCallee_eq]; rfl)
  | _ => exact opQ_eq P o ts h

noncomputable def stepF (P : Program) (call : CallI) (all : List Oper) (o : Oper) (ts : List Value) (h : Heap) (ih : List Value → Heap → Option (List Value × Heap)) : Option (List Value × Heap) := match qWanted o all ts with
  | true => match operF P call o ts h with
    | some (v, h') => fV (deepOf o.op) v fun v => fHeap o.op ts h' fun h' => fPut ts o.dst v fun ts => ih ts h'
    | none => none
  | false => fPut ts o.dst undef fun ts => ih ts h
noncomputable def opsF (P : Program) (call : CallI) (all l : List Oper) (ts : List Value) (h : Heap) : Option (List Value × Heap) :=
  @List.rec Oper (fun _ => List Value → Heap → Option (List Value × Heap)) (fun ts h => some (ts, h)) (fun o _ ih ts h => stepF P call all o ts h ih) l ts h
theorem opsF_eq (P : Program) (call : CallI) (all : List Oper) : ∀ (l : List Oper) (ts : List Value) (h : Heap), opsF P call all l ts h = opsI P (fun _ => call) all l ts h
  | [], _, _ => rfl
  | o :: rest, ts, h => by
    have ih := opsF_eq P call all rest
    show stepF P call all o ts h (opsF P call all rest) = _
    simp only [stepF, opsI, operF_eq, qWanted_eq, fV_eq, fHeap_eq, fPut_eq, ih]
    cases wantedI o all ts <;> rfl

noncomputable def stepTF (P : Program) (call : CallI) (all : List Oper) (o : Oper) (ts : List Value) (h : Heap) (ih : List Value → Heap → Option (List Ent × List Value × Heap)) : Option (List Ent × List Value × Heap) := match qWanted o all ts with
  | true => match operF P call o ts h with
    | some (v, h') => fV (deepOf o.op) v fun v => fHeap o.op ts h' fun h' => fPut ts o.dst v fun ts' => match ih ts' h' with
      | some (l, r) => some (⟨true, v, ts, h⟩ :: l, r)
      | none => none
    | none => none
  | false => fPut ts o.dst undef fun ts' => match ih ts' h with
      | some (l, r) => some (⟨false, undef, ts, h⟩ :: l, r)
      | none => none
noncomputable def opsTF (P : Program) (call : CallI) (all l : List Oper) (ts : List Value) (h : Heap) : Option (List Ent × List Value × Heap) :=
  @List.rec Oper (fun _ => List Value → Heap → Option (List Ent × List Value × Heap)) (fun ts h => some ([], ts, h)) (fun o _ ih ts h => stepTF P call all o ts h ih) l ts h
theorem opsTF_eq (P : Program) (call : CallI) (all : List Oper) : ∀ (l : List Oper) (ts : List Value) (h : Heap), opsTF P call all l ts h = opsT P (fun _ => call) all l ts h
  | [], _, _ => rfl
  | o :: rest, ts, h => by
    have ih := opsTF_eq P call all rest
    show stepTF P call all o ts h (opsTF P call all rest) = _
    simp only [stepTF, opsT, operF_eq, qWanted_eq, fV_eq, fHeap_eq, fPut_eq, ih]
    cases wantedI o all ts <;> rfl

theorem opsT_opsI (P : Program) (call : Nat → CallI) (all : List Oper) : ∀ (l : List Oper) (call : Nat → CallI) (ts : List Value) (h : Heap), opsI P call all l ts h = (opsT P call all l ts h).map (·.2)
  | [], _, _, _ => rfl
  | o :: rest, call, ts, h => by
    simp only [opsI, opsT]
    split
    · split
      · rw [opsT_opsI P call all rest]; split <;> (rename_i e; rw [e]; try rfl)
      · rfl
    · rw [opsT_opsI P call all rest]; split <;> (rename_i e; rw [e]; try rfl)

noncomputable def qResult (P : Program) (ts : List Value) (h : Heap) : ResultVar → Option Value
  | .tmp t => some (qGet undef ts t)
  | .cell a t => match qGet undef ts a with
    | .pointer (some ad) => loadI P h t ad
    | _ => none
theorem qResult_eq (P : Program) (ts : List Value) (h : Heap) (r : ResultVar) : qResult P ts h r = resultI P ts h r := by cases r <;> (simp only [qResult, resultI, qGet_eq]; try rfl)
noncomputable def qResults (P : Program) (ts : List Value) (h : Heap) (l : List ResultVar) : Option (List Value) :=
  @List.rec ResultVar (fun _ => Option (List Value)) (some []) (fun r _ ih => match qResult P ts h r, ih with
    | some v, some l => some (v :: l)
    | _, _ => none) l
theorem qResults_eq (P : Program) (ts : List Value) (h : Heap) : ∀ (l : List ResultVar), qResults P ts h l = resultsI P ts h l
  | [] => rfl
  | r :: l => by
    have ih := qResults_eq P ts h l
    show (match qResult P ts h r, qResults P ts h l with
      | some v, some l => some (v :: l)
      | _, _ => none) = _
    rw [qResult_eq, ih]
    rfl
noncomputable def callF (P : Program) (ex : Code → List Value → Heap → Option (Ex × List Value × Heap)) : CallI := fun f args h =>
  match P.funcs[f]? with
  | some fn => match fn.body with
    | some c => fL (fV 0) (qApp args (qRep undef (fn.ntmps - qLen args))) fun ts0 => match ex c ts0 h with
      | some (.normal, ts, h') | some (.ret, ts, h') => match qResults P ts h' fn.results.toList with
        | some l => some (tupleI l, h')
        | none => none
      | _ => none
    | none => if args.all flat then (pureRun P (callFunc f args.toArray)).bind fun
        | .value v => if flat v then some (v, h) else none
        | _ => none
      else none
  | none => none
theorem callF_eq (P : Program) (ex : Code → List Value → Heap → Option (Ex × List Value × Heap)) : callF P ex = callWith P noOrc ex := by
  funext f args h
  simp only [callF, callWith, noOrc, fL_eq (fV_eq 0), qApp_eq, qRep_eq, qLen_eq, qResults_eq]
  rfl

noncomputable def codeF (P : Program) (ex : Code → List Value → Heap → Option (Ex × List Value × Heap)) (c : Code) (ts : List Value) (h : Heap) : Option (Ex × List Value × Heap) :=
    match c with
    | .skip | .label _ => some (.normal, ts, h)
    | .seq a b => match ex a ts h with
      | some (.normal, ts', h') => ex b ts' h'
      | r => r
    | .cond c a b => match qEv ts c with
      | .bool true => ex a ts h
      | .bool false => ex b ts h
      | _ => none
    | .block id b => match ex b ts h with
      | some (.exit id', ts', h') => match Nat.beq id' id with
        | true => some (.normal, ts', h')
        | false => some (.exit id', ts', h')
      | r => r
    | .loop b => match ex b ts h with
      | some (.normal, ts', h') => ex (.loop b) ts' h'
      | r => r
    | .exit id => some (.exit id, ts, h)
    | .scope b => ex b ts h
    | .ret => some (.ret, ts, h)
    | .region _ ops draw => match draw with
      | false => match opsF P (callF P ex) ops.toList ops.toList ts h with
        | some (ts', h') => some (.normal, ts', h')
        | none => none
      | true => match pairsOK P noOrc.isPure ops (pres ops.toList []) 0 ops.toList with
        | false => none
        | true => match drawStill P noOrc.isPure ops with
          | true => match opsF P (callF P ex) ops.toList ops.toList ts h with
            | some (ts', h') => some (.normal, ts', h')
            | none => none
          | false => match opsTF P (callF P ex) ops.toList ops.toList ts h with
            | some (ents, ts', h') => match readsOK P noOrc.isPure (pres ops.toList []) (loudBits P noOrc.isPure ops.toList 0) ents h' 0 ops.toList ents with
              | true => some (.normal, ts', h')
              | false => none
            | none => none
    | _ => none
noncomputable def execF (P : Program) (n : Nat) : Code → List Value → Heap → Option (Ex × List Value × Heap) :=
  @Nat.rec (fun _ => Code → List Value → Heap → Option (Ex × List Value × Heap)) (fun _ _ _ => none) (fun _ ih => codeF P ih) n
theorem execF_eq (P : Program) : ∀ (n : Nat), execF P n = exec P noOrc n
  | 0 => by funext c ts h; rfl
  | n + 1 => by
    have ih := execF_eq P n
    show codeF P (execF P n) = _
    funext c ts h
    rw [ih]
    have fuse : ∀ ops : Array Oper, (match pairsOK P noOrc.isPure ops (pres ops.toList []) 0 ops.toList with
        | false => none
        | true => match drawStill P noOrc.isPure ops with
          | true => match opsF P (callF P (exec P noOrc n)) ops.toList ops.toList ts h with
            | some (ts', h') => some (Ex.normal, ts', h')
            | none => none
          | false => match opsTF P (callF P (exec P noOrc n)) ops.toList ops.toList ts h with
            | some (ents, ts', h') => match readsOK P noOrc.isPure (pres ops.toList []) (loudBits P noOrc.isPure ops.toList 0) ents h' 0 ops.toList ents with
              | true => some (.normal, ts', h')
              | false => none
            | none => none) = match opsT P (fun _ => callWith P noOrc (exec P noOrc n)) ops.toList ops.toList ts h with
        | some (ents, ts', h') => match pairsOK P noOrc.isPure ops (pres ops.toList []) 0 ops.toList && drawReads P noOrc.isPure ops ents h' with
          | true => some (.normal, ts', h')
          | false => none
        | none => none := fun ops => by
      rw [callF_eq, opsF_eq, opsTF_eq, opsT_opsI P (fun _ => callWith P noOrc (exec P noOrc n))]
      generalize opsT P (fun _ => callWith P noOrc (exec P noOrc n)) ops.toList ops.toList ts h = r
      unfold drawReads
      cases pairsOK P noOrc.isPure ops (pres ops.toList []) 0 ops.toList <;> cases drawStill P noOrc.isPure ops <;> rcases r with _ | ⟨ents, ts', h'⟩ <;> simp
    cases c with
    | region id ops d =>
      cases d with
      | false => simp only [codeF, exec, callF_eq, opsF_eq]; rfl
      | true => simp only [codeF, exec]; exact fuse ops
    | cond o a b => simp only [codeF, exec, qEv_eq]; rfl
    | _ => first | (simp only [codeF, exec]; done) | (simp only [codeF, exec]; rfl)

/-- A closed run. -/
theorem CallK.runF {P : Program} (hP : ProgOK P) (k : Nat) {f : FuncId} {args : List Value} {v : Value} (ha : args.all clo = true) (hv : clo v = true) (ht : hasText P f = true) (he : (callF P (execF P k) f args (Heap.empty P.globals.size)).map (·.1) = some v) : CallK P f args v :=
  CallK.run hP k ha hv ht (by rw [execF_eq, callF_eq] at he; exact he)
end Go.Ideal

end
section
/- Closed runs in the kernel, with what is known of some functions at some arguments. Over any program. -/
set_option linter.unusedVariables false
set_option linter.unusedSimpArgs false
namespace Go.Ideal
open Go.RowKit

/-- What is known: of a function, at arguments as they stand in memory, a plain answer. -/
abbrev Tab := List (FuncId × List Value × Value)
def sameTab : List Value → List Value → Bool
  | [], [] => true
  | a :: l, b :: m => sameN 12 a b && sameTab l m
  | _, _ => false
theorem sameTab_eq : ∀ (l m : List Value), sameTab l m = true → l = m
  | [], [], _ => rfl
  | a :: l, b :: m, h => by
    simp only [sameTab, Bool.and_eq_true] at h
    rw [sameN_eq _ _ _ h.1, sameTab_eq l m h.2]
  | [], _ :: _, h => by simp [sameTab] at h
  | _ :: _, [], h => by simp [sameTab] at h
def tabG : Tab → CallI
  | [], _, _, _ => none
  | e :: t, f, args, h => match Nat.beq f e.1 with
    | true => match borL (borV false 8 h) args with
      | some l => match sameTab e.2.1 l && flat e.2.2 with
        | true => some (e.2.2, h)
        | false => tabG t f args h
      | none => tabG t f args h
    | false => tabG t f args h
def orcOf (g : CallI) : Orc := ⟨fun _ => none, g⟩
/-- All that stands there is so. -/
def TabOK (P : Program) : Tab → Prop
  | [] => True
  | e :: t => CallK P e.1 e.2.1 e.2.2 ∧ hasText P e.1 = true ∧ TabOK P t
variable {P : Program}
theorem tabG_callS : ∀ {t : Tab}, TabOK P t → ∀ {f : FuncId} {args : List Value} {h h' : Heap} {v : Value}, tabG t f args h = some (v, h') → hasText P f = true ∧ CallS P f args h fun v1 h1 => v1 = v ∧ h1 = h'
  | [], _, f, args, h, h', v, he => by cases he
  | e :: t, hk, f, args, h, h', v, he => by
    have rest := fun k : tabG t f args h = some (v, h') => tabG_callS hk.2.2 k
    unfold tabG at he
    split at he
    · rename_i h1
      have h1 := Nat.eq_of_beq_eq_true h1
      subst h1
      split at he
      · rename_i l hl
        split at he
        · rename_i h2
          simp only [Bool.and_eq_true] at h2
          cases he
          have := sameTab_eq _ _ h2.1
          exact ⟨hk.2.1, CallS.borrow (this ▸ hk.1) hl h2.2⟩
        · exact rest he
      · exact rest he
    · exact rest he
theorem tabG_sound (hP : ProgOK P) {t : Tab} (ht : TabOK P t) {B : Nat} {w0 : Org} : CallSound P B w0 (tabG t) := by
  intro f args h v h' he σ w args' H ha o a K Q ho hK
  obtain ⟨k1, k2⟩ := tabG_callS ht he
  obtain ⟨fn, c, hf, hb⟩ := hasText_of k1
  refine Calls.wp_enter hP hf hb ho (R := fun v' w' => ∃ σ', σ.le σ' ∧ VRel σ' v v' ∧ HRel P B w0 σ' h' w') ((k2 B w0 σ w args' H ha).mono fun e w' ⟨v1, v', h1, q1, ⟨q2, q3⟩, σ', q4, q5, q6⟩ => ⟨v', q1, σ', q4, q2 ▸ q5, q3 ▸ q6⟩) fun v' w' ⟨σ', q1, q2, q3⟩ => hK σ' w' v' q1 q2 q3
theorem orcOf_sound (hP : ProgOK P) {t : Tab} (ht : TabOK P t) {B : Nat} {w0 : Org} : OrcSound P B w0 (orcOf (tabG t)) :=
  ⟨fun f args h v h' he => (by cases he), tabG_sound hP ht⟩

noncomputable def callO (P : Program) (g : CallI) (ex : Code → List Value → Heap → Option (Ex × List Value × Heap)) : CallI := fun f args h => match g f args h with
  | some r => some r
  | none => callF P ex f args h
theorem callO_eq (P : Program) (g : CallI) (ex : Code → List Value → Heap → Option (Ex × List Value × Heap)) : callO P g ex = callWith P (orcOf g) ex := by
  funext f args h
  unfold callO
  rw [callF_eq]
  show _ = (match g f args h with
    | some r => some r
    | none => callWith P noOrc ex f args h)
  rfl
noncomputable def codeO (P : Program) (g : CallI) (ex : Code → List Value → Heap → Option (Ex × List Value × Heap)) (c : Code) (ts : List Value) (h : Heap) : Option (Ex × List Value × Heap) :=
    match c with
    | .skip | .label _ => some (.normal, ts, h)
    | .seq a b => match ex a ts h with
      | some (.normal, ts', h') => ex b ts' h'
      | r => r
    | .cond c a b => match qEv ts c with
      | .bool true => ex a ts h
      | .bool false => ex b ts h
      | _ => none
    | .block id b => match ex b ts h with
      | some (.exit id', ts', h') => match Nat.beq id' id with
        | true => some (.normal, ts', h')
        | false => some (.exit id', ts', h')
      | r => r
    | .loop b => match ex b ts h with
      | some (.normal, ts', h') => ex (.loop b) ts' h'
      | r => r
    | .exit id => some (.exit id, ts, h)
    | .scope b => ex b ts h
    | .ret => some (.ret, ts, h)
    | .region _ ops draw => match draw with
      | false => match opsF P (callO P g ex) ops.toList ops.toList ts h with
        | some (ts', h') => some (.normal, ts', h')
        | none => none
      | true => match pairsOK P noOrc.isPure ops (pres ops.toList []) 0 ops.toList with
        | false => none
        | true => match drawStill P noOrc.isPure ops with
          | true => match opsF P (callO P g ex) ops.toList ops.toList ts h with
            | some (ts', h') => some (.normal, ts', h')
            | none => none
          | false => match opsTF P (callO P g ex) ops.toList ops.toList ts h with
            | some (ents, ts', h') => match readsOK P noOrc.isPure (pres ops.toList []) (loudBits P noOrc.isPure ops.toList 0) ents h' 0 ops.toList ents with
              | true => some (.normal, ts', h')
              | false => none
            | none => none
    | _ => none
noncomputable def execO (P : Program) (g : CallI) (n : Nat) : Code → List Value → Heap → Option (Ex × List Value × Heap) :=
  @Nat.rec (fun _ => Code → List Value → Heap → Option (Ex × List Value × Heap)) (fun _ _ _ => none) (fun _ ih => codeO P g ih) n
theorem execO_eq (P : Program) (g : CallI) : ∀ (n : Nat), execO P g n = exec P (orcOf g) n
  | 0 => by funext c ts h; rfl
  | n + 1 => by
    have ih := execO_eq P g n
    show codeO P g (execO P g n) = _
    funext c ts h
    rw [ih]
    have hpure : (orcOf g).isPure = noOrc.isPure := rfl
    have fuse : ∀ ops : Array Oper, (match pairsOK P noOrc.isPure ops (pres ops.toList []) 0 ops.toList with
        | false => none
        | true => match drawStill P noOrc.isPure ops with
          | true => match opsF P (callO P g (exec P (orcOf g) n)) ops.toList ops.toList ts h with
            | some (ts', h') => some (Ex.normal, ts', h')
            | none => none
          | false => match opsTF P (callO P g (exec P (orcOf g) n)) ops.toList ops.toList ts h with
            | some (ents, ts', h') => match readsOK P noOrc.isPure (pres ops.toList []) (loudBits P noOrc.isPure ops.toList 0) ents h' 0 ops.toList ents with
              | true => some (.normal, ts', h')
              | false => none
            | none => none) = match opsT P (fun _ => callWith P (orcOf g) (exec P (orcOf g) n)) ops.toList ops.toList ts h with
        | some (ents, ts', h') => match pairsOK P (orcOf g).isPure ops (pres ops.toList []) 0 ops.toList && drawReads P (orcOf g).isPure ops ents h' with
          | true => some (.normal, ts', h')
          | false => none
        | none => none := fun ops => by
      rw [callO_eq, opsF_eq, opsTF_eq, opsT_opsI P (fun _ => callWith P (orcOf g) (exec P (orcOf g) n)), hpure]
      generalize opsT P (fun _ => callWith P (orcOf g) (exec P (orcOf g) n)) ops.toList ops.toList ts h = r
      unfold drawReads
      cases pairsOK P noOrc.isPure ops (pres ops.toList []) 0 ops.toList <;> cases drawStill P noOrc.isPure ops <;> rcases r with _ | ⟨ents, ts', h'⟩ <;> simp
    cases c with
    | region id ops d =>
      cases d with
      | false => simp only [codeO, exec, callO_eq, opsF_eq]; rfl
      | true => simp only [codeO, exec]; exact fuse ops
    | cond o a b => simp only [codeO, exec, qEv_eq]; rfl
    | _ => first | (simp only [codeO, exec]; done) | (simp only [codeO, exec]; rfl)

theorem callS_runO (hP : ProgOK P) {k : Nat} {t : Tab} (hT : TabOK P t) {f : FuncId} {args : List Value} {v : Value} {h1 : Heap} {fn : Func} {c : Code} (hf : P.funcs[f]? = some fn) (hb : fn.body = some c) (he1 : callWith P (orcOf (tabG t)) (exec P (orcOf (tabG t)) k) f args (Heap.empty P.globals.size) = some (v, h1)) (hn : tabG t f args (Heap.empty P.globals.size) = none) : CallS P f args (Heap.empty P.globals.size) fun v1 _ => v1 = v := fun B w0 σ w args' H hargs =>
    (callI_sound hP (orcOf_sound hP hT) (n := k) hf hb rfl hn he1 H hargs).mono fun e w' ⟨v', k1, σ', k2, k3, k4⟩ => ⟨v, v', h1, k1, rfl, σ', k2, k3, k4⟩
/-- A closed run with what is known. -/
theorem CallK.runO (hP : ProgOK P) (k : Nat) (t : Tab) (hT : TabOK P t) {f : FuncId} {args : List Value} {v : Value} (ha : args.all clo = true) (hv : clo v = true) (ht : hasText P f = true) (hn : tabG t f args (Heap.empty P.globals.size) = none) (he : (callO P (tabG t) (execO P (tabG t) k) f args (Heap.empty P.globals.size)).map (·.1) = some v) : CallK P f args v := by
  rw [execO_eq, callO_eq] at he
  obtain ⟨⟨v1, h1⟩, he1, e⟩ := Option.map_eq_some_iff.1 he
  obtain rfl : v1 = v := e
  obtain ⟨fn, c, hf, hb⟩ := hasText_of ht
  refine CallK.of ha hv (callS_runO hP hT hf hb he1 hn)
end Go.Ideal

end
section
/- What the closure's law's example answers: step by step. -/
set_option linter.unusedVariables false
set_option linter.unusedSimpArgs false
set_option maxRecDepth 100000
namespace Go.Proofs.Ytepijhnfeafmaaa
open Go Go.Ideal
def smallV : Value := .agg (Array.mk ([vsl 1 (faceL ⟨167772161, 1500, 2, 0, ⟨0, []⟩, ⟨1, []⟩, ⟨0, []⟩⟩).toArray, vsl 2 (lblL ⟨0, []⟩ ++ lblL ⟨1, []⟩).toArray, .slice none 0 0, vsl 1 (relabL ⟨-1, 1, ⟨0, 0⟩, ⟨0, 0⟩, -1, 0⟩).toArray, .slice none 0 0, .slice none 0 0,
  .int .i64 1, .int .i64 1, .int .i64 1, .int .i64 1, .int .i64 1, .int .i64 1, .int .i64 1, .int .i64 1, .int .i64 1]))
theorem smallRight_w : CallK Try.prog 19 [smallV] (.bool true) := CallK.runF progOK 3000 rfl rfl (by kernel_rfl) (by kernel_rfl)
def smallTab : Tab := [(19, [smallV], .bool true)]
theorem smallTab_ok : TabOK Try.prog smallTab := ⟨smallRight_w, by kernel_rfl, trivial⟩
theorem awake36_w : CallK Try.prog 36 [] (.bool true) := CallK.runO progOK 3000 smallTab smallTab_ok rfl rfl (by kernel_rfl) (by rfl) (by kernel_rfl)
end Go.Proofs.Ytepijhnfeafmaaa

end
section
/- The rounds of steps, one by one; a closure's closure. -/
set_option linter.unusedVariables false
set_option linter.unusedSimpArgs false
set_option linter.unusedVariables false
set_option linter.unusedSimpArgs false
namespace Go.Proofs.Ytepijhnfeafmaaa
open Go Go.Ideal

theorem Mid.next {n : Nat} {e : Nat → Nat → Bool} {i : Nat} {c d : Nat → Bool} {a b : Nat} (h : Mid n e i c a b d) (ha : a < n) (hb : b < n) (hd : d a = true) : Mid n e i c a (b + 1) (fun j => if j = b then d b || e a b else d j) := by
  refine ⟨fun j hj hq => ?_, fun j hj hc => ?_, fun a' b' ha' hb' hlt hc he => ?_⟩
  · by_cases hjb : j = b
    · subst hjb
      rw [if_pos rfl, Bool.or_eq_true] at hq
      rcases hq with hq | hq
      · exact h.sound j hj hq
      · exact (h.sound a ha hd).step hq hj
    · rw [if_neg hjb] at hq; exact h.sound j hj hq
  · have := h.keep j hj hc
    by_cases hjb : j = b
    · subst hjb; rw [if_pos rfl, this]; rfl
    · rw [if_neg hjb]; exact this
  · by_cases hn : b' = b
    · subst hn
      rw [if_pos rfl, Bool.or_eq_true]
      rcases hlt with h1 | ⟨rfl, h1⟩
      · exact .inl (h.gone a' b' ha' hb' (.inl h1) hc he)
      · exact .inr he
    · rw [if_neg hn]
      exact h.gone a' b' ha' hb' (by omega) hc he
theorem Mid.row {n : Nat} {e : Nat → Nat → Bool} {i : Nat} {c d : Nat → Bool} {a : Nat} (h : Mid n e i c a n d) : Mid n e i c (a + 1) 0 d :=
  ⟨h.sound, h.keep, fun a' b' ha' hb' hlt hc he => h.gone a' b' ha' hb' (by omega) hc he⟩
theorem Mid.skip {n : Nat} {e : Nat → Nat → Bool} {i : Nat} {c d : Nat → Bool} {a b : Nat} (h : Mid n e i c a b d) (hd : d a = false) : Mid n e i c (a + 1) 0 d :=
  ⟨h.sound, h.keep, fun a' b' ha' hb' hlt hc he => by
    by_cases hn : a' = a
    · subst hn; have := h.keep a' ha' hc; rw [hd] at this; cases this
    · exact h.gone a' b' ha' hb' (by omega) hc he⟩
theorem Rnd.start {n : Nat} {e : Nat → Nat → Bool} {i : Nat} (hi : i < n) {c : Nat → Bool} (hc : ∀ k, c k = true ↔ k = i) : Rnd n e i 0 c := by
  refine ⟨fun b _ hb => ?_, (hc i).2 rfl, .inl ?_⟩
  · obtain rfl := (hc b).1 hb; exact .refl hi
  · have h0 : cnt n (fun _ => false) < cnt n c := cnt_lt (fun _ _ h => by cases h) hi rfl ((hc i).2 rfl)
    omega
theorem closM_again (m : List (List Bool)) : closM (closM m) = closM m := by
  have hl : (closM m).length = m.length := by unfold closM; exact sqL_length _ _
  show sqL (closM m).length (comeB (closM m)) = sqL m.length (comeB m)
  rw [hl]
  have : comeB (closM m) = comeB m := by
    funext a b
    rw [Bool.eq_iff_iff, comeB_iff, comeB_iff, hl]
    exact come_again m
  rw [this]
theorem closM_row {m : List (List Bool)} {i : Nat} (hi : i < m.length) : ((closM m).getD i []).length = m.length := by
  rw [closM, sqL_row hi]; simp
theorem closM_at {m : List (List Bool)} {i k : Nat} (hi : i < m.length) (hk : k < m.length) : ((closM m).getD i []).getD k false = comeB m i k := atB_sq hi hk
theorem come_self {m : List (List Bool)} {i : Nat} (hi : i < m.length) : comeB m i i = true := comeB_iff.2 (.refl hi)
theorem come_has {m : List (List Bool)} {i k : Nat} (hi : i < m.length) (hk : k < m.length) (h : (m.getD i []).getD k false = true) : comeB m i k = true := comeB_iff.2 ((Come.refl hi).step h hk)
end Go.Proofs.Ytepijhnfeafmaaa

end
section
/- Of any table what can be come to: the walks of the laws. -/
set_option linter.unusedVariables false
set_option linter.unusedSimpArgs false
set_option maxRecDepth 100000
namespace Go.Proofs.Ytepijhnfeafmaaa
open Go Go.Ideal
theorem rowL_part {n : Nat} {p : Nat → Bool} {k : Nat} (hk : k < n) {o : Nat} (ho : o = 0 + k * 1) : (Ask.part (rowL n p) o 1 [.bool (p k)]).holds Try.prog := by
  subst ho
  rw [Nat.mul_one, Nat.zero_add]
  refine ⟨by rw [rowL_length]; omega, ?_⟩
  have h := rowL_get (p := p) hk
  have hlt := (List.getElem?_eq_some_iff.1 h).1
  rw [List.drop_eq_getElem_cons hlt]
  have := (List.getElem?_eq_some_iff.1 h).2
  simp [this]
theorem rowL_ok (N n : Nat) (p : Nat → Bool) : (rowL n p).all (refsOK 8 N) = true := by
  refine List.all_eq_true.2 fun v hv => ?_
  obtain ⟨k, _, rfl⟩ := List.mem_map.1 hv
  rfl
theorem reachClosure_w (m : List (List Bool)) : CallK Try.prog 9 [matV m] (.bool true) := CallK.via progOK (pfs []) [] 100 (Adv.split (6 : Nat) (Adv.pur (9 : Nat) (Value.bool true) Adv.nil) (Adv.pur (10 : Nat) (Value.iface (nat_lit 1000000) (Value.tuple (Array.mk [Value.int IntKind.i64 (↑(List.length (closM m)) : Int), Value.agg (Array.mk (matL (closM m)))]))) (Adv.split (18 : Nat) Adv.nil (Adv.loop (23 : Nat) (fun (k : Nat) => [((4 : Nat), Value.int IntKind.i64 (↑k : Int))]) ((fun (h : Heap) (x : Nat) => h) (Heap.mk (nat_lit 0) Trie.leaf)) (fun (i k : Nat) => i + k = List.length m) (List.length m) (0 : Nat) fun (i23 s23 : Nat) (j23 : Nat → Value) => Adv.split (29 : Nat) (Adv.chk (35 : Nat) none (Adv.chk (40 : Nat) none (Adv.chk (41 : Nat) none (Adv.loop (45 : Nat) (fun (s : Nat × (Nat → Bool)) => [((6 : Nat), Value.int IntKind.i64 (↑(Prod.fst s) : Int))]) ((fun (h : Heap) (s : Nat × (Nat → Bool)) => Heap.set h (0 : Nat) (Blk.cells (rowL (List.length m) (Prod.snd s)) (4 : TypeId) Mode.fix)) (Heap.mk (nat_lit 1) (Trie.node (some (Blk.cells (splice (zerosI (Value.cellList (Value.bool false)) (Int.toNat (↑(List.length m) : Int))) (nat_lit 0 + Int.toNat (↑s23 : Int) * nat_lit 1) (Value.cellList (Value.bool true))) (nat_lit 4) Mode.fix)) Trie.leaf Trie.leaf))) (fun (a : Nat) (s : Nat × (Nat → Bool)) => a + Prod.fst s = List.length m ∧ Rnd (List.length m) (atB m) s23 (Prod.fst s) (Prod.snd s)) (List.length m) ((0 : Nat), fun (k : Nat) => if k = s23 then true else false) fun (i45 : Nat) (s45 : Nat × (Nat → Bool)) (j45 : Nat → Value) => Adv.split (51 : Nat) (Adv.loop (56 : Nat) (fun (u : Nat × (Nat → Bool)) => [((7 : Nat), Value.int IntKind.i64 (↑(Prod.fst u) : Int))]) ((fun (h : Heap) (u : Nat × (Nat → Bool)) => Heap.set h (0 : Nat) (Blk.cells (rowL (List.length m) (Prod.snd u)) (4 : TypeId) Mode.fix)) (Heap.mk (nat_lit 1) (Trie.node (some (Blk.cells (rowL (List.length m) (Prod.snd s45)) (nat_lit 4) Mode.fix)) Trie.leaf Trie.leaf))) (fun (a : Nat) (u : Nat × (Nat → Bool)) => a + Prod.fst u = List.length m ∧ Mid (List.length m) (atB m) s23 (Prod.snd s45) (Prod.fst u) (0 : Nat) (Prod.snd u)) (List.length m) ((0 : Nat), Prod.snd s45) fun (i56 : Nat) (s56 : Nat × (Nat → Bool)) (j56 : Nat → Value) => Adv.split (62 : Nat) (Adv.loop (67 : Nat) (fun (v : Nat × (Nat → Bool)) => [((8 : Nat), Value.int IntKind.i64 (↑(Prod.fst v) : Int))]) ((fun (h : Heap) (v : Nat × (Nat → Bool)) => Heap.set h (0 : Nat) (Blk.cells (rowL (List.length m) (Prod.snd v)) (4 : TypeId) Mode.fix)) (Heap.mk (nat_lit 1) (Trie.node (some (Blk.cells (rowL (List.length m) (Prod.snd s56)) (nat_lit 4) Mode.fix)) Trie.leaf Trie.leaf))) (fun (a : Nat) (v : Nat × (Nat → Bool)) => a + Prod.fst v = List.length m ∧ Mid (List.length m) (atB m) s23 (Prod.snd s45) (Prod.fst s56) (Prod.fst v) (Prod.snd v)) (List.length m) ((0 : Nat), Prod.snd s56) fun (i67 : Nat) (s67 : Nat × (Nat → Bool)) (j67 : Nat → Value) => Adv.split (73 : Nat) (Adv.chk (77 : Nat) none (Adv.chks (78 : Nat) (some (Value.bool (Prod.snd s67 (Prod.fst s56)))) (Adv.chk (86 : Nat) none (Adv.chks (87 : Nat) (some (Value.bool (Prod.snd s67 (Prod.fst s67)))) (Adv.chk (90 : Nat) none (Adv.chk (91 : Nat) none Adv.nil)) (Adv.chk (92 : Nat) none (Adv.chk (93 : Nat) (some (Value.iface (nat_lit 1000000) (Value.tuple (Array.mk [Value.int IntKind.i64 (↑(List.length (List.getD m (Prod.fst s56) [])) : Int), Value.agg (Array.mk (boolsL (List.getD m (Prod.fst s56) [])))])))) (Adv.split (95 : Nat) (Adv.chk (99 : Nat) none (Adv.chk (100 : Nat) (some (Value.iface (nat_lit 1000000) (Value.tuple (Array.mk [Value.int IntKind.i64 (↑(List.length (List.getD m (Prod.fst s56) [])) : Int), Value.agg (Array.mk (boolsL (List.getD m (Prod.fst s56) [])))])))) (Adv.chk (102 : Nat) none (Adv.chks (103 : Nat) (some (Value.bool (List.getD (List.getD m (Prod.fst s56) []) (Prod.fst s67) false))) (Adv.chk (106 : Nat) none (Adv.chk (107 : Nat) none Adv.nil)) (Adv.chk (106 : Nat) none (Adv.chk (107 : Nat) none Adv.nil)))))) (Adv.chk (99 : Nat) none (Adv.chk (100 : Nat) none Adv.nil))))))) Adv.nil)) Adv.nil) Adv.nil) (Adv.chk (57 : Nat) none (Adv.chk (58 : Nat) (some (Value.iface (nat_lit 1000000) (Value.tuple (Array.mk [Value.int IntKind.i64 (↑(List.length (List.getD (closM m) s23 [])) : Int), Value.agg (Array.mk (boolsL (List.getD (closM m) s23 [])))])))) (Adv.split (62 : Nat) Adv.nil (Adv.loop (66 : Nat) (fun (k : Nat) => [((9 : Nat), Value.int IntKind.i64 (↑k : Int))]) ((fun (h : Heap) (x : Nat) => h) (Heap.mk (nat_lit 1) (Trie.node (some (Blk.cells (rowL (List.length m) (Prod.snd s45)) (nat_lit 4) Mode.fix)) Trie.leaf Trie.leaf))) (fun (a k : Nat) => a + k = List.length m) (List.length m) (0 : Nat) fun (i66 s66 : Nat) (j66 : Nat → Value) => Adv.split (72 : Nat) (Adv.chk (78 : Nat) none (Adv.chk (79 : Nat) (some (Value.iface (nat_lit 1000000) (Value.tuple (Array.mk [Value.int IntKind.i64 (↑(List.length (List.getD (closM m) s23 [])) : Int), Value.agg (Array.mk (boolsL (List.getD (closM m) s23 [])))])))) (Adv.chk (81 : Nat) none (Adv.chks (82 : Nat) (some (Value.bool (List.getD (List.getD (closM m) s23 []) s66 false))) (Adv.chk (85 : Nat) none (Adv.chks (86 : Nat) (some (Value.bool (Prod.snd s45 s66))) Adv.nil Adv.nil)) (Adv.chk (85 : Nat) none (Adv.chks (86 : Nat) (some (Value.bool (Prod.snd s45 s66))) Adv.nil Adv.nil)))))) Adv.nil)))))))) (Adv.pur (32 : Nat) (Value.bool true) Adv.nil))))) (by kernel_rfl) (by kernel_rfl) (p := (decide ((↑(List.length m) : Int) > (16 : Int)) = true → CallK Try.prog (nat_lit 36) [] (Value.bool true) ∧ Value.bool true = Value.bool true) ∧ (decide ((↑(List.length m) : Int) > (16 : Int)) = false → CallK Try.prog (nat_lit 37) [Value.iface (nat_lit 1000000) (Value.tuple (Array.mk [Value.int IntKind.i64 (↑(List.length m) : Int), Value.agg (Array.mk (matL m))]))] (Value.iface (nat_lit 1000000) (Value.tuple (Array.mk [Value.int IntKind.i64 (↑(List.length (closM m)) : Int), Value.agg (Array.mk (matL (closM m)))]))) ∧ (((↑(List.length (closM m)) : Int) != (↑(List.length m) : Int)) = true → Value.bool false = Value.bool true) ∧ (((↑(List.length (closM m)) : Int) != (↑(List.length m) : Int)) = false → (List.length m + (0 : Nat) = List.length m ∧ Value.int IntKind.i64 (0 : Int) = Value.int IntKind.i64 (0 : Int) ∧ Heap.mk (nat_lit 0) Trie.leaf = Heap.mk (nat_lit 0) Trie.leaf) ∧ ∀ (i23 s23 : Nat) (j23 : Nat → Value), i23 + s23 = List.length m → (decide ((↑s23 : Int) < (↑(List.length m) : Int)) = true → ((0 : Int) ≤ (↑(List.length m) : Int) ∧ (↑(List.length m) : Int) ≤ (↑(List.length m) : Int) ∧ (↑(List.length m) : Int) * ((↑(TypeInfo.bytes (Tables.types (Program.toTables Try.prog))[(4 : Nat)]) : Int) + (1 : Int)) ≤ (1099511627776 : Int)) ∧ ((0 : Int) ≤ (↑s23 : Int) ∧ (↑s23 : Int) < (↑(Int.toNat (↑(List.length m) : Int)) : Int)) ∧ nat_lit 0 + Int.toNat (↑s23 : Int) * nat_lit 1 + nat_lit 1 ≤ List.length (zerosI (Value.cellList (Value.bool false)) (Int.toNat (↑(List.length m) : Int))) ∧ ((List.length m + Prod.fst ((0 : Nat), fun (k : Nat) => if k = s23 then true else false) = List.length m ∧ Rnd (List.length m) (atB m) s23 (Prod.fst ((0 : Nat), fun (k : Nat) => if k = s23 then true else false)) (Prod.snd ((0 : Nat), fun (k : Nat) => if k = s23 then true else false))) ∧ Value.int IntKind.i64 (0 : Int) = Value.int IntKind.i64 (0 : Int) ∧ Heap.mk (nat_lit 1) (Trie.node (some (Blk.cells (splice (zerosI (Value.cellList (Value.bool false)) (Int.toNat (↑(List.length m) : Int))) (nat_lit 0 + Int.toNat (↑s23 : Int) * nat_lit 1) (Value.cellList (Value.bool true))) (nat_lit 4) Mode.fix)) Trie.leaf Trie.leaf) = Heap.mk (nat_lit 1) (Trie.node (some (Blk.cells (rowL (List.length m) (Prod.snd ((0 : Nat), fun (k : Nat) => if k = s23 then true else false))) (nat_lit 4) Mode.fix)) Trie.leaf Trie.leaf)) ∧ ∀ (i45 : Nat) (s45 : Nat × (Nat → Bool)) (j45 : Nat → Value), i45 + Prod.fst s45 = List.length m ∧ Rnd (List.length m) (atB m) s23 (Prod.fst s45) (Prod.snd s45) → (decide ((↑(Prod.fst s45) : Int) < (↑(List.length m) : Int)) = true → ((List.length m + Prod.fst ((0 : Nat), Prod.snd s45) = List.length m ∧ Mid (List.length m) (atB m) s23 (Prod.snd s45) (Prod.fst ((0 : Nat), Prod.snd s45)) (0 : Nat) (Prod.snd ((0 : Nat), Prod.snd s45))) ∧ Value.int IntKind.i64 (0 : Int) = Value.int IntKind.i64 (0 : Int) ∧ Heap.mk (nat_lit 1) (Trie.node (some (Blk.cells (rowL (List.length m) (Prod.snd s45)) (nat_lit 4) Mode.fix)) Trie.leaf Trie.leaf) = Heap.mk (nat_lit 1) (Trie.node (some (Blk.cells (rowL (List.length m) (Prod.snd ((0 : Nat), Prod.snd s45))) (nat_lit 4) Mode.fix)) Trie.leaf Trie.leaf)) ∧ ∀ (i56 : Nat) (s56 : Nat × (Nat → Bool)) (j56 : Nat → Value), i56 + Prod.fst s56 = List.length m ∧ Mid (List.length m) (atB m) s23 (Prod.snd s45) (Prod.fst s56) (0 : Nat) (Prod.snd s56) → (decide ((↑(Prod.fst s56) : Int) < (↑(List.length m) : Int)) = true → ((List.length m + Prod.fst ((0 : Nat), Prod.snd s56) = List.length m ∧ Mid (List.length m) (atB m) s23 (Prod.snd s45) (Prod.fst s56) (Prod.fst ((0 : Nat), Prod.snd s56)) (Prod.snd ((0 : Nat), Prod.snd s56))) ∧ Value.int IntKind.i64 (0 : Int) = Value.int IntKind.i64 (0 : Int) ∧ Heap.mk (nat_lit 1) (Trie.node (some (Blk.cells (rowL (List.length m) (Prod.snd s56)) (nat_lit 4) Mode.fix)) Trie.leaf Trie.leaf) = Heap.mk (nat_lit 1) (Trie.node (some (Blk.cells (rowL (List.length m) (Prod.snd ((0 : Nat), Prod.snd s56))) (nat_lit 4) Mode.fix)) Trie.leaf Trie.leaf)) ∧ ∀ (i67 : Nat) (s67 : Nat × (Nat → Bool)) (j67 : Nat → Value), i67 + Prod.fst s67 = List.length m ∧ Mid (List.length m) (atB m) s23 (Prod.snd s45) (Prod.fst s56) (Prod.fst s67) (Prod.snd s67) → (decide ((↑(Prod.fst s67) : Int) < (↑(List.length m) : Int)) = true → ((0 : Int) ≤ (↑(Prod.fst s56) : Int) ∧ (↑(Prod.fst s56) : Int) < (↑(Int.toNat (↑(List.length m) : Int)) : Int)) ∧ Ask.holds Try.prog (Ask.part (rowL (List.length m) (Prod.snd s67)) (nat_lit 0 + Int.toNat (↑(Prod.fst s56) : Int) * nat_lit 1) (nat_lit 1) [Value.bool (Prod.snd s67 (Prod.fst s56))]) ∧ (Prod.snd s67 (Prod.fst s56) = true → ((0 : Int) ≤ (↑(Prod.fst s67) : Int) ∧ (↑(Prod.fst s67) : Int) < (↑(Int.toNat (↑(List.length m) : Int)) : Int)) ∧ Ask.holds Try.prog (Ask.part (rowL (List.length m) (Prod.snd s67)) (nat_lit 0 + Int.toNat (↑(Prod.fst s67) : Int) * nat_lit 1) (nat_lit 1) [Value.bool (Prod.snd s67 (Prod.fst s67))]) ∧ (Prod.snd s67 (Prod.fst s67) = true → ((0 : Int) ≤ (↑(Prod.fst s67) : Int) ∧ (↑(Prod.fst s67) : Int) < (↑(Int.toNat (↑(List.length m) : Int)) : Int)) ∧ nat_lit 0 + Int.toNat (↑(Prod.fst s67) : Int) * nat_lit 1 + nat_lit 1 ≤ List.length (rowL (List.length m) (Prod.snd s67)) ∧ ∃ (i67' : Nat), ∃ (s67' : Nat × (Nat → Bool)), i67' < i67 ∧ (i67' + Prod.fst s67' = List.length m ∧ Mid (List.length m) (atB m) s23 (Prod.snd s45) (Prod.fst s56) (Prod.fst s67') (Prod.snd s67')) ∧ Value.int IntKind.i64 (IntKind.wrap IntKind.i64 ((↑(Prod.fst s67) : Int) + (1 : Int))) = Value.int IntKind.i64 (↑(Prod.fst s67') : Int) ∧ (some (Blk.cells (splice (rowL (List.length m) (Prod.snd s67)) (nat_lit 0 + Int.toNat (↑(Prod.fst s67) : Int) * nat_lit 1) (Value.cellList (Value.bool true))) (nat_lit 4) Mode.fix) = some (Blk.cells (rowL (List.length m) (Prod.snd s67')) (nat_lit 4) Mode.fix) ∧ True) ∧ true = true ∧ List.all (rowL (List.length m) (Prod.snd s67')) (refsOK (nat_lit 8) (nat_lit 1)) = true ∧ True) ∧ (Prod.snd s67 (Prod.fst s67) = false → ((0 : Int) ≤ (↑(Prod.fst s56) : Int) ∧ (↑(Prod.fst s56) : Int) < (↑(List.length m) : Int)) ∧ Ask.holds Try.prog (Ask.part (Array.toList (Array.mk (matL m))) (Int.toNat (↑(Int.toNat (↑(Prod.fst s56) : Int) * nat_lit 1) : Int)) (nat_lit 1) [Value.iface (nat_lit 1000000) (Value.tuple (Array.mk [Value.int IntKind.i64 (↑(List.length (List.getD m (Prod.fst s56) [])) : Int), Value.agg (Array.mk (boolsL (List.getD m (Prod.fst s56) [])))]))]) ∧ (decide ((↑(Prod.fst s67) : Int) < (↑(List.length (List.getD m (Prod.fst s56) [])) : Int)) = true → ((0 : Int) ≤ (↑(Prod.fst s56) : Int) ∧ (↑(Prod.fst s56) : Int) < (↑(List.length m) : Int)) ∧ Ask.holds Try.prog (Ask.part (Array.toList (Array.mk (matL m))) (Int.toNat (↑(Int.toNat (↑(Prod.fst s56) : Int) * nat_lit 1) : Int)) (nat_lit 1) [Value.iface (nat_lit 1000000) (Value.tuple (Array.mk [Value.int IntKind.i64 (↑(List.length (List.getD m (Prod.fst s56) [])) : Int), Value.agg (Array.mk (boolsL (List.getD m (Prod.fst s56) [])))]))]) ∧ ((0 : Int) ≤ (↑(Prod.fst s67) : Int) ∧ (↑(Prod.fst s67) : Int) < (↑(List.length (List.getD m (Prod.fst s56) [])) : Int)) ∧ Ask.holds Try.prog (Ask.part (Array.toList (Array.mk (boolsL (List.getD m (Prod.fst s56) [])))) (Int.toNat (↑(Int.toNat (↑(Prod.fst s67) : Int) * nat_lit 1) : Int)) (nat_lit 1) [Value.bool (List.getD (List.getD m (Prod.fst s56) []) (Prod.fst s67) false)]) ∧ (List.getD (List.getD m (Prod.fst s56) []) (Prod.fst s67) false = true → ((0 : Int) ≤ (↑(Prod.fst s67) : Int) ∧ (↑(Prod.fst s67) : Int) < (↑(Int.toNat (↑(List.length m) : Int)) : Int)) ∧ nat_lit 0 + Int.toNat (↑(Prod.fst s67) : Int) * nat_lit 1 + nat_lit 1 ≤ List.length (rowL (List.length m) (Prod.snd s67)) ∧ ∃ (i67' : Nat), ∃ (s67' : Nat × (Nat → Bool)), i67' < i67 ∧ (i67' + Prod.fst s67' = List.length m ∧ Mid (List.length m) (atB m) s23 (Prod.snd s45) (Prod.fst s56) (Prod.fst s67') (Prod.snd s67')) ∧ Value.int IntKind.i64 (IntKind.wrap IntKind.i64 ((↑(Prod.fst s67) : Int) + (1 : Int))) = Value.int IntKind.i64 (↑(Prod.fst s67') : Int) ∧ (some (Blk.cells (splice (rowL (List.length m) (Prod.snd s67)) (nat_lit 0 + Int.toNat (↑(Prod.fst s67) : Int) * nat_lit 1) (Value.cellList (Value.bool true))) (nat_lit 4) Mode.fix) = some (Blk.cells (rowL (List.length m) (Prod.snd s67')) (nat_lit 4) Mode.fix) ∧ True) ∧ true = true ∧ List.all (rowL (List.length m) (Prod.snd s67')) (refsOK (nat_lit 8) (nat_lit 1)) = true ∧ True) ∧ (List.getD (List.getD m (Prod.fst s56) []) (Prod.fst s67) false = false → ((0 : Int) ≤ (↑(Prod.fst s67) : Int) ∧ (↑(Prod.fst s67) : Int) < (↑(Int.toNat (↑(List.length m) : Int)) : Int)) ∧ nat_lit 0 + Int.toNat (↑(Prod.fst s67) : Int) * nat_lit 1 + nat_lit 1 ≤ List.length (rowL (List.length m) (Prod.snd s67)) ∧ ∃ (i67' : Nat), ∃ (s67' : Nat × (Nat → Bool)), i67' < i67 ∧ (i67' + Prod.fst s67' = List.length m ∧ Mid (List.length m) (atB m) s23 (Prod.snd s45) (Prod.fst s56) (Prod.fst s67') (Prod.snd s67')) ∧ Value.int IntKind.i64 (IntKind.wrap IntKind.i64 ((↑(Prod.fst s67) : Int) + (1 : Int))) = Value.int IntKind.i64 (↑(Prod.fst s67') : Int) ∧ (some (Blk.cells (splice (rowL (List.length m) (Prod.snd s67)) (nat_lit 0 + Int.toNat (↑(Prod.fst s67) : Int) * nat_lit 1) (Value.cellList (Value.bool false))) (nat_lit 4) Mode.fix) = some (Blk.cells (rowL (List.length m) (Prod.snd s67')) (nat_lit 4) Mode.fix) ∧ True) ∧ true = true ∧ List.all (rowL (List.length m) (Prod.snd s67')) (refsOK (nat_lit 8) (nat_lit 1)) = true ∧ True)) ∧ (decide ((↑(Prod.fst s67) : Int) < (↑(List.length (List.getD m (Prod.fst s56) [])) : Int)) = false → ((0 : Int) ≤ (↑(Prod.fst s67) : Int) ∧ (↑(Prod.fst s67) : Int) < (↑(Int.toNat (↑(List.length m) : Int)) : Int)) ∧ nat_lit 0 + Int.toNat (↑(Prod.fst s67) : Int) * nat_lit 1 + nat_lit 1 ≤ List.length (rowL (List.length m) (Prod.snd s67)) ∧ ∃ (i67' : Nat), ∃ (s67' : Nat × (Nat → Bool)), i67' < i67 ∧ (i67' + Prod.fst s67' = List.length m ∧ Mid (List.length m) (atB m) s23 (Prod.snd s45) (Prod.fst s56) (Prod.fst s67') (Prod.snd s67')) ∧ Value.int IntKind.i64 (IntKind.wrap IntKind.i64 ((↑(Prod.fst s67) : Int) + (1 : Int))) = Value.int IntKind.i64 (↑(Prod.fst s67') : Int) ∧ (some (Blk.cells (splice (rowL (List.length m) (Prod.snd s67)) (nat_lit 0 + Int.toNat (↑(Prod.fst s67) : Int) * nat_lit 1) (Value.cellList (Value.bool false))) (nat_lit 4) Mode.fix) = some (Blk.cells (rowL (List.length m) (Prod.snd s67')) (nat_lit 4) Mode.fix) ∧ True) ∧ true = true ∧ List.all (rowL (List.length m) (Prod.snd s67')) (refsOK (nat_lit 8) (nat_lit 1)) = true ∧ True))) ∧ (Prod.snd s67 (Prod.fst s56) = false → ∃ (i56' : Nat), ∃ (s56' : Nat × (Nat → Bool)), i56' < i56 ∧ (i56' + Prod.fst s56' = List.length m ∧ Mid (List.length m) (atB m) s23 (Prod.snd s45) (Prod.fst s56') (0 : Nat) (Prod.snd s56')) ∧ Value.int IntKind.i64 (IntKind.wrap IntKind.i64 ((↑(Prod.fst s56) : Int) + (1 : Int))) = Value.int IntKind.i64 (↑(Prod.fst s56') : Int) ∧ (some (Blk.cells (rowL (List.length m) (Prod.snd s67)) (nat_lit 4) Mode.fix) = some (Blk.cells (rowL (List.length m) (Prod.snd s56')) (nat_lit 4) Mode.fix) ∧ True) ∧ true = true ∧ List.all (rowL (List.length m) (Prod.snd s56')) (refsOK (nat_lit 8) (nat_lit 1)) = true ∧ True)) ∧ (decide ((↑(Prod.fst s67) : Int) < (↑(List.length m) : Int)) = false → ∃ (i56' : Nat), ∃ (s56' : Nat × (Nat → Bool)), i56' < i56 ∧ (i56' + Prod.fst s56' = List.length m ∧ Mid (List.length m) (atB m) s23 (Prod.snd s45) (Prod.fst s56') (0 : Nat) (Prod.snd s56')) ∧ Value.int IntKind.i64 (IntKind.wrap IntKind.i64 ((↑(Prod.fst s56) : Int) + (1 : Int))) = Value.int IntKind.i64 (↑(Prod.fst s56') : Int) ∧ (some (Blk.cells (rowL (List.length m) (Prod.snd s67)) (nat_lit 4) Mode.fix) = some (Blk.cells (rowL (List.length m) (Prod.snd s56')) (nat_lit 4) Mode.fix) ∧ True) ∧ true = true ∧ List.all (rowL (List.length m) (Prod.snd s56')) (refsOK (nat_lit 8) (nat_lit 1)) = true ∧ True)) ∧ (decide ((↑(Prod.fst s56) : Int) < (↑(List.length m) : Int)) = false → ∃ (i45' : Nat), ∃ (s45' : Nat × (Nat → Bool)), i45' < i45 ∧ (i45' + Prod.fst s45' = List.length m ∧ Rnd (List.length m) (atB m) s23 (Prod.fst s45') (Prod.snd s45')) ∧ Value.int IntKind.i64 (IntKind.wrap IntKind.i64 ((↑(Prod.fst s45) : Int) + (1 : Int))) = Value.int IntKind.i64 (↑(Prod.fst s45') : Int) ∧ (some (Blk.cells (rowL (List.length m) (Prod.snd s56)) (nat_lit 4) Mode.fix) = some (Blk.cells (rowL (List.length m) (Prod.snd s45')) (nat_lit 4) Mode.fix) ∧ True) ∧ true = true ∧ List.all (rowL (List.length m) (Prod.snd s45')) (refsOK (nat_lit 8) (nat_lit 1)) = true ∧ True)) ∧ (decide ((↑(Prod.fst s45) : Int) < (↑(List.length m) : Int)) = false → ((0 : Int) ≤ (↑s23 : Int) ∧ (↑s23 : Int) < (↑(List.length (closM m)) : Int)) ∧ Ask.holds Try.prog (Ask.part (Array.toList (Array.mk (matL (closM m)))) (Int.toNat (↑(Int.toNat (↑s23 : Int) * nat_lit 1) : Int)) (nat_lit 1) [Value.iface (nat_lit 1000000) (Value.tuple (Array.mk [Value.int IntKind.i64 (↑(List.length (List.getD (closM m) s23 [])) : Int), Value.agg (Array.mk (boolsL (List.getD (closM m) s23 [])))]))]) ∧ (((↑(List.length (List.getD (closM m) s23 [])) : Int) != (↑(List.length m) : Int)) = true → Value.bool false = Value.bool true) ∧ (((↑(List.length (List.getD (closM m) s23 [])) : Int) != (↑(List.length m) : Int)) = false → (List.length m + (0 : Nat) = List.length m ∧ Value.int IntKind.i64 (0 : Int) = Value.int IntKind.i64 (0 : Int) ∧ Heap.mk (nat_lit 1) (Trie.node (some (Blk.cells (rowL (List.length m) (Prod.snd s45)) (nat_lit 4) Mode.fix)) Trie.leaf Trie.leaf) = Heap.mk (nat_lit 1) (Trie.node (some (Blk.cells (rowL (List.length m) (Prod.snd s45)) (nat_lit 4) Mode.fix)) Trie.leaf Trie.leaf)) ∧ ∀ (i66 s66 : Nat) (j66 : Nat → Value), i66 + s66 = List.length m → (decide ((↑s66 : Int) < (↑(List.length m) : Int)) = true → ((0 : Int) ≤ (↑s23 : Int) ∧ (↑s23 : Int) < (↑(List.length (closM m)) : Int)) ∧ Ask.holds Try.prog (Ask.part (Array.toList (Array.mk (matL (closM m)))) (Int.toNat (↑(Int.toNat (↑s23 : Int) * nat_lit 1) : Int)) (nat_lit 1) [Value.iface (nat_lit 1000000) (Value.tuple (Array.mk [Value.int IntKind.i64 (↑(List.length (List.getD (closM m) s23 [])) : Int), Value.agg (Array.mk (boolsL (List.getD (closM m) s23 [])))]))]) ∧ ((0 : Int) ≤ (↑s66 : Int) ∧ (↑s66 : Int) < (↑(List.length (List.getD (closM m) s23 [])) : Int)) ∧ Ask.holds Try.prog (Ask.part (Array.toList (Array.mk (boolsL (List.getD (closM m) s23 [])))) (Int.toNat (↑(Int.toNat (↑s66 : Int) * nat_lit 1) : Int)) (nat_lit 1) [Value.bool (List.getD (List.getD (closM m) s23 []) s66 false)]) ∧ (List.getD (List.getD (closM m) s23 []) s66 false = true → ((0 : Int) ≤ (↑s66 : Int) ∧ (↑s66 : Int) < (↑(Int.toNat (↑(List.length m) : Int)) : Int)) ∧ Ask.holds Try.prog (Ask.part (rowL (List.length m) (Prod.snd s45)) (nat_lit 0 + Int.toNat (↑s66 : Int) * nat_lit 1) (nat_lit 1) [Value.bool (Prod.snd s45 s66)]) ∧ (Prod.snd s45 s66 = true → ∃ (i66' : Nat), ∃ (s66' : Nat), i66' < i66 ∧ i66' + s66' = List.length m ∧ Value.int IntKind.i64 (IntKind.wrap IntKind.i64 ((↑s66 : Int) + (1 : Int))) = Value.int IntKind.i64 (↑s66' : Int) ∧ (some (Blk.cells (rowL (List.length m) (Prod.snd s45)) (nat_lit 4) Mode.fix) = some (Blk.cells (rowL (List.length m) (Prod.snd s45)) (nat_lit 4) Mode.fix) ∧ True) ∧ true = true ∧ List.all (rowL (List.length m) (Prod.snd s45)) (refsOK (nat_lit 8) (nat_lit 1)) = true ∧ True) ∧ (Prod.snd s45 s66 = false → Value.bool false = Value.bool true)) ∧ (List.getD (List.getD (closM m) s23 []) s66 false = false → ((0 : Int) ≤ (↑s66 : Int) ∧ (↑s66 : Int) < (↑(Int.toNat (↑(List.length m) : Int)) : Int)) ∧ Ask.holds Try.prog (Ask.part (rowL (List.length m) (Prod.snd s45)) (nat_lit 0 + Int.toNat (↑s66 : Int) * nat_lit 1) (nat_lit 1) [Value.bool (Prod.snd s45 s66)]) ∧ (Prod.snd s45 s66 = true → Value.bool false = Value.bool true) ∧ (Prod.snd s45 s66 = false → ∃ (i66' : Nat), ∃ (s66' : Nat), i66' < i66 ∧ i66' + s66' = List.length m ∧ Value.int IntKind.i64 (IntKind.wrap IntKind.i64 ((↑s66 : Int) + (1 : Int))) = Value.int IntKind.i64 (↑s66' : Int) ∧ (some (Blk.cells (rowL (List.length m) (Prod.snd s45)) (nat_lit 4) Mode.fix) = some (Blk.cells (rowL (List.length m) (Prod.snd s45)) (nat_lit 4) Mode.fix) ∧ True) ∧ true = true ∧ List.all (rowL (List.length m) (Prod.snd s45)) (refsOK (nat_lit 8) (nat_lit 1)) = true ∧ True))) ∧ (decide ((↑s66 : Int) < (↑(List.length m) : Int)) = false → ∃ (i23' : Nat), ∃ (s23' : Nat), i23' < i23 ∧ i23' + s23' = List.length m ∧ Value.int IntKind.i64 (IntKind.wrap IntKind.i64 ((↑s23 : Int) + (1 : Int))) = Value.int IntKind.i64 (↑s23' : Int) ∧ True ∧ true = true ∧ True)))) ∧ (decide ((↑s23 : Int) < (↑(List.length m) : Int)) = false → CallK Try.prog (nat_lit 36) [] (Value.bool true) ∧ Value.bool true = Value.bool true)))) (by kernel_rfl) (by
    have hb1 := bool_bytes
    have hc := closM_length m
    refine ⟨fun _ => ⟨awake36_w, rfl⟩, fun h0 => ?_⟩
    have hl : m.length ≤ 16 := by have := of_decide_eq_false h0; omega
    refine ⟨closure_w m hl, fun h => absurd h (by simp [hc]), fun _ => ⟨⟨rfl, rfl, rfl⟩, fun a i j q => ⟨fun h1 => ?_, fun _ => ⟨awake36_w, rfl⟩⟩⟩⟩
    have hi : i < m.length := by have := of_decide_eq_true h1; omega
    have hz : zerosI (Value.cellList (Value.bool false)) (m.length : Int).toNat = rowL m.length fun _ => false := zeros_false _
    refine ⟨⟨by omega, by omega, mul_room 16 2 (by omega) (by omega) (by omega) (by decide) (by decide)⟩, ⟨by omega, by omega⟩, ?_, ⟨⟨rfl, Rnd.start hi fun k => ?_⟩, rfl, ?_⟩, fun a1 s j1 ⟨q1, hs⟩ => ⟨fun h2 => ?_, fun h2 => ?_⟩⟩
    · rw [hz, rowL_length]; show 0 + i * 1 + 1 ≤ _; omega
    · by_cases hk : k = i <;> simp [hk]
    · rw [hz, show splice (rowL m.length fun _ => false) (0 + (i : Int).toNat * 1) (Value.cellList (Value.bool true)) = _ from rowL_upd hi true (by show 0 + i * 1 = i * 1; omega)]
    · obtain ⟨r, c⟩ := s
      have hr : r < m.length := Int.ofNat_lt.1 (of_decide_eq_true h2)
      refine ⟨⟨⟨rfl, Mid.start hs⟩, rfl, rfl⟩, fun a2 u j2 ⟨q2, hu⟩ => ⟨fun h3 => ?_, fun h3 => ?_⟩⟩
      · obtain ⟨x, d⟩ := u
        have hx : x < m.length := Int.ofNat_lt.1 (of_decide_eq_true h3)
        refine ⟨⟨⟨rfl, hu⟩, rfl, rfl⟩, fun a3 v j3 ⟨q3, hv⟩ => ⟨fun h4 => ?_, fun h4 => ?_⟩⟩
        · obtain ⟨y, f⟩ := v
          have hy : y < m.length := Int.ofNat_lt.1 (of_decide_eq_true h4)
          have x0 : (0 : Int) ≤ (x : Int) := Int.natCast_nonneg _
          have y0 : (0 : Int) ≤ (y : Int) := Int.natCast_nonneg _
          have q3' : a3 + y = m.length := q3
          refine ⟨⟨x0, Int.ofNat_lt.2 hx⟩, rowL_part hx rfl, fun h5 => ?_, fun h5 => ?_⟩
          · have go : ∀ b, b = (f y || atB m x y) → ((0 : Int) ≤ (y : Int) ∧ (y : Int) < (((m.length : Nat) : Int).toNat : Nat)) ∧ 0 + (y : Int).toNat * 1 + 1 ≤ (rowL m.length f).length ∧
                ∃ (i' : Nat) (s' : Nat × (Nat → Bool)), i' < a3 ∧ (i' + s'.1 = m.length ∧ Mid m.length (atB m) i c x s'.1 s'.2) ∧ Value.int .i64 (IntKind.i64.wrap ((y : Int) + 1)) = .int .i64 (s'.1 : Nat) ∧
                (some (Blk.cells (splice (rowL m.length f) (0 + (y : Int).toNat * 1) (Value.cellList (.bool b))) 4 .fix) = some (Blk.cells (rowL m.length s'.2) 4 .fix) ∧ True) ∧ true = true ∧ (rowL m.length s'.2).all (refsOK 8 1) = true ∧ True := fun b hb => by
              refine ⟨⟨y0, Int.ofNat_lt.2 hy⟩, by rw [rowL_length]; show 0 + y * 1 + 1 ≤ _; omega, a3 - 1, (y + 1, fun j => if j = y then f y || atB m x y else f j), by omega, ⟨by show _ + (y + 1) = _; omega, Mid.next hv hx hy h5⟩, wrap_next y (by omega), ⟨?_, trivial⟩, rfl, rowL_ok _ _ _, trivial⟩
              rw [show splice (rowL m.length f) (0 + (y : Int).toNat * 1) (Value.cellList (Value.bool b)) = _ from rowL_upd hy b (by show 0 + y * 1 = y * 1; omega), hb]
            refine ⟨⟨y0, Int.ofNat_lt.2 hy⟩, rowL_part hy rfl, fun h6 => go true ?_, fun h6 => ⟨⟨x0, Int.ofNat_lt.2 hx⟩, mat_part hx rfl, fun h7 => ?_, fun h7 => go false ?_⟩⟩
            · rw [show f y = true from h6]; rfl
            · have hy2 : y < (m.getD x []).length := Int.ofNat_lt.1 (of_decide_eq_true h7)
              refine ⟨⟨x0, Int.ofNat_lt.2 hx⟩, mat_part hx rfl, ⟨y0, Int.ofNat_lt.2 hy2⟩, bools_part hy2 rfl, fun h8 => go true ?_, fun h8 => go false ?_⟩
              · rw [show atB m x y = true from h8, Bool.or_true]
              · rw [show atB m x y = false from h8, show f y = false from h6]; rfl
            · have hy2 : (m.getD x []).length ≤ y := by have : ¬ ((y : Nat) : Int) < ((m.getD x []).length : Int) := of_decide_eq_false h7; omega
              rw [show f y = false from h6]
              unfold atB; rw [List.getD_eq_getElem?_getD (l := m.getD x []), List.getElem?_eq_none hy2]; rfl
          · have q2' : a2 + x = m.length := q2
            exact ⟨a2 - 1, (x + 1, f), by omega, ⟨by show _ + (x + 1) = _; omega, Mid.skip hv h5⟩, wrap_next x (by omega), ⟨rfl, trivial⟩, rfl, rowL_ok _ _ _, trivial⟩
        · obtain ⟨y, f⟩ := v
          have q3' : a3 + y = m.length := q3
          have q2' : a2 + x = m.length := q2
          obtain rfl : y = m.length := by have : ¬ ((y : Nat) : Int) < (m.length : Int) := of_decide_eq_false h4; omega
          exact ⟨a2 - 1, (x + 1, f), by omega, ⟨by show _ + (x + 1) = _; omega, Mid.row hv⟩, wrap_next x (by omega), ⟨rfl, trivial⟩, rfl, rowL_ok _ _ _, trivial⟩
      · obtain ⟨x, d⟩ := u
        have q2' : a2 + x = m.length := q2
        have q1' : a1 + r = m.length := q1
        obtain rfl : x = m.length := by have : ¬ ((x : Nat) : Int) < (m.length : Int) := of_decide_eq_false h3; omega
        exact ⟨a1 - 1, (r + 1, d), by omega, ⟨by show _ + (r + 1) = _; omega, Mid.end hs hi hu⟩, wrap_next r (by omega), ⟨rfl, trivial⟩, rfl, rowL_ok _ _ _, trivial⟩
    · obtain ⟨r, c⟩ := s
      have q1' : a1 + r = m.length := q1
      obtain rfl : r = m.length := by have : ¬ ((r : Nat) : Int) < (m.length : Int) := of_decide_eq_false h2; omega
      have hic : i < (closM m).length := by rw [hc]; exact hi
      have hrow := closM_row (m := m) hi
      refine ⟨⟨by omega, by omega⟩, mat_part hic rfl, fun h => absurd h (by rw [hrow]; simp), fun _ => ⟨⟨rfl, rfl, rfl⟩, fun a2 k j2 q2 => ⟨fun h3 => ?_, fun h3 => ?_⟩⟩⟩
      · have hk : k < m.length := by have := of_decide_eq_true h3; omega
        have hkr : k < ((closM m).getD i []).length := by rw [hrow]; exact hk
        have he : ((closM m).getD i []).getD k false = c k := by
          rw [closM_at hi hk, Bool.eq_iff_iff, comeB_iff]; exact (hs.end hk).symm
        refine ⟨⟨by omega, by omega⟩, mat_part hic rfl, ⟨by omega, by omega⟩, bools_part hkr rfl, fun h4 => ⟨⟨by omega, by omega⟩, rowL_part hk rfl, fun h5 => ?_, fun h5 => ?_⟩, fun h4 => ⟨⟨by omega, by omega⟩, rowL_part hk rfl, fun h5 => ?_, fun h5 => ?_⟩⟩
        · exact ⟨a2 - 1, k + 1, by omega, by omega, wrap_next k (by omega), ⟨rfl, trivial⟩, rfl, rowL_ok _ _ _, trivial⟩
        · have h5' : c k = false := h5
          rw [he, h5'] at h4; cases h4
        · have h5' : c k = true := h5
          rw [he, h5'] at h4; cases h4
        · exact ⟨a2 - 1, k + 1, by omega, by omega, wrap_next k (by omega), ⟨rfl, trivial⟩, rfl, rowL_ok _ _ _, trivial⟩
      · exact ⟨a - 1, i + 1, by omega, by omega, wrap_next i (by omega), trivial, rfl, trivial⟩)
theorem reachAgain_w (m : List (List Bool)) : CallK Try.prog 10 [matV m] (.bool true) := CallK.via progOK (pfs []) [] 100 (Adv.split (6 : Nat) (Adv.pur (9 : Nat) (Value.bool true) Adv.nil) (Adv.pur (10 : Nat) (Value.iface (nat_lit 1000000) (Value.tuple (Array.mk [Value.int IntKind.i64 (↑(List.length (closM m)) : Int), Value.agg (Array.mk (matL (closM m)))]))) (Adv.pur (14 : Nat) (Value.iface (nat_lit 1000000) (Value.tuple (Array.mk [Value.int IntKind.i64 (↑(List.length (closM (closM m))) : Int), Value.agg (Array.mk (matL (closM (closM m))))]))) (Adv.split (22 : Nat) Adv.nil (Adv.split (28 : Nat) Adv.nil (Adv.loop (34 : Nat) (fun (k : Nat) => [((5 : Nat), Value.int IntKind.i64 (↑k : Int))]) ((fun (h : Heap) (x : Nat) => h) (Heap.mk (nat_lit 0) Trie.leaf)) (fun (i k : Nat) => i + k = List.length m) (List.length m) (0 : Nat) fun (i34 s34 : Nat) (j34 : Nat → Value) => Adv.split (40 : Nat) (Adv.chk (47 : Nat) none (Adv.chk (48 : Nat) (some (Value.iface (nat_lit 1000000) (Value.tuple (Array.mk [Value.int IntKind.i64 (↑(List.length (List.getD (closM m) s34 [])) : Int), Value.agg (Array.mk (boolsL (List.getD (closM m) s34 [])))])))) (Adv.split (52 : Nat) Adv.nil (Adv.chk (56 : Nat) none (Adv.chk (57 : Nat) (some (Value.iface (nat_lit 1000000) (Value.tuple (Array.mk [Value.int IntKind.i64 (↑(List.length (List.getD (closM (closM m)) s34 [])) : Int), Value.agg (Array.mk (boolsL (List.getD (closM (closM m)) s34 [])))])))) (Adv.split (61 : Nat) Adv.nil (Adv.chk (66 : Nat) none (Adv.chk (67 : Nat) (some (Value.iface (nat_lit 1000000) (Value.tuple (Array.mk [Value.int IntKind.i64 (↑(List.length (List.getD (closM m) s34 [])) : Int), Value.agg (Array.mk (boolsL (List.getD (closM m) s34 [])))])))) (Adv.chk (69 : Nat) none (Adv.chks (70 : Nat) (some (Value.bool (List.getD (List.getD (closM m) s34 []) s34 false))) (Adv.loop (76 : Nat) (fun (k : Nat) => [((6 : Nat), Value.int IntKind.i64 (↑k : Int))]) ((fun (h : Heap) (x : Nat) => h) (Heap.mk (nat_lit 0) Trie.leaf)) (fun (a k : Nat) => a + k = List.length m) (List.length m) (0 : Nat) fun (i76 s76 : Nat) (j76 : Nat → Value) => Adv.split (82 : Nat) (Adv.chk (88 : Nat) none (Adv.chk (89 : Nat) (some (Value.iface (nat_lit 1000000) (Value.tuple (Array.mk [Value.int IntKind.i64 (↑(List.length (List.getD (closM m) s34 [])) : Int), Value.agg (Array.mk (boolsL (List.getD (closM m) s34 [])))])))) (Adv.chk (91 : Nat) none (Adv.chks (92 : Nat) (some (Value.bool (List.getD (List.getD (closM m) s34 []) s76 false))) (Adv.chk (95 : Nat) none (Adv.chk (96 : Nat) (some (Value.iface (nat_lit 1000000) (Value.tuple (Array.mk [Value.int IntKind.i64 (↑(List.length (List.getD (closM (closM m)) s34 [])) : Int), Value.agg (Array.mk (boolsL (List.getD (closM (closM m)) s34 [])))])))) (Adv.chk (98 : Nat) none (Adv.chks (99 : Nat) (some (Value.bool (List.getD (List.getD (closM (closM m)) s34 []) s76 false))) (Adv.chk (105 : Nat) none (Adv.chk (106 : Nat) (some (Value.iface (nat_lit 1000000) (Value.tuple (Array.mk [Value.int IntKind.i64 (↑(List.length (List.getD m s34 [])) : Int), Value.agg (Array.mk (boolsL (List.getD m s34 [])))])))) (Adv.split (108 : Nat) (Adv.chk (112 : Nat) none (Adv.chk (113 : Nat) (some (Value.iface (nat_lit 1000000) (Value.tuple (Array.mk [Value.int IntKind.i64 (↑(List.length (List.getD m s34 [])) : Int), Value.agg (Array.mk (boolsL (List.getD m s34 [])))])))) (Adv.chk (115 : Nat) none (Adv.chks (116 : Nat) (some (Value.bool (List.getD (List.getD m s34 []) s76 false))) (Adv.chk (121 : Nat) none (Adv.chk (122 : Nat) (some (Value.iface (nat_lit 1000000) (Value.tuple (Array.mk [Value.int IntKind.i64 (↑(List.length (List.getD (closM m) s34 [])) : Int), Value.agg (Array.mk (boolsL (List.getD (closM m) s34 [])))])))) (Adv.chk (124 : Nat) none (Adv.chks (125 : Nat) (some (Value.bool (List.getD (List.getD (closM m) s34 []) s76 false))) Adv.nil Adv.nil)))) Adv.nil)))) Adv.nil))) Adv.nil)))) (Adv.chk (95 : Nat) none (Adv.chk (96 : Nat) (some (Value.iface (nat_lit 1000000) (Value.tuple (Array.mk [Value.int IntKind.i64 (↑(List.length (List.getD (closM (closM m)) s34 [])) : Int), Value.agg (Array.mk (boolsL (List.getD (closM (closM m)) s34 [])))])))) (Adv.chk (98 : Nat) none (Adv.chks (99 : Nat) (some (Value.bool (List.getD (List.getD (closM (closM m)) s34 []) s76 false))) Adv.nil (Adv.chk (105 : Nat) none (Adv.chk (106 : Nat) (some (Value.iface (nat_lit 1000000) (Value.tuple (Array.mk [Value.int IntKind.i64 (↑(List.length (List.getD m s34 [])) : Int), Value.agg (Array.mk (boolsL (List.getD m s34 [])))])))) (Adv.split (108 : Nat) (Adv.chk (112 : Nat) none (Adv.chk (113 : Nat) (some (Value.iface (nat_lit 1000000) (Value.tuple (Array.mk [Value.int IntKind.i64 (↑(List.length (List.getD m s34 [])) : Int), Value.agg (Array.mk (boolsL (List.getD m s34 [])))])))) (Adv.chk (115 : Nat) none (Adv.chks (116 : Nat) (some (Value.bool (List.getD (List.getD m s34 []) s76 false))) (Adv.chk (121 : Nat) none (Adv.chk (122 : Nat) (some (Value.iface (nat_lit 1000000) (Value.tuple (Array.mk [Value.int IntKind.i64 (↑(List.length (List.getD (closM m) s34 [])) : Int), Value.agg (Array.mk (boolsL (List.getD (closM m) s34 [])))])))) (Adv.chk (124 : Nat) none (Adv.chks (125 : Nat) (some (Value.bool (List.getD (List.getD (closM m) s34 []) s76 false))) Adv.nil Adv.nil)))) Adv.nil)))) Adv.nil))))))))))) Adv.nil) Adv.nil)))))))))) (Adv.pur (43 : Nat) (Value.bool true) Adv.nil))))))) (by kernel_rfl) (by kernel_rfl) (p := (decide ((↑(List.length m) : Int) > (16 : Int)) = true → CallK Try.prog (nat_lit 36) [] (Value.bool true) ∧ Value.bool true = Value.bool true) ∧ (decide ((↑(List.length m) : Int) > (16 : Int)) = false → CallK Try.prog (nat_lit 37) [Value.iface (nat_lit 1000000) (Value.tuple (Array.mk [Value.int IntKind.i64 (↑(List.length m) : Int), Value.agg (Array.mk (matL m))]))] (Value.iface (nat_lit 1000000) (Value.tuple (Array.mk [Value.int IntKind.i64 (↑(List.length (closM m)) : Int), Value.agg (Array.mk (matL (closM m)))]))) ∧ CallK Try.prog (nat_lit 37) [Value.iface (nat_lit 1000000) (Value.tuple (Array.mk [Value.int IntKind.i64 (↑(List.length (closM m)) : Int), Value.agg (Array.mk (matL (closM m)))]))] (Value.iface (nat_lit 1000000) (Value.tuple (Array.mk [Value.int IntKind.i64 (↑(List.length (closM (closM m))) : Int), Value.agg (Array.mk (matL (closM (closM m))))]))) ∧ (((↑(List.length (closM m)) : Int) != (↑(List.length m) : Int)) = true → Value.bool false = Value.bool true) ∧ (((↑(List.length (closM m)) : Int) != (↑(List.length m) : Int)) = false → (((↑(List.length (closM (closM m))) : Int) != (↑(List.length m) : Int)) = true → Value.bool false = Value.bool true) ∧ (((↑(List.length (closM (closM m))) : Int) != (↑(List.length m) : Int)) = false → (List.length m + (0 : Nat) = List.length m ∧ Value.int IntKind.i64 (0 : Int) = Value.int IntKind.i64 (0 : Int) ∧ Heap.mk (nat_lit 0) Trie.leaf = Heap.mk (nat_lit 0) Trie.leaf) ∧ ∀ (i34 s34 : Nat) (j34 : Nat → Value), i34 + s34 = List.length m → (decide ((↑s34 : Int) < (↑(List.length m) : Int)) = true → ((0 : Int) ≤ (↑s34 : Int) ∧ (↑s34 : Int) < (↑(List.length (closM m)) : Int)) ∧ Ask.holds Try.prog (Ask.part (Array.toList (Array.mk (matL (closM m)))) (Int.toNat (↑(Int.toNat (↑s34 : Int) * nat_lit 1) : Int)) (nat_lit 1) [Value.iface (nat_lit 1000000) (Value.tuple (Array.mk [Value.int IntKind.i64 (↑(List.length (List.getD (closM m) s34 [])) : Int), Value.agg (Array.mk (boolsL (List.getD (closM m) s34 [])))]))]) ∧ (((↑(List.length (List.getD (closM m) s34 [])) : Int) != (↑(List.length m) : Int)) = true → Value.bool false = Value.bool true) ∧ (((↑(List.length (List.getD (closM m) s34 [])) : Int) != (↑(List.length m) : Int)) = false → ((0 : Int) ≤ (↑s34 : Int) ∧ (↑s34 : Int) < (↑(List.length (closM (closM m))) : Int)) ∧ Ask.holds Try.prog (Ask.part (Array.toList (Array.mk (matL (closM (closM m))))) (Int.toNat (↑(Int.toNat (↑s34 : Int) * nat_lit 1) : Int)) (nat_lit 1) [Value.iface (nat_lit 1000000) (Value.tuple (Array.mk [Value.int IntKind.i64 (↑(List.length (List.getD (closM (closM m)) s34 [])) : Int), Value.agg (Array.mk (boolsL (List.getD (closM (closM m)) s34 [])))]))]) ∧ (((↑(List.length (List.getD (closM (closM m)) s34 [])) : Int) != (↑(List.length m) : Int)) = true → Value.bool false = Value.bool true) ∧ (((↑(List.length (List.getD (closM (closM m)) s34 [])) : Int) != (↑(List.length m) : Int)) = false → ((0 : Int) ≤ (↑s34 : Int) ∧ (↑s34 : Int) < (↑(List.length (closM m)) : Int)) ∧ Ask.holds Try.prog (Ask.part (Array.toList (Array.mk (matL (closM m)))) (Int.toNat (↑(Int.toNat (↑s34 : Int) * nat_lit 1) : Int)) (nat_lit 1) [Value.iface (nat_lit 1000000) (Value.tuple (Array.mk [Value.int IntKind.i64 (↑(List.length (List.getD (closM m) s34 [])) : Int), Value.agg (Array.mk (boolsL (List.getD (closM m) s34 [])))]))]) ∧ ((0 : Int) ≤ (↑s34 : Int) ∧ (↑s34 : Int) < (↑(List.length (List.getD (closM m) s34 [])) : Int)) ∧ Ask.holds Try.prog (Ask.part (Array.toList (Array.mk (boolsL (List.getD (closM m) s34 [])))) (Int.toNat (↑(Int.toNat (↑s34 : Int) * nat_lit 1) : Int)) (nat_lit 1) [Value.bool (List.getD (List.getD (closM m) s34 []) s34 false)]) ∧ (List.getD (List.getD (closM m) s34 []) s34 false = true → (List.length m + (0 : Nat) = List.length m ∧ Value.int IntKind.i64 (0 : Int) = Value.int IntKind.i64 (0 : Int) ∧ Heap.mk (nat_lit 0) Trie.leaf = Heap.mk (nat_lit 0) Trie.leaf) ∧ ∀ (i76 s76 : Nat) (j76 : Nat → Value), i76 + s76 = List.length m → (decide ((↑s76 : Int) < (↑(List.length m) : Int)) = true → ((0 : Int) ≤ (↑s34 : Int) ∧ (↑s34 : Int) < (↑(List.length (closM m)) : Int)) ∧ Ask.holds Try.prog (Ask.part (Array.toList (Array.mk (matL (closM m)))) (Int.toNat (↑(Int.toNat (↑s34 : Int) * nat_lit 1) : Int)) (nat_lit 1) [Value.iface (nat_lit 1000000) (Value.tuple (Array.mk [Value.int IntKind.i64 (↑(List.length (List.getD (closM m) s34 [])) : Int), Value.agg (Array.mk (boolsL (List.getD (closM m) s34 [])))]))]) ∧ ((0 : Int) ≤ (↑s76 : Int) ∧ (↑s76 : Int) < (↑(List.length (List.getD (closM m) s34 [])) : Int)) ∧ Ask.holds Try.prog (Ask.part (Array.toList (Array.mk (boolsL (List.getD (closM m) s34 [])))) (Int.toNat (↑(Int.toNat (↑s76 : Int) * nat_lit 1) : Int)) (nat_lit 1) [Value.bool (List.getD (List.getD (closM m) s34 []) s76 false)]) ∧ (List.getD (List.getD (closM m) s34 []) s76 false = true → ((0 : Int) ≤ (↑s34 : Int) ∧ (↑s34 : Int) < (↑(List.length (closM (closM m))) : Int)) ∧ Ask.holds Try.prog (Ask.part (Array.toList (Array.mk (matL (closM (closM m))))) (Int.toNat (↑(Int.toNat (↑s34 : Int) * nat_lit 1) : Int)) (nat_lit 1) [Value.iface (nat_lit 1000000) (Value.tuple (Array.mk [Value.int IntKind.i64 (↑(List.length (List.getD (closM (closM m)) s34 [])) : Int), Value.agg (Array.mk (boolsL (List.getD (closM (closM m)) s34 [])))]))]) ∧ ((0 : Int) ≤ (↑s76 : Int) ∧ (↑s76 : Int) < (↑(List.length (List.getD (closM (closM m)) s34 [])) : Int)) ∧ Ask.holds Try.prog (Ask.part (Array.toList (Array.mk (boolsL (List.getD (closM (closM m)) s34 [])))) (Int.toNat (↑(Int.toNat (↑s76 : Int) * nat_lit 1) : Int)) (nat_lit 1) [Value.bool (List.getD (List.getD (closM (closM m)) s34 []) s76 false)]) ∧ (List.getD (List.getD (closM (closM m)) s34 []) s76 false = true → ((0 : Int) ≤ (↑s34 : Int) ∧ (↑s34 : Int) < (↑(List.length m) : Int)) ∧ Ask.holds Try.prog (Ask.part (Array.toList (Array.mk (matL m))) (Int.toNat (↑(Int.toNat (↑s34 : Int) * nat_lit 1) : Int)) (nat_lit 1) [Value.iface (nat_lit 1000000) (Value.tuple (Array.mk [Value.int IntKind.i64 (↑(List.length (List.getD m s34 [])) : Int), Value.agg (Array.mk (boolsL (List.getD m s34 [])))]))]) ∧ (decide ((↑s76 : Int) < (↑(List.length (List.getD m s34 [])) : Int)) = true → ((0 : Int) ≤ (↑s34 : Int) ∧ (↑s34 : Int) < (↑(List.length m) : Int)) ∧ Ask.holds Try.prog (Ask.part (Array.toList (Array.mk (matL m))) (Int.toNat (↑(Int.toNat (↑s34 : Int) * nat_lit 1) : Int)) (nat_lit 1) [Value.iface (nat_lit 1000000) (Value.tuple (Array.mk [Value.int IntKind.i64 (↑(List.length (List.getD m s34 [])) : Int), Value.agg (Array.mk (boolsL (List.getD m s34 [])))]))]) ∧ ((0 : Int) ≤ (↑s76 : Int) ∧ (↑s76 : Int) < (↑(List.length (List.getD m s34 [])) : Int)) ∧ Ask.holds Try.prog (Ask.part (Array.toList (Array.mk (boolsL (List.getD m s34 [])))) (Int.toNat (↑(Int.toNat (↑s76 : Int) * nat_lit 1) : Int)) (nat_lit 1) [Value.bool (List.getD (List.getD m s34 []) s76 false)]) ∧ (List.getD (List.getD m s34 []) s76 false = true → ((0 : Int) ≤ (↑s34 : Int) ∧ (↑s34 : Int) < (↑(List.length (closM m)) : Int)) ∧ Ask.holds Try.prog (Ask.part (Array.toList (Array.mk (matL (closM m)))) (Int.toNat (↑(Int.toNat (↑s34 : Int) * nat_lit 1) : Int)) (nat_lit 1) [Value.iface (nat_lit 1000000) (Value.tuple (Array.mk [Value.int IntKind.i64 (↑(List.length (List.getD (closM m) s34 [])) : Int), Value.agg (Array.mk (boolsL (List.getD (closM m) s34 [])))]))]) ∧ ((0 : Int) ≤ (↑s76 : Int) ∧ (↑s76 : Int) < (↑(List.length (List.getD (closM m) s34 [])) : Int)) ∧ Ask.holds Try.prog (Ask.part (Array.toList (Array.mk (boolsL (List.getD (closM m) s34 [])))) (Int.toNat (↑(Int.toNat (↑s76 : Int) * nat_lit 1) : Int)) (nat_lit 1) [Value.bool (List.getD (List.getD (closM m) s34 []) s76 false)]) ∧ (List.getD (List.getD (closM m) s34 []) s76 false = true → ∃ (i76' : Nat), ∃ (s76' : Nat), i76' < i76 ∧ i76' + s76' = List.length m ∧ Value.int IntKind.i64 (IntKind.wrap IntKind.i64 ((↑s76 : Int) + (1 : Int))) = Value.int IntKind.i64 (↑s76' : Int) ∧ True ∧ true = true ∧ True) ∧ (List.getD (List.getD (closM m) s34 []) s76 false = false → Value.bool false = Value.bool true)) ∧ (List.getD (List.getD m s34 []) s76 false = false → ∃ (i76' : Nat), ∃ (s76' : Nat), i76' < i76 ∧ i76' + s76' = List.length m ∧ Value.int IntKind.i64 (IntKind.wrap IntKind.i64 ((↑s76 : Int) + (1 : Int))) = Value.int IntKind.i64 (↑s76' : Int) ∧ True ∧ true = true ∧ True)) ∧ (decide ((↑s76 : Int) < (↑(List.length (List.getD m s34 [])) : Int)) = false → ∃ (i76' : Nat), ∃ (s76' : Nat), i76' < i76 ∧ i76' + s76' = List.length m ∧ Value.int IntKind.i64 (IntKind.wrap IntKind.i64 ((↑s76 : Int) + (1 : Int))) = Value.int IntKind.i64 (↑s76' : Int) ∧ True ∧ true = true ∧ True)) ∧ (List.getD (List.getD (closM (closM m)) s34 []) s76 false = false → Value.bool false = Value.bool true)) ∧ (List.getD (List.getD (closM m) s34 []) s76 false = false → ((0 : Int) ≤ (↑s34 : Int) ∧ (↑s34 : Int) < (↑(List.length (closM (closM m))) : Int)) ∧ Ask.holds Try.prog (Ask.part (Array.toList (Array.mk (matL (closM (closM m))))) (Int.toNat (↑(Int.toNat (↑s34 : Int) * nat_lit 1) : Int)) (nat_lit 1) [Value.iface (nat_lit 1000000) (Value.tuple (Array.mk [Value.int IntKind.i64 (↑(List.length (List.getD (closM (closM m)) s34 [])) : Int), Value.agg (Array.mk (boolsL (List.getD (closM (closM m)) s34 [])))]))]) ∧ ((0 : Int) ≤ (↑s76 : Int) ∧ (↑s76 : Int) < (↑(List.length (List.getD (closM (closM m)) s34 [])) : Int)) ∧ Ask.holds Try.prog (Ask.part (Array.toList (Array.mk (boolsL (List.getD (closM (closM m)) s34 [])))) (Int.toNat (↑(Int.toNat (↑s76 : Int) * nat_lit 1) : Int)) (nat_lit 1) [Value.bool (List.getD (List.getD (closM (closM m)) s34 []) s76 false)]) ∧ (List.getD (List.getD (closM (closM m)) s34 []) s76 false = true → Value.bool false = Value.bool true) ∧ (List.getD (List.getD (closM (closM m)) s34 []) s76 false = false → ((0 : Int) ≤ (↑s34 : Int) ∧ (↑s34 : Int) < (↑(List.length m) : Int)) ∧ Ask.holds Try.prog (Ask.part (Array.toList (Array.mk (matL m))) (Int.toNat (↑(Int.toNat (↑s34 : Int) * nat_lit 1) : Int)) (nat_lit 1) [Value.iface (nat_lit 1000000) (Value.tuple (Array.mk [Value.int IntKind.i64 (↑(List.length (List.getD m s34 [])) : Int), Value.agg (Array.mk (boolsL (List.getD m s34 [])))]))]) ∧ (decide ((↑s76 : Int) < (↑(List.length (List.getD m s34 [])) : Int)) = true → ((0 : Int) ≤ (↑s34 : Int) ∧ (↑s34 : Int) < (↑(List.length m) : Int)) ∧ Ask.holds Try.prog (Ask.part (Array.toList (Array.mk (matL m))) (Int.toNat (↑(Int.toNat (↑s34 : Int) * nat_lit 1) : Int)) (nat_lit 1) [Value.iface (nat_lit 1000000) (Value.tuple (Array.mk [Value.int IntKind.i64 (↑(List.length (List.getD m s34 [])) : Int), Value.agg (Array.mk (boolsL (List.getD m s34 [])))]))]) ∧ ((0 : Int) ≤ (↑s76 : Int) ∧ (↑s76 : Int) < (↑(List.length (List.getD m s34 [])) : Int)) ∧ Ask.holds Try.prog (Ask.part (Array.toList (Array.mk (boolsL (List.getD m s34 [])))) (Int.toNat (↑(Int.toNat (↑s76 : Int) * nat_lit 1) : Int)) (nat_lit 1) [Value.bool (List.getD (List.getD m s34 []) s76 false)]) ∧ (List.getD (List.getD m s34 []) s76 false = true → ((0 : Int) ≤ (↑s34 : Int) ∧ (↑s34 : Int) < (↑(List.length (closM m)) : Int)) ∧ Ask.holds Try.prog (Ask.part (Array.toList (Array.mk (matL (closM m)))) (Int.toNat (↑(Int.toNat (↑s34 : Int) * nat_lit 1) : Int)) (nat_lit 1) [Value.iface (nat_lit 1000000) (Value.tuple (Array.mk [Value.int IntKind.i64 (↑(List.length (List.getD (closM m) s34 [])) : Int), Value.agg (Array.mk (boolsL (List.getD (closM m) s34 [])))]))]) ∧ ((0 : Int) ≤ (↑s76 : Int) ∧ (↑s76 : Int) < (↑(List.length (List.getD (closM m) s34 [])) : Int)) ∧ Ask.holds Try.prog (Ask.part (Array.toList (Array.mk (boolsL (List.getD (closM m) s34 [])))) (Int.toNat (↑(Int.toNat (↑s76 : Int) * nat_lit 1) : Int)) (nat_lit 1) [Value.bool (List.getD (List.getD (closM m) s34 []) s76 false)]) ∧ (List.getD (List.getD (closM m) s34 []) s76 false = true → ∃ (i76' : Nat), ∃ (s76' : Nat), i76' < i76 ∧ i76' + s76' = List.length m ∧ Value.int IntKind.i64 (IntKind.wrap IntKind.i64 ((↑s76 : Int) + (1 : Int))) = Value.int IntKind.i64 (↑s76' : Int) ∧ True ∧ true = true ∧ True) ∧ (List.getD (List.getD (closM m) s34 []) s76 false = false → Value.bool false = Value.bool true)) ∧ (List.getD (List.getD m s34 []) s76 false = false → ∃ (i76' : Nat), ∃ (s76' : Nat), i76' < i76 ∧ i76' + s76' = List.length m ∧ Value.int IntKind.i64 (IntKind.wrap IntKind.i64 ((↑s76 : Int) + (1 : Int))) = Value.int IntKind.i64 (↑s76' : Int) ∧ True ∧ true = true ∧ True)) ∧ (decide ((↑s76 : Int) < (↑(List.length (List.getD m s34 [])) : Int)) = false → ∃ (i76' : Nat), ∃ (s76' : Nat), i76' < i76 ∧ i76' + s76' = List.length m ∧ Value.int IntKind.i64 (IntKind.wrap IntKind.i64 ((↑s76 : Int) + (1 : Int))) = Value.int IntKind.i64 (↑s76' : Int) ∧ True ∧ true = true ∧ True)))) ∧ (decide ((↑s76 : Int) < (↑(List.length m) : Int)) = false → ∃ (i34' : Nat), ∃ (s34' : Nat), i34' < i34 ∧ i34' + s34' = List.length m ∧ Value.int IntKind.i64 (IntKind.wrap IntKind.i64 ((↑s34 : Int) + (1 : Int))) = Value.int IntKind.i64 (↑s34' : Int) ∧ True ∧ true = true ∧ True)) ∧ (List.getD (List.getD (closM m) s34 []) s34 false = false → Value.bool false = Value.bool true)))) ∧ (decide ((↑s34 : Int) < (↑(List.length m) : Int)) = false → CallK Try.prog (nat_lit 36) [] (Value.bool true) ∧ Value.bool true = Value.bool true))))) (by kernel_rfl) (by
    have hc := closM_length m
    have hcc : (closM (closM m)).length = m.length := (closM_length _).trans hc
    refine ⟨fun _ => ⟨awake36_w, rfl⟩, fun h0 => ?_⟩
    have hl : m.length ≤ 16 := by have := of_decide_eq_false h0; omega
    refine ⟨closure_w m hl, closure_w _ (by rw [hc]; exact hl), fun h => absurd h (by simp [hc]), fun _ => ⟨fun h => absurd h (by simp [hcc]), fun _ => ⟨⟨rfl, rfl, rfl⟩, fun a i j q => ⟨fun h1 => ?_, fun _ => ⟨awake36_w, rfl⟩⟩⟩⟩⟩
    have hi : i < m.length := by have := of_decide_eq_true h1; omega
    have hic : i < (closM m).length := by rw [hc]; exact hi
    have hicc : i < (closM (closM m)).length := by rw [hcc]; exact hi
    have hrow := closM_row (m := m) hi
    have hrow2 : ((closM (closM m)).getD i []).length = m.length := by rw [closM_again]; exact hrow
    have hir : i < ((closM m).getD i []).length := by rw [hrow]; exact hi
    refine ⟨⟨by omega, by omega⟩, mat_part hic rfl, fun h => absurd h (by rw [hrow]; simp), fun _ => ⟨⟨by omega, by omega⟩, mat_part hicc rfl, fun h => absurd h (by rw [hrow2]; simp), fun _ => ⟨⟨by omega, by omega⟩, mat_part hic rfl, ⟨by omega, by omega⟩, bools_part hir rfl, fun _ => ⟨⟨rfl, rfl, rfl⟩, fun a2 k j2 q2 => ⟨fun h3 => ?_, fun h3 => ?_⟩⟩, fun h => ?_⟩⟩⟩
    · have hk : k < m.length := by have := of_decide_eq_true h3; omega
      have hkr : k < ((closM m).getD i []).length := by rw [hrow]; exact hk
      have hkr2 : k < ((closM (closM m)).getD i []).length := by rw [hrow2]; exact hk
      have he : ((closM (closM m)).getD i []).getD k false = ((closM m).getD i []).getD k false := by rw [closM_again]
      have nxt : ∃ (i' : Nat) (s' : Nat), i' < a2 ∧ i' + s' = m.length ∧ Value.int .i64 (IntKind.i64.wrap ((k : Int) + 1)) = .int .i64 (s' : Nat) ∧ True ∧ true = true ∧ True := ⟨a2 - 1, k + 1, by omega, by omega, wrap_next k (by omega), trivial, rfl, trivial⟩
      have lst : ∀ {p : Prop}, ((closM m).getD i []).getD k false = false → (m.getD i []).getD k false = true → p := fun h4 h5 => by
        rw [closM_at hi hk, come_has hi hk h5] at h4; cases h4
      refine ⟨⟨by omega, by omega⟩, mat_part hic rfl, ⟨by omega, by omega⟩, bools_part hkr rfl, fun h4 => ⟨⟨by omega, by omega⟩, mat_part hicc rfl, ⟨by omega, by omega⟩, bools_part hkr2 rfl, fun h5 => ⟨⟨by omega, by omega⟩, mat_part hi rfl, fun h6 => ?_, fun _ => nxt⟩, fun h5 => ?_⟩, fun h4 => ⟨⟨by omega, by omega⟩, mat_part hicc rfl, ⟨by omega, by omega⟩, bools_part hkr2 rfl, fun h5 => ?_, fun h5 => ⟨⟨by omega, by omega⟩, mat_part hi rfl, fun h6 => ?_, fun _ => nxt⟩⟩⟩
      · have hkm : k < (m.getD i []).length := by have := of_decide_eq_true h6; omega
        exact ⟨⟨by omega, by omega⟩, mat_part hi rfl, ⟨by omega, by omega⟩, bools_part hkm rfl, fun h7 => ⟨⟨by omega, by omega⟩, mat_part hic rfl, ⟨by omega, by omega⟩, bools_part hkr rfl, fun _ => nxt, fun h8 => lst h8 h7⟩, fun _ => nxt⟩
      · rw [he, h4] at h5; cases h5
      · rw [he, h4] at h5; cases h5
      · have hkm : k < (m.getD i []).length := by have := of_decide_eq_true h6; omega
        exact ⟨⟨by omega, by omega⟩, mat_part hi rfl, ⟨by omega, by omega⟩, bools_part hkm rfl, fun h7 => ⟨⟨by omega, by omega⟩, mat_part hic rfl, ⟨by omega, by omega⟩, bools_part hkr rfl, fun _ => nxt, fun h8 => lst h8 h7⟩, fun _ => nxt⟩
    · exact ⟨a - 1, i + 1, by omega, by omega, wrap_next i (by omega), trivial, rfl, trivial⟩
    · rw [closM_at hi hi, come_self hi] at h; cases h)
end Go.Proofs.Ytepijhnfeafmaaa

end
