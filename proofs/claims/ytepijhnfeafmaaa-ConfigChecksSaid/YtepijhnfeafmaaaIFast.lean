/- Operations, each reckoned by a small text of its own: quick in the kernel. They answer as the interpreter's do. Over any program. -/
import Derived.Test.YtepijhnfeafmaaaIQuick
set_option linter.unusedVariables false
set_option linter.unusedSimpArgs false
namespace Go.Ideal
open Go.RowKit

def fBin (op : BinOp) (x y : Value) : Option Value := match x, y with
  | .int k a, .int k' b => match op with
    | .eql => match decide (k = k') with
      | true => some (.bool (a == b))
      | false => none
    | .neq => match decide (k = k') with
      | true => some (.bool (a != b))
      | false => none
    | .lss => match decide (k = k') with
      | true => some (.bool (decide (a < b)))
      | false => none
    | .leq => match decide (k = k') with
      | true => some (.bool (decide (a ≤ b)))
      | false => none
    | .gtr => match decide (k = k') with
      | true => some (.bool (decide (a > b)))
      | false => none
    | .geq => match decide (k = k') with
      | true => some (.bool (decide (a ≥ b)))
      | false => none
    | .add => match decide (k = k') with
      | true => some (.int k (k.wrap (a + b)))
      | false => none
    | .sub => match decide (k = k') with
      | true => some (.int k (k.wrap (a - b)))
      | false => none
    | .mul => match decide (k = k') with
      | true => some (.int k (k.wrap (a * b)))
      | false => none
    | .and => match decide (k = k') with
      | true => some (.int k (k.wrap (BitVec.ofInt k.bits a &&& BitVec.ofInt k.bits b).toNat))
      | false => none
    | .or => match decide (k = k') with
      | true => some (.int k (k.wrap (BitVec.ofInt k.bits a ||| BitVec.ofInt k.bits b).toNat))
      | false => none
    | _ => none
  | _, _ => none

theorem fBin_sound {P : Program} {op : BinOp} {t ty : TypeId} {x y : Operand} {o : Oper} {ts : List Value} {h : Heap} {v : Value} (ho : o.op = .binOp op t x y ty) (he : fBin op (evI ts x) (evI ts y) = some v) : opB P o ts h = some (v, h) := by
  unfold fBin at he
  split at he
  · rename_i k a k' b hx hy
    have hfl : (flatOp ts x && flatOp ts y) = true := by
      have h1 : flatOp ts x = true := by
        unfold flatOp
        split
        · rename_i g; simp [evI] at hx
        · rw [hx]; rfl
      have h2 : flatOp ts y = true := by
        unfold flatOp
        split
        · rename_i g; simp [evI] at hy
        · rw [hy]; rfl
      rw [h1, h2]; rfl
    unfold opB
    rw [ho]
    simp only [hfl, if_true]
    unfold execOp
    rw [ho]
    simp only [hx, hy]
    cases op <;> first | (simp only [reduceCtorEq] at he; done) | skip
    all_goals (
      by_cases hk : k = k'
      · subst hk
        simp only [decide_true, Option.some.injEq] at he
        subst he; cases k <;> rfl
      · simp only [hk, decide_false, reduceCtorEq] at he)
  · cases he

/-! the rest, each of its own -/
noncomputable def fLoad (P : Program) (t : TypeId) (a : Operand) (ts : List Value) (h : Heap) : Option (Value × Heap) := match qEv ts a with
  | .pointer (some ad) => match isAggI P t, sizeI P t with
    | some true, some (n + 1) => match qRd h ad (n + 1) with
      | some cs => some (.agg ⟨cs⟩, h)
      | none => none
    | some false, some _ => match qRd h ad 1 with
      | some [v] => some (v, h)
      | _ => none
    | _, _ => none
  | _ => none
theorem fLoad_sound {P : Program} {t : TypeId} {a : Operand} {ts : List Value} {h : Heap} {r : Value × Heap} (he : fLoad P t a ts h = some r) : (match evI ts a with
  | .pointer (some ad) => (loadI P h t ad).map fun v => (v, h)
  | _ => none) = some r := by
  unfold fLoad at he
  rw [qEv_eq] at he
  split at he
  · rename_i ad ha
    unfold loadI
    split at he
    · rename_i n h1 h2
      split at he
      · rename_i cs hc
        simp only [h1, h2, qRd_eq hc (by omega)]
        simpa using he
      · cases he
    · rename_i n h1 h2
      split at he
      · rename_i v hc
        simp only [h1, h2, qRd_eq hc (by omega)]
        simpa using he
      · cases he
    · cases he
  · cases he
noncomputable def fStore (P : Program) (t : TypeId) (a x : Operand) (ts : List Value) (h : Heap) : Option (Value × Heap) := match qEv ts a with
  | .pointer (some ad) => match sizeI P t with
    | some n => fHd (qEv ts x) fun v => match Nat.beq (qLen (Value.cellList v)) n with
      | true => match qWr h ad (Value.cellList v) with
        | some h' => some (undef, h')
        | none => none
      | false => none
    | none => none
  | _ => none
theorem fStore_sound {P : Program} {t : TypeId} {a x : Operand} {ts : List Value} {h : Heap} {r : Value × Heap} (he : fStore P t a x ts h = some r) : (match evI ts a with
  | .pointer (some ad) => (storeI P h t ad (evI ts x)).map fun h' => (undef, h')
  | _ => none) = some r := by
  unfold fStore at he
  simp only [fHd_eq] at he
  rw [qEv_eq, qEv_eq] at he
  split at he
  · rename_i ad ha
    unfold storeI
    split at he
    · rename_i n hs
      simp only [hs]
      split at he
      · rename_i hb
        rw [qLen_eq] at hb
        split at he
        · rename_i h' hw
          rw [if_pos hb, qWr_eq hw]; exact he
        · cases he
      · cases he
    · cases he
  · cases he
noncomputable def fFieldAddr (P : Program) (s : TypeId) (x : Operand) (f : Nat) (ts : List Value) (h : Heap) : Option (Value × Heap) := match fieldOf P s f, qEv ts x with
  | some fl, .pointer (some a) => match sizeI P fl.type with
    | some 0 | none => none
    | _ => some (.pointer (some (a.add fl.offset)), h)
  | _, _ => none
noncomputable def fIndexAddr (P : Program) (t : TypeId) (x ix : Operand) (ts : List Value) (h : Heap) : Option (Value × Heap) := match intI (qEv ts ix), P.underlying t, qEv ts x with
  | some i, some (.array len elem), .pointer (some a) => match sizeI P elem with
    | some size => if 0 ≤ i ∧ i < len then some (.pointer (some (a.add (i.toNat * size))), h) else none
    | none => none
  | some i, some (.slice elem), .slice (some a) len _ => match sizeI P elem with
    | some size => if 0 ≤ i ∧ i < len then some (.pointer (some (a.add (i.toNat * size))), h) else none
    | none => none
  | _, _, _ => none
noncomputable def qPart (P : Program) (t : TypeId) (cs : List Value) (off : Nat) : Option Value :=
  match isAggI P t, sizeI P t with
  | some true, some n => match qTake n (qDrop off cs) with
    | some l => some (.agg ⟨l⟩)
    | none => none
  | some false, some _ => qGet? cs off
  | _, _ => none
theorem qPart_eq {P : Program} {t : TypeId} {cs : List Value} {off : Nat} {v : Value} (he : qPart P t cs off = some v) : partI P t cs off = some v := by
  unfold qPart at he
  unfold partI
  split at he
  · rename_i n h1 h2
    rw [qTake_eq, qDrop_eq] at he
    split at he
    · rename_i l hl
      split at hl
      · cases hl; simp only [h1, h2]; simpa using he
      · cases hl
    · cases he
  · rename_i n h1 h2
    rw [qGet?_eq] at he
    simp only [h1, h2, he]
  · cases he
noncomputable def fField (P : Program) (s : TypeId) (x : Operand) (f : Nat) (ts : List Value) (h : Heap) : Option (Value × Heap) := match fieldOf P s f, qEv ts x with
  | some fl, .agg cs => match qPart P fl.type cs.toList fl.offset with
    | some v => some (v, h)
    | none => none
  | _, _ => none
theorem fField_sound {P : Program} {s : TypeId} {x : Operand} {f : Nat} {ts : List Value} {h : Heap} {r : Value × Heap} (he : fField P s x f ts h = some r) : (match fieldOf P s f, evI ts x with
  | some fl, .agg cs => (partI P fl.type cs.toList fl.offset).map fun v => (v, h)
  | _, _ => none) = some r := by
  unfold fField at he
  rw [qEv_eq] at he
  split at he
  · rename_i fl cs h1 h2
    split at he
    · rename_i v hv
      simp only [h1, qPart_eq hv]; simpa using he
    · cases he
  · cases he
noncomputable def fIndex (P : Program) (t : TypeId) (x ix : Operand) (ts : List Value) (h : Heap) : Option (Value × Heap) := match intI (qEv ts ix), P.underlying t, qEv ts x with
  | some i, some (.array len elem), .agg cs => match sizeI P elem with
    | some size => if 0 ≤ i ∧ i < len then match qPart P elem cs.toList (i.toNat * size) with
      | some v => some (v, h)
      | none => none
      else none
    | none => none
  | some i, some .string, .string s => if 0 ≤ i then match qGet? s.data.toList i.toNat with
    | some b => some (.int .u8 b.toNat, h)
    | none => none
    else none
  | _, _, _ => none
theorem fIndex_sound {P : Program} {t : TypeId} {x ix : Operand} {ts : List Value} {h : Heap} {r : Value × Heap} (he : fIndex P t x ix ts h = some r) : (match intI (evI ts ix), P.underlying t, evI ts x with
    | some i, some (.array len elem), .agg cs => match sizeI P elem with
      | some size => if 0 ≤ i ∧ i < len then (partI P elem cs.toList (i.toNat * size)).map fun v => (v, h) else none
      | none => none
    | some i, some .string, .string s => if 0 ≤ i then match s.data.toList[i.toNat]? with
      | some b => some (.int .u8 b.toNat, h)
      | none => none
      else none
    | _, _, _ => none) = some r := by
  unfold fIndex at he
  rw [qEv_eq, qEv_eq] at he
  split at he
  · rename_i i len elem cs h1 h2 h3
    split at he
    · rename_i size hs
      split at he
      · rename_i hi
        split at he
        · rename_i v hv
          simp only [hs, if_pos hi, qPart_eq hv]; simpa using he
        · cases he
      · cases he
    · cases he
  · rename_i i s h1 h2 h3
    split at he
    · rename_i hi
      rw [qGet?_eq] at he
      rw [if_pos hi]; exact he
    · cases he
  · cases he
noncomputable def fExtract (t : Operand) (i : Nat) (ts : List Value) (h : Heap) : Option (Value × Heap) := match qEv ts t with
  | .tuple ⟨vs⟩ => match qGet? vs i with
    | some v => some (v, h)
    | none => none
  | _ => none
theorem fExtract_sound {t : Operand} {i : Nat} {ts : List Value} {h : Heap} {r : Value × Heap} (he : fExtract t i ts h = some r) : (match evI ts t with
    | .tuple vs => (vs.toList[i]?).map fun v => (v, h)
    | _ => none) = some r := by
  unfold fExtract at he
  rw [qEv_eq] at he
  split at he
  · rename_i vs hv1
    rw [qGet?_eq] at he
    split at he
    · rename_i v hv
      rw [hv1]
      show (vs[i]?).map _ = some r
      rw [hv]; exact he
    · cases he
  · cases he
noncomputable def fBox (x : Operand) (t : TypeId) (ts : List Value) (h : Heap) : Option (Value × Heap) := some (newI h (Value.cellList (qEv ts x)) t .fix)
def fAlloc (P : Program) (t : TypeId) (h : Heap) : Option (Value × Heap) := match zeroI P t with
  | some z => some (newI h z t .fix)
  | none => none
noncomputable def fMakeFunc (fn : Fn) (first captured : Array Operand) (ts : List Value) (h : Heap) : Option (Value × Heap) := some (.func fn ⟨qMap (qEv ts) first.toList⟩ ⟨qMap (qEv ts) captured.toList⟩, h)
noncomputable def fPick (c a b : Operand) (ts : List Value) (h : Heap) : Option (Value × Heap) := match qEv ts c with
  | .bool true => some (qEv ts a, h)
  | .bool false => some (qEv ts b, h)
  | _ => none
noncomputable def fBinO (op : BinOp) (x y : Operand) (ts : List Value) (h : Heap) : Option (Value × Heap) := match fBin op (qEv ts x) (qEv ts y) with
  | some v => some (v, h)
  | none => none
noncomputable def fBi (P : Program) (b : Builtin) (args : Array Operand) (argTypes : Array TypeId) (ts : List Value) (h : Heap) : Option (Value × Heap) := builtinI P h b argTypes (qMap (qEv ts) args.toList)

/-- Operations that have a quick way. -/
noncomputable def fastOp (P : Program) (o : Op) (ts : List Value) (h : Heap) : Option (Value × Heap) := match o with
  | .move x | .assign x => some (qEv ts x, h)
  | .load t a => fLoad P t a ts h
  | .store t a x => fStore P t a x ts h
  | .fieldAddr s x f => fFieldAddr P s x f ts h
  | .indexAddr t x ix => fIndexAddr P t x ix ts h
  | .field s x f => fField P s x f ts h
  | .index t x ix => fIndex P t x ix ts h
  | .extract t i => fExtract t i ts h
  | .box t x => fBox x t ts h
  | .alloc t => fAlloc P t h
  | .makeFunc fn first captured => fMakeFunc fn first captured ts h
  | .pick c a b => fPick c a b ts h
  | .binOp op _ x y _ => fBinO op x y ts h
  | .call { callee := .builtin b, args, argTypes } => fBi P b args argTypes ts h
  | _ => none
theorem qEvF (ts : List Value) : qEv ts = evI ts := by funext o; exact qEv_eq ts o
theorem fastOp_sound {P : Program} {o : Oper} {ts : List Value} {h : Heap} {r : Value × Heap} (he : fastOp P o.op ts h = some r) : opB P o ts h = some r := by
  generalize ho : o.op = op at he
  cases op <;> simp only [fastOp, reduceCtorEq] at he
  case binOp op t x y ty =>
    unfold fBinO at he
    rw [qEvF] at he
    split at he
    · rename_i v hv; simp only [Option.some.injEq] at he; subst he; exact fBin_sound ho hv
    · cases he
  case call c =>
    obtain ⟨callee, args, argTypes⟩ := c
    cases callee <;> simp only [reduceCtorEq] at he
    unfold opB
    rw [ho]
    unfold fBi at he
    rw [qEvF, qMap_eq] at he
    rename_i b
    show (match builtinI P h b argTypes (args.toList.map (evI ts)) with
      | some r => some r
      | none => _) = some r
    rw [he]
  all_goals (unfold opB; rw [ho])
  case load t a => exact fLoad_sound he
  case store t a x => exact fStore_sound he
  case field s x f => exact fField_sound he
  case index t x ix => exact fIndex_sound he
  case extract t i => exact fExtract_sound he
  case makeFunc fn a b => simp only [fMakeFunc, qEvF, qMap_eq] at he; exact he
  all_goals (first | exact he | (simp only [fFieldAddr, fIndexAddr, fBox, fPick, qEvF] at he; exact he))

noncomputable def opQ (P : Program) (o : Oper) (ts : List Value) (h : Heap) : Option (Value × Heap) := match fastOp P o.op ts h with
  | some r => some r
  | none => opI P o ts h
theorem opQ_eq (P : Program) (o : Oper) (ts : List Value) (h : Heap) : opQ P o ts h = opI P o ts h := by
  unfold opQ
  split
  · rename_i r he
    have := fastOp_sound he
    unfold opI
    rw [this]
  · rfl
end Go.Ideal
