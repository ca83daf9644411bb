/- Whether two plain values are alike, as one Bool. -/
import Derived.Test.YtmaajceeaggocaaDoorILift
import Derived.Laws.StructEq
set_option linter.unusedVariables false
set_option linter.unusedSimpArgs false
namespace Go.Ideal

def eqFs (P : Program) (eq : TypeId → Value → Value → Option Bool) (xs ys : Array Value) : List Field → Option Bool
  | [] => some true
  | f :: fs => match f.name == "_" with
    | true => eqFs P eq xs ys fs
    | false => match pureRun P (part f.type xs f.offset), pureRun P (part f.type ys f.offset) with
      | some a, some b => match eq f.type a b, fs with
        | some r, [] => some r
        | some r, f' :: fs' => match eqFs P eq xs ys (f' :: fs') with
          | some s => some (r && s)
          | none => none
        | none, _ => none
      | _, _ => none

def eqD (P : Program) : Nat → TypeId → Value → Value → Option Bool
  | 0, _, _, _ => none
  | d + 1, t, x, y => match P.underlying t, x, y with
    | some (.struct fs), .agg xs, .agg ys => match P.stoodInHeld t with
      | true => none
      | false => eqFs P (eqD P d) xs ys fs.toList
    | some .bool, .bool a, .bool b => some (a == b)
    | some (.int _), .int k a, .int k' b => match decide (k = k') with
      | true => some (a == b)
      | false => none
    | some .string, .string a, .string b => some (a == b)
    | _, _, _ => none

section
variable {P : Program}
theorem pr_bind {α β : Type} (k : α → Sem β) : ∀ (e : Sem α), pureRun P (e >>= k) = (pureRun P e).bind fun a => pureRun P (k a)
  | .pure a => rfl
  | .program f => pr_bind k (f P)
  | .mark m e => pr_bind k e
  | .load _ _ _ => rfl
  | .store _ _ _ _ => rfl
  | .new _ _ => rfl
  | .shape _ _ => rfl
  | .freeze _ _ _ => rfl
  | .frozen _ _ => rfl
  | .getObj _ _ => rfl
  | .setObj _ _ _ => rfl
  | .choose _ _ => rfl
  | .sys _ _ => rfl
  | .halt _ => rfl
theorem pr_pure {α : Type} (a : α) : pureRun P (pure a) = some a := rfl
theorem pr_ite {α : Type} (c : Prop) [Decidable c] (x y : Sem α) : pureRun P (if c then x else y) = if c then pureRun P x else pureRun P y := by split <;> rfl

theorem eqFs_fields {d : Nat} {eq : TypeId → Value → Value → Option Bool} (ih : ∀ t x y b, eq t x y = some b → pureRun P (Op.equalIn d t x y) = some b) (xs ys : Array Value) : ∀ (fs : List Field) (b : Bool), eqFs P eq xs ys fs = some b → pureRun P (Op.eqFields d xs ys fs) = some b
  | [], b, h => by rw [eqFs] at h; exact h
  | f :: fs, b, h => by
    rw [eqFs] at h
    split at h
    · rename_i hn
      have hn' : ¬ (f.name ≠ "_") := by simpa using hn
      rw [Op.eqFields, if_neg hn']
      exact eqFs_fields ih xs ys fs b h
    · rename_i hn
      have hn' : f.name ≠ "_" := by simpa using hn
      rw [Op.eqFields, if_pos hn']
      split at h
      · rename_i va vb ha hb
        simp only [pr_bind, ha, hb, Option.bind_some]
        split at h
        · rename_i r he
          cases h
          simp only [ih _ _ _ _ he, Option.bind_some, pr_ite, Op.eqFields]
          cases b <;> rfl
        · rename_i r f' fs' he
          split at h
          · rename_i s hs
            cases h
            simp only [ih _ _ _ _ he, Option.bind_some, pr_ite]
            rw [eqFs_fields ih xs ys (f' :: fs') s hs]
            cases r <;> rfl
          · cases h
        · cases h
      · cases h

theorem equalIn_fields {d : Nat} {t : TypeId} {fs : Array Field} {xs ys : Array Value} (ht : P.underlying t = some (.struct fs)) (hp : P.stoodInHeld t = false) :
    pureRun P (Op.equalIn (d + 1) t (.agg xs) (.agg ys)) = pureRun P (Op.eqFields d xs ys fs.toList) := by
  have hu : pureRun P (underlying t) = some (.struct fs) := by simp [underlying, pr_bind, program, pureRun, ht]; rfl
  simp only [Op.equalIn, pr_bind, hu, Option.bind_some]
  rw [← Array.forIn_toList]
  simp only [program, pureRun, Option.bind_some, hp, Bool.false_eq_true, if_false]
  generalize fs.toList = l
  clear ht hu
  induction l with
  | nil => rfl
  | cons f l ih =>
    simp only [List.forIn_cons, Op.eqFields]
    split
    · simp only [pr_bind]
      cases pureRun P (part f.type xs f.offset) with
      | none => rfl
      | some a =>
        cases pureRun P (part f.type ys f.offset) with
        | none => rfl
        | some b =>
          simp only [Option.bind_some]
          cases pureRun P (Op.equalIn d f.type a b) with
          | none => rfl
          | some r =>
            cases r
            · rfl
            · simp only [pr_bind] at ih
              simpa [pr_bind, pr_pure] using ih
    · simpa [pr_bind, pr_pure] using ih

theorem pr_underlying {t : TypeId} {D : TypeDesc} (ht : P.underlying t = some D) : pureRun P (underlying t) = some D := by simp [underlying, pr_bind, program, pureRun, ht]; rfl

theorem eqD_sound : ∀ (d : Nat) (t : TypeId) (x y : Value) (b : Bool), eqD P d t x y = some b → pureRun P (Op.equalIn d t x y) = some b
  | 0, _, _, _, _, h => by cases h
  | d + 1, t, x, y, b, h => by
    simp only [eqD] at h
    split at h
    · rename_i fs xs ys ht
      split at h
      · cases h
      · rename_i hp
        rw [equalIn_fields ht hp]
        exact eqFs_fields (eqD_sound d) xs ys _ _ h
    · rename_i a b' ht
      simp only [Op.equalIn, pr_bind, pr_underlying ht, Option.bind_some]
      exact h
    · rename_i k0 k a k' a' ht
      split at h
      · rename_i hk
        have hk : k = k' := by simpa using hk
        subst hk
        simp only [Op.equalIn, pr_bind, pr_underlying ht, Option.bind_some, if_true]
        exact h
      · cases h
    · rename_i a b' ht
      simp only [Op.equalIn, pr_bind, pr_underlying ht, Option.bind_some]
      exact h
    · cases h

theorem op_eql {o : Oper} {ts : List Value} {h : Heap} {t t2 : TypeId} {x y : Operand} {b : Bool} {c d : Array Value} (ho : o.op = .binOp .eql t x y t2) (fx : flatOp ts x = true) (fy : flatOp ts y = true) (hx : evI ts x = .agg c) (hy : evI ts y = .agg d)
    (hg : pureRun P (eqGuard .eql t x y (.agg c) (.agg d)) = some ()) (he : eqD P Op.maxDepth t (.agg c) (.agg d) = some b) (call : CallI) : operI P call o ts h = some (.bool b, h) := by
  obtain ⟨dst, op, ty, pos, after, guard⟩ := o
  simp only at ho; subst ho
  have hb : pureRun P (binOp .eql t (.agg c) (.agg d)) = some (.bool b) := by
    simp only [binOp, Op.equal, pr_bind, eqD_sound _ _ _ _ _ he, Option.bind_some]; rfl
  have hc : pureRun P (execOp (evI ts) ⟨dst, .binOp .eql t x y t2, ty, pos, after, guard⟩) = some (.value (.bool b)) := by
    simp only [execOp, hx, hy, pr_bind, hg, hb, Option.bind_some]; rfl
  simp [operI, opI, fx, fy, hc, flat, flatN]
theorem op_neq {o : Oper} {ts : List Value} {h : Heap} {t t2 : TypeId} {x y : Operand} {b : Bool} {c d : Array Value} (ho : o.op = .binOp .neq t x y t2) (fx : flatOp ts x = true) (fy : flatOp ts y = true) (hx : evI ts x = .agg c) (hy : evI ts y = .agg d)
    (hg : pureRun P (eqGuard .neq t x y (.agg c) (.agg d)) = some ()) (he : eqD P Op.maxDepth t (.agg c) (.agg d) = some b) (call : CallI) : operI P call o ts h = some (.bool (!b), h) := by
  obtain ⟨dst, op, ty, pos, after, guard⟩ := o
  simp only at ho; subst ho
  have hb : pureRun P (binOp .neq t (.agg c) (.agg d)) = some (.bool (!b)) := by
    simp only [binOp, Op.equal, pr_bind, eqD_sound _ _ _ _ _ he, Option.bind_some]; rfl
  have hc : pureRun P (execOp (evI ts) ⟨dst, .binOp .neq t x y t2, ty, pos, after, guard⟩) = some (.value (.bool (!b))) := by
    simp only [execOp, hx, hy, pr_bind, hg, hb, Option.bind_some]; rfl
  simp [operI, opI, fx, fy, hc, flat, flatN]
end
end Go.Ideal
