/- Whether two plain values are alike, as one Bool: as the model says. Over any program. -/
import Derived.Test.YtepijhnfeafmaaaIFrz
import Derived.Laws.StructEq
set_option linter.unusedVariables false
set_option linter.unusedSimpArgs false
namespace Go.Ideal

section
variable {P : Program}
theorem pr_bind {α β : Type} (k : α → Sem β) : ∀ (e : Sem α), pureRun P (e >>= k) = (pureRun P e).bind fun a => pureRun P (k a)
  | .pure a => rfl
  | .program f => pr_bind k (f P)
  | .mark m e => pr_bind k e
  | .load _ _ _ => rfl
  | .store _ _ _ _ => rfl
  | .new _ _ => rfl
  | .shape _ _ => rfl
  | .freeze _ _ _ => rfl
  | .frozen _ _ => rfl
  | .getObj _ _ => rfl
  | .setObj _ _ _ => rfl
  | .choose _ _ => rfl
  | .sys _ _ => rfl
  | .halt _ => rfl
theorem pr_pure {α : Type} (a : α) : pureRun P (pure a) = some a := rfl
theorem pr_ite {α : Type} (c : Prop) [Decidable c] (x y : Sem α) : pureRun P (if c then x else y) = if c then pureRun P x else pureRun P y := by split <;> rfl

theorem eqFs_fields {d : Nat} {eq : TypeId → Value → Value → Option Bool} (ih : ∀ t x y b, eq t x y = some b → pureRun P (Op.equalIn d t x y) = some b) (xs ys : Array Value) : ∀ (fs : List Field) (b : Bool), eqFs P eq xs ys fs = some b → pureRun P (Op.eqFields d xs ys fs) = some b
  | [], b, h => by rw [eqFs] at h; exact h
  | f :: fs, b, h => by
    rw [eqFs] at h
    split at h
    · rename_i hn
      have hn' : ¬ (f.name ≠ "_") := by simpa using hn
      rw [Op.eqFields, if_neg hn']
      exact eqFs_fields ih xs ys fs b h
    · rename_i hn
      have hn' : f.name ≠ "_" := by simpa using hn
      rw [Op.eqFields, if_pos hn']
      split at h
      · rename_i va vb ha hb
        simp only [pr_bind, ha, hb, Option.bind_some]
        split at h
        · rename_i r he
          cases h
          simp only [ih _ _ _ _ he, Option.bind_some, pr_ite, Op.eqFields]
          cases b <;> rfl
        · rename_i r f' fs' he
          split at h
          · rename_i s hs
            cases h
            simp only [ih _ _ _ _ he, Option.bind_some, pr_ite]
            rw [eqFs_fields ih xs ys (f' :: fs') s hs]
            cases r <;> rfl
          · cases h
        · cases h
      · cases h

theorem equalIn_fields {d : Nat} {t : TypeId} {fs : Array Field} {xs ys : Array Value} (ht : P.underlying t = some (.struct fs)) (hp : P.stoodInHeld t = false) :
    pureRun P (Op.equalIn (d + 1) t (.agg xs) (.agg ys)) = pureRun P (Op.eqFields d xs ys fs.toList) := by
  have hu : pureRun P (underlying t) = some (.struct fs) := by simp [underlying, pr_bind, program, pureRun, ht]; rfl
  simp only [Op.equalIn, pr_bind, hu, Option.bind_some]
  rw [← Array.forIn_toList]
  simp only [program, pureRun, Option.bind_some, hp, Bool.false_eq_true, if_false]
  generalize fs.toList = l
  clear ht hu
  induction l with
  | nil => rfl
  | cons f l ih =>
    simp only [List.forIn_cons, Op.eqFields]
    split
    · simp only [pr_bind]
      cases pureRun P (part f.type xs f.offset) with
      | none => rfl
      | some a =>
        cases pureRun P (part f.type ys f.offset) with
        | none => rfl
        | some b =>
          simp only [Option.bind_some]
          cases pureRun P (Op.equalIn d f.type a b) with
          | none => rfl
          | some r =>
            cases r
            · rfl
            · simp only [pr_bind] at ih
              simpa [pr_bind, pr_pure] using ih
    · simpa [pr_bind, pr_pure] using ih

theorem pr_underlying {t : TypeId} {D : TypeDesc} (ht : P.underlying t = some D) : pureRun P (underlying t) = some D := by simp [underlying, pr_bind, program, pureRun, ht]; rfl

theorem eqEs_loop {d : Nat} {eq : TypeId → Value → Value → Option Bool} (ih : ∀ t x y b, eq t x y = some b → pureRun P (Op.equalIn d t x y) = some b) (elem : TypeId) (size : Nat) (xs ys : Array Value) : ∀ (k i : Nat) (b : Bool), eqEs P eq elem size xs ys i k = some b →
    (pureRun P (forIn (List.range' i k) ((none, ()) : Option Bool × Unit) fun i r => do
      let a ← part elem xs (i * size)
      let b ← part elem ys (i * size)
      let c ← Op.equalIn d elem a b
      if (!c) = true then pure (ForInStep.done (some false, ())) else pure (ForInStep.yield (none, ())))) = some (if b then (none, ()) else (some false, ()))
  | 0, i, b, h => by
    rw [eqEs] at h; cases h
    rfl
  | k + 1, i, b, h => by
    rw [eqEs] at h
    rw [List.range'_succ, List.forIn_cons]
    split at h
    · rename_i va vb ha hb
      simp only [pr_bind, ha, hb, Option.bind_some]
      split at h
      · rename_i r he
        cases h
        simp only [ih _ _ _ _ he, Option.bind_some, pr_ite]
        cases b
        · rfl
        · rfl
      · rename_i r k' he
        split at h
        · rename_i s hs
          cases h
          simp only [ih _ _ _ _ he, Option.bind_some, pr_ite]
          cases r
          · rfl
          · have := eqEs_loop ih elem size xs ys (k' + 1) (i + 1) s hs
            simp only [Bool.true_and]
            exact this
        · cases h
      · cases h
    · cases h

theorem eqD_sound : ∀ (d : Nat) (t : TypeId) (x y : Value) (b : Bool), eqD P d t x y = some b → pureRun P (Op.equalIn d t x y) = some b
  | 0, _, _, _, _, h => by cases h
  | d + 1, t, x, y, b, h => by
    simp only [eqD] at h
    split at h
    · rename_i fs xs ys ht
      split at h
      · cases h
      · rename_i hp
        rw [equalIn_fields ht hp]
        exact eqFs_fields (eqD_sound d) xs ys _ _ h
    · rename_i len elem xs ys ht
      split at h
      · rename_i size hsz
        have hs : pureRun P (sizeOf elem) = some size := by
          unfold sizeI at hsz
          cases hi : P.info? elem with
          | none => simp [hi] at hsz
          | some ti =>
            simp only [hi, Option.map_some, Option.some.injEq] at hsz
            simp [sizeOf, typeInfo, pr_bind, program, pureRun, hi, hsz, pr_pure]
        simp only [Op.equalIn, pr_bind, pr_underlying ht, Option.bind_some, hs]
        have := eqEs_loop (eqD_sound d) elem size xs ys len 0 b h
        rw [Std.Legacy.Range.forIn_eq_forIn_range']
        simp only [Std.Legacy.Range.size, Nat.sub_zero, Nat.add_sub_cancel, Nat.div_one]
        rw [this]
        cases b <;> rfl
      · cases h
    · rename_i a b' ht
      simp only [Op.equalIn, pr_bind, pr_underlying ht, Option.bind_some]
      exact h
    · rename_i k0 k a k' a' ht
      split at h
      · rename_i hk
        have hk : k = k' := by simpa using hk
        subst hk
        simp only [Op.equalIn, pr_bind, pr_underlying ht, Option.bind_some, if_true]
        exact h
      · cases h
    · rename_i a b' ht
      simp only [Op.equalIn, pr_bind, pr_underlying ht, Option.bind_some]
      exact h
    · cases h

end
end Go.Ideal
