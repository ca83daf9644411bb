/- Texts packed together: CTextLaw. -/
import Derived.Lib.ItoaNum
import Derived.Lib.AtoiAll
import Derived.Lib.Join
import Derived.Test.YtkoomfldnbpndaaDoorZ22
section
/- Sets told: runs of numbers as texts, and the texts read again. -/
set_option linter.unusedVariables false
set_option linter.unusedSimpArgs false
namespace Go.Proofs.YtkoomfldnbpndaaDoor
open Go Go.Ideal
def dig (n : Nat) : Bs := Lib.itoa (n : Int)
/-- How many follow x, one by one. -/
def runEnd : Nat → List Nat → Nat
  | _, [] => 0
  | x, y :: r => if y = x + 1 then runEnd y r + 1 else 0
def runT (lo hi : Nat) : Bs := if hi = lo then dig lo else if hi = lo + 1 then dig lo ++ 44 :: dig hi else dig lo ++ 45 :: dig hi
def textsL : List Nat → List Bs
  | [] => []
  | x :: r => runT x (x + runEnd x r) :: textsL (r.drop (runEnd x r))
termination_by l => l.length
decreasing_by simp only [List.length_drop, List.length_cons]; omega
theorem textsL_nil : textsL [] = [] := by rw [textsL]
theorem textsL_cons (x : Nat) (r : List Nat) : textsL (x :: r) = runT x (x + runEnd x r) :: textsL (r.drop (runEnd x r)) := by rw [textsL]
theorem runEnd_le : ∀ (x : Nat) (r : List Nat), runEnd x r ≤ r.length
  | _, [] => Nat.le_refl 0
  | x, y :: r => by
    unfold runEnd
    split
    · have := runEnd_le y r; simp; omega
    · omega
def textN (l : List Nat) : Bs := if l = [] then [45] else gumL 44 (textsL l)
/-! ### digits -/
def isDig (b : UInt8) : Bool := decide (48 ≤ b.toNat) && decide (b.toNat ≤ 57)
def digOK (n : Nat) : Bool := (dig n).all isDig && (match Lib.atoiAll (dig n) with
  | .ok v => decide (v = (n : Int))
  | _ => false) && !(dig n).isEmpty
theorem dig_all : (List.range 300).all digOK = true := by decide +kernel
theorem dig_digs {n : Nat} (h : n < 300) : ∀ b ∈ dig n, isDig b = true := by
  have := List.all_eq_true.1 dig_all n (List.mem_range.2 h)
  unfold digOK at this
  simp only [Bool.and_eq_true] at this
  exact List.all_eq_true.1 this.1.1
theorem dig_atoi {n : Nat} (h : n < 300) : Lib.atoiAll (dig n) = .ok (n : Int) := by
  have := List.all_eq_true.1 dig_all n (List.mem_range.2 h)
  unfold digOK at this
  simp only [Bool.and_eq_true] at this
  have := this.1.2
  split at this
  · rename_i v e; rw [e, of_decide_eq_true this]
  · cases this
theorem dig_ne {n : Nat} (h : n < 300) : dig n ≠ [] := by
  have := List.all_eq_true.1 dig_all n (List.mem_range.2 h)
  unfold digOK at this
  simp only [Bool.and_eq_true] at this
  intro e
  rw [e] at this
  simp at this
theorem dig_not {n : Nat} (h : n < 300) {c : UInt8} (hc : isDig c = false) : c ∉ dig n := fun hm => by
  rw [dig_digs h c hm] at hc; cases hc
/-! ### joined, split -/
theorem joinL_flat (c : UInt8) : ∀ ls : List (List Bs), (∀ l ∈ ls, l ≠ []) → gumL c (ls.map (gumL c)) = gumL c ls.flatten
  | [], _ => rfl
  | l :: ls, h => by
    have ih := joinL_flat c ls (fun x hx => h x (List.mem_cons_of_mem _ hx))
    have hl := h l (by simp)
    rw [List.map_cons, List.flatten_cons]
    by_cases e : ls = []
    · subst e; simp [gumL]
    · have h1 : ls.map (gumL c) ≠ [] := by simpa using e
      have h2 : ls.flatten ≠ [] := by
        cases ls with
        | nil => exact absurd rfl e
        | cons q qs => have := h q (by simp); simp [this]
      rw [joinL_cons c _ h1, ih]
      have key : ∀ a : List Bs, a ≠ [] → ∀ b : List Bs, b ≠ [] → gumL c (a ++ b) = gumL c a ++ c :: gumL c b := by
        intro a
        induction a with
        | nil => intro h; exact absurd rfl h
        | cons p ps ihp =>
          intro _ b hb
          cases ps with
          | nil => rw [List.singleton_append, joinL_cons c p hb]; rfl
          | cons q qs =>
            have := ihp (by simp) b hb
            rw [List.cons_append, joinL_cons c p (by simp), this, joinL_cons c p (by simp : q :: qs ≠ [])]
            simp
      exact (key l hl _ h2).symm
/-- The pieces of a run's text. -/
def runP (lo hi : Nat) : List Bs := if hi = lo then [dig lo] else if hi = lo + 1 then [dig lo, dig hi] else [dig lo ++ 45 :: dig hi]
theorem runP_ne (lo hi : Nat) : runP lo hi ≠ [] := by unfold runP; split <;> (try split) <;> simp
theorem runP_join (lo hi : Nat) : gumL 44 (runP lo hi) = runT lo hi := by
  unfold runP runT; split <;> (try split) <;> simp [gumL]
def piecesN : List Nat → List (List Bs)
  | [] => []
  | x :: r => runP x (x + runEnd x r) :: piecesN (r.drop (runEnd x r))
termination_by l => l.length
decreasing_by simp only [List.length_drop, List.length_cons]; omega
theorem piecesN_nil : piecesN [] = [] := by rw [piecesN]
theorem piecesN_cons (x : Nat) (r : List Nat) : piecesN (x :: r) = runP x (x + runEnd x r) :: piecesN (r.drop (runEnd x r)) := by rw [piecesN]
theorem strong {P : List Nat → Prop} (h0 : P []) (h1 : ∀ x r, P (r.drop (runEnd x r)) → P (x :: r)) : ∀ l, P l := by
  intro l
  generalize hn : l.length = n
  induction n using Nat.strongRecOn generalizing l with
  | _ n ih =>
    cases l with
    | nil => exact h0
    | cons x r =>
      refine h1 x r (ih (r.drop (runEnd x r)).length ?_ _ rfl)
      simp only [List.length_drop, List.length_cons] at hn ⊢; omega
theorem texts_pieces : ∀ l, textsL l = (piecesN l).map (gumL 44) := strong (by rw [textsL_nil, piecesN_nil]; rfl) fun x r ih => by
  rw [textsL_cons, piecesN_cons, List.map_cons, runP_join, ih]
theorem pieces_ne : ∀ l, ∀ p ∈ piecesN l, p ≠ [] := strong (by rw [piecesN_nil]; simp) fun x r ih => by
  rw [piecesN_cons]
  intro p hp
  rcases List.mem_cons.1 hp with rfl | hp
  · exact runP_ne _ _
  · exact ih p hp
theorem mem_drop' {l : List Nat} {k x : Nat} (h : x ∈ l.drop k) : x ∈ l := List.mem_of_mem_drop h
theorem run_last : ∀ (x : Nat) (r : List Nat), runEnd x r = 0 ∨ x + runEnd x r ∈ r
  | _, [] => .inl rfl
  | x, y :: r => by
    unfold runEnd
    split
    · rename_i e
      subst e
      rcases run_last (x + 1) r with h | h
      · right; rw [h]; simp
      · right
        rw [show x + (runEnd (x + 1) r + 1) = x + 1 + runEnd (x + 1) r from by omega]
        exact List.mem_cons_of_mem _ h
    · exact .inl rfl
theorem run_lt {x : Nat} {r : List Nat} (h : ∀ y ∈ x :: r, y < 240) : x + runEnd x r < 240 := by
  rcases run_last x r with e | e
  · rw [e]; exact h x (by simp)
  · exact h _ (List.mem_cons_of_mem _ e)
theorem pieces_no : ∀ l, (∀ y ∈ l, y < 240) → ∀ p ∈ (piecesN l).flatten, (44 : UInt8) ∉ p := strong (by rw [piecesN_nil]; simp) fun x r ih h => by
  have hx : x < 240 := h x (by simp)
  have hr := run_lt h
  have d1 := dig_not (n := x) (by omega) (c := 44) rfl
  have d2 := dig_not (n := x + runEnd x r) (by omega) (c := 44) rfl
  intro p hp
  rw [piecesN_cons, List.flatten_cons, List.mem_append] at hp
  rcases hp with hp | hp
  · unfold runP at hp
    split at hp
    · rw [List.mem_singleton] at hp; subst hp; exact d1
    · split at hp
      · rcases List.mem_cons.1 hp with rfl | hp
        · exact d1
        · rw [List.mem_singleton] at hp; subst hp; exact d2
      · rw [List.mem_singleton] at hp; subst hp
        intro hm
        rcases List.mem_append.1 hm with k | k
        · exact d1 k
        · rcases List.mem_cons.1 k with k | k
          · exact absurd k (by decide)
          · exact d2 k
  · exact ih (fun y hy => h y (List.mem_cons_of_mem _ (mem_drop' hy))) p hp
theorem textN_split {l : List Nat} (h : ∀ y ∈ l, y < 240) (hl : l ≠ []) : splitL 44 (textN l) = (piecesN l).flatten := by
  unfold textN
  rw [if_neg hl, texts_pieces, joinL_flat 44 _ (pieces_ne l)]
  refine splitL_join 44 _ ?_ (pieces_no l h)
  cases l with
  | nil => exact absurd rfl hl
  | cons x r =>
    rw [piecesN_cons, List.flatten_cons]
    have := runP_ne x (x + runEnd x r)
    simp [this]
end Go.Proofs.YtkoomfldnbpndaaDoor

end
