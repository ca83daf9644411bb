/- Texts packed together: CTextLaw CTextLaw2. -/
import Derived.Lib.ItoaNum
import Derived.Lib.AtoiAll
import Derived.Lib.Join
import Derived.Test.YtidlganponfccaaDoorZ22
section
/- Sets told: runs of numbers as texts, and the texts read again. -/
set_option linter.unusedVariables false
set_option linter.unusedSimpArgs false
namespace Go.Proofs.YtidlganponfccaaDoor
open Go Go.Ideal
def dig (n : Nat) : Bs := Lib.itoa (n : Int)
/-- How many follow x, one by one. -/
def runEnd : Nat → List Nat → Nat
  | _, [] => 0
  | x, y :: r => if y = x + 1 then runEnd y r + 1 else 0
def runT (lo hi : Nat) : Bs := if hi = lo then dig lo else if hi = lo + 1 then dig lo ++ 44 :: dig hi else dig lo ++ 45 :: dig hi
def textsL : List Nat → List Bs
  | [] => []
  | x :: r => runT x (x + runEnd x r) :: textsL (r.drop (runEnd x r))
termination_by l => l.length
decreasing_by simp only [List.length_drop, List.length_cons]; omega
theorem textsL_nil : textsL [] = [] := by rw [textsL]
theorem textsL_cons (x : Nat) (r : List Nat) : textsL (x :: r) = runT x (x + runEnd x r) :: textsL (r.drop (runEnd x r)) := by rw [textsL]
theorem runEnd_le : ∀ (x : Nat) (r : List Nat), runEnd x r ≤ r.length
  | _, [] => Nat.le_refl 0
  | x, y :: r => by
    unfold runEnd
    split
    · have := runEnd_le y r; simp; omega
    · omega
def textN (l : List Nat) : Bs := if l = [] then [45] else gumL 44 (textsL l)
/-! ### digits -/
def isDig (b : UInt8) : Bool := decide (48 ≤ b.toNat) && decide (b.toNat ≤ 57)
def digOK (n : Nat) : Bool := (dig n).all isDig && (match Lib.atoiAll (dig n) with
  | .ok v => decide (v = (n : Int))
  | _ => false) && !(dig n).isEmpty
theorem dig_all : (List.range 300).all digOK = true := by decide +kernel
theorem dig_digs {n : Nat} (h : n < 300) : ∀ b ∈ dig n, isDig b = true := by
  have := List.all_eq_true.1 dig_all n (List.mem_range.2 h)
  unfold digOK at this
  simp only [Bool.and_eq_true] at this
  exact List.all_eq_true.1 this.1.1
theorem dig_atoi {n : Nat} (h : n < 300) : Lib.atoiAll (dig n) = .ok (n : Int) := by
  have := List.all_eq_true.1 dig_all n (List.mem_range.2 h)
  unfold digOK at this
  simp only [Bool.and_eq_true] at this
  have := this.1.2
  split at this
  · rename_i v e; rw [e, of_decide_eq_true this]
  · cases this
theorem dig_ne {n : Nat} (h : n < 300) : dig n ≠ [] := by
  have := List.all_eq_true.1 dig_all n (List.mem_range.2 h)
  unfold digOK at this
  simp only [Bool.and_eq_true] at this
  intro e
  rw [e] at this
  simp at this
theorem dig_not {n : Nat} (h : n < 300) {c : UInt8} (hc : isDig c = false) : c ∉ dig n := fun hm => by
  rw [dig_digs h c hm] at hc; cases hc
/-! ### joined, split -/
theorem joinL_flat (c : UInt8) : ∀ ls : List (List Bs), (∀ l ∈ ls, l ≠ []) → gumL c (ls.map (gumL c)) = gumL c ls.flatten
  | [], _ => rfl
  | l :: ls, h => by
    have ih := joinL_flat c ls (fun x hx => h x (List.mem_cons_of_mem _ hx))
    have hl := h l (by simp)
    rw [List.map_cons, List.flatten_cons]
    by_cases e : ls = []
    · subst e; simp [gumL]
    · have h1 : ls.map (gumL c) ≠ [] := by simpa using e
      have h2 : ls.flatten ≠ [] := by
        cases ls with
        | nil => exact absurd rfl e
        | cons q qs => have := h q (by simp); simp [this]
      rw [joinL_cons c _ h1, ih]
      have key : ∀ a : List Bs, a ≠ [] → ∀ b : List Bs, b ≠ [] → gumL c (a ++ b) = gumL c a ++ c :: gumL c b := by
        intro a
        induction a with
        | nil => intro h; exact absurd rfl h
        | cons p ps ihp =>
          intro _ b hb
          cases ps with
          | nil => rw [List.singleton_append, joinL_cons c p hb]; rfl
          | cons q qs =>
            have := ihp (by simp) b hb
            rw [List.cons_append, joinL_cons c p (by simp), this, joinL_cons c p (by simp : q :: qs ≠ [])]
            simp
      exact (key l hl _ h2).symm
/-- The pieces of a run's text. -/
def runP (lo hi : Nat) : List Bs := if hi = lo then [dig lo] else if hi = lo + 1 then [dig lo, dig hi] else [dig lo ++ 45 :: dig hi]
theorem runP_ne (lo hi : Nat) : runP lo hi ≠ [] := by unfold runP; split <;> (try split) <;> simp
theorem runP_join (lo hi : Nat) : gumL 44 (runP lo hi) = runT lo hi := by
  unfold runP runT; split <;> (try split) <;> simp [gumL]
def piecesN : List Nat → List (List Bs)
  | [] => []
  | x :: r => runP x (x + runEnd x r) :: piecesN (r.drop (runEnd x r))
termination_by l => l.length
decreasing_by simp only [List.length_drop, List.length_cons]; omega
theorem piecesN_nil : piecesN [] = [] := by rw [piecesN]
theorem piecesN_cons (x : Nat) (r : List Nat) : piecesN (x :: r) = runP x (x + runEnd x r) :: piecesN (r.drop (runEnd x r)) := by rw [piecesN]
theorem strong {P : List Nat → Prop} (h0 : P []) (h1 : ∀ x r, P (r.drop (runEnd x r)) → P (x :: r)) : ∀ l, P l := by
  intro l
  generalize hn : l.length = n
  induction n using Nat.strongRecOn generalizing l with
  | _ n ih =>
    cases l with
    | nil => exact h0
    | cons x r =>
      refine h1 x r (ih (r.drop (runEnd x r)).length ?_ _ rfl)
      simp only [List.length_drop, List.length_cons] at hn ⊢; omega
theorem texts_pieces : ∀ l, textsL l = (piecesN l).map (gumL 44) := strong (by rw [textsL_nil, piecesN_nil]; rfl) fun x r ih => by
  rw [textsL_cons, piecesN_cons, List.map_cons, runP_join, ih]
theorem pieces_ne : ∀ l, ∀ p ∈ piecesN l, p ≠ [] := strong (by rw [piecesN_nil]; simp) fun x r ih => by
  rw [piecesN_cons]
  intro p hp
  rcases List.mem_cons.1 hp with rfl | hp
  · exact runP_ne _ _
  · exact ih p hp
theorem mem_drop' {l : List Nat} {k x : Nat} (h : x ∈ l.drop k) : x ∈ l := List.mem_of_mem_drop h
theorem run_last : ∀ (x : Nat) (r : List Nat), runEnd x r = 0 ∨ x + runEnd x r ∈ r
  | _, [] => .inl rfl
  | x, y :: r => by
    unfold runEnd
    split
    · rename_i e
      subst e
      rcases run_last (x + 1) r with h | h
      · right; rw [h]; simp
      · right
        rw [show x + (runEnd (x + 1) r + 1) = x + 1 + runEnd (x + 1) r from by omega]
        exact List.mem_cons_of_mem _ h
    · exact .inl rfl
theorem run_lt {x : Nat} {r : List Nat} (h : ∀ y ∈ x :: r, y < 240) : x + runEnd x r < 240 := by
  rcases run_last x r with e | e
  · rw [e]; exact h x (by simp)
  · exact h _ (List.mem_cons_of_mem _ e)
theorem pieces_no : ∀ l, (∀ y ∈ l, y < 240) → ∀ p ∈ (piecesN l).flatten, (44 : UInt8) ∉ p := strong (by rw [piecesN_nil]; simp) fun x r ih h => by
  have hx : x < 240 := h x (by simp)
  have hr := run_lt h
  have d1 := dig_not (n := x) (by omega) (c := 44) rfl
  have d2 := dig_not (n := x + runEnd x r) (by omega) (c := 44) rfl
  intro p hp
  rw [piecesN_cons, List.flatten_cons, List.mem_append] at hp
  rcases hp with hp | hp
  · unfold runP at hp
    split at hp
    · rw [List.mem_singleton] at hp; subst hp; exact d1
    · split at hp
      · rcases List.mem_cons.1 hp with rfl | hp
        · exact d1
        · rw [List.mem_singleton] at hp; subst hp; exact d2
      · rw [List.mem_singleton] at hp; subst hp
        intro hm
        rcases List.mem_append.1 hm with k | k
        · exact d1 k
        · rcases List.mem_cons.1 k with k | k
          · exact absurd k (by decide)
          · exact d2 k
  · exact ih (fun y hy => h y (List.mem_cons_of_mem _ (mem_drop' hy))) p hp
theorem textN_split {l : List Nat} (h : ∀ y ∈ l, y < 240) (hl : l ≠ []) : splitL 44 (textN l) = (piecesN l).flatten := by
  unfold textN
  rw [if_neg hl, texts_pieces, joinL_flat 44 _ (pieces_ne l)]
  refine splitL_join 44 _ ?_ (pieces_no l h)
  cases l with
  | nil => exact absurd rfl hl
  | cons x r =>
    rw [piecesN_cons, List.flatten_cons]
    have := runP_ne x (x + runEnd x r)
    simp [this]
end Go.Proofs.YtidlganponfccaaDoor

end
section
/- Sets told as the document tells them: number by number. -/
set_option linter.unusedVariables false
set_option linter.unusedSimpArgs false
namespace Go.Proofs.YtidlganponfccaaDoor
open Go Go.Ideal
/-- The numbers from k on, n places, that are in. -/
def filt (p : Int → Bool) : Nat → Nat → List Nat
  | _, 0 => []
  | k, n + 1 => if p k = true then k :: filt p (k + 1) n else filt p (k + 1) n
theorem filt_ge (p : Int → Bool) : ∀ (n k : Nat), ∀ y ∈ filt p k n, k ≤ y ∧ y < k + n
  | 0, _, y, h => by cases h
  | n + 1, k, y, h => by
    unfold filt at h
    split at h
    · rcases List.mem_cons.1 h with rfl | h
      · omega
      · have := filt_ge p n (k + 1) y h; omega
    · have := filt_ge p n (k + 1) y h; omega
theorem runEnd_far (x : Nat) : ∀ (r : List Nat), (∀ y ∈ r, x + 2 ≤ y) → runEnd x r = 0
  | [], _ => rfl
  | y :: r, h => by
    have := h y (by simp)
    unfold runEnd
    rw [if_neg (by omega)]
theorem filt_run (p : Int → Bool) (x n : Nat) : runEnd x (filt p (x + 1) (n + 1)) = if p ((x + 1 : Nat) : Int) = true then runEnd (x + 1) (filt p (x + 2) n) + 1 else 0 := by
  by_cases h : p ((x + 1 : Nat) : Int) = true
  · rw [if_pos h, filt, if_pos h, runEnd, if_pos rfl]
  · rw [if_neg h, filt, if_neg h]
    exact runEnd_far x _ fun y hy => by have := filt_ge p _ _ y hy; omega
def numStep (p : Int → Bool) (s : Bs) (k : Nat) : Bs :=
  if p k = false ∨ (p ((k : Int) - 1) = true ∧ p ((k : Int) + 1) = true) then s
  else if s = [] then dig k
  else if p ((k : Int) - 1) = true ∧ p ((k : Int) - 2) = true then s ++ 45 :: dig k
  else s ++ 44 :: dig k
def refF (p : Int → Bool) : Nat → Nat → Bs → Bs
  | 0, _, s => s
  | n + 1, k, s => refF p n (k + 1) (numStep p s k)
def fin (k last e : Nat) (t : Bs) : Bs := if e = 0 then t else if last = k + 1 then t ++ 44 :: dig last else t ++ 45 :: dig last
theorem ref_run (p : Int → Bool) (hp : ∀ k : Int, 240 ≤ k → p k = false) (k : Nat) (hk : p ((k : Int) - 1) = false) : ∀ (n x : Nat) (t : Bs), t ≠ [] → k ≤ x → (∀ y : Nat, k ≤ y → y ≤ x → p y = true) → x + 1 + n = 240 →
    refF p n (x + 1) t = refF p (n - runEnd x (filt p (x + 1) n)) (x + 1 + runEnd x (filt p (x + 1) n)) (fin k (x + runEnd x (filt p (x + 1) n)) (runEnd x (filt p (x + 1) n)) t)
  | 0, x, t, _, _, _, _ => by simp [filt, runEnd, fin, refF]
  | n + 1, x, t, ht, hkx, hall, hn => by
    rw [filt_run]
    by_cases h1 : p ((x + 1 : Nat) : Int) = true
    · rw [if_pos h1]
      have hall2 : ∀ y : Nat, k ≤ y → y ≤ x + 1 → p y = true := fun y h2 h3 => by
        by_cases e : y = x + 1
        · rw [e]; exact h1
        · exact hall y h2 (by omega)
      have hx := hall x hkx (Nat.le_refl x)
      have c1 : ((x + 1 : Nat) : Int) - 1 = (x : Int) := by omega
      have c2 : ((x + 1 : Nat) : Int) + 1 = ((x + 2 : Nat) : Int) := by omega
      rw [refF]
      by_cases h2 : p ((x + 2 : Nat) : Int) = true
      · have hs : numStep p t (x + 1) = t := by
          unfold numStep
          rw [if_pos (.inr ⟨by rw [c1]; exact hx, by rw [c2]; exact h2⟩)]
        rw [hs, ref_run p hp k hk n (x + 1) t ht (by omega) hall2 (by omega)]
        cases n with
        | zero => exfalso; rw [hp _ (by omega)] at h2; cases h2
        | succ n =>
          have e1 : runEnd (x + 1) (filt p (x + 2) (n + 1)) = runEnd (x + 2) (filt p (x + 3) n) + 1 := by rw [filt_run, if_pos h2]
          rw [e1]
          have a1 : n + 1 - (runEnd (x + 2) (filt p (x + 3) n) + 1) = n + 1 + 1 - (runEnd (x + 2) (filt p (x + 3) n) + 1 + 1) := by omega
          have a2 : x + 1 + 1 + (runEnd (x + 2) (filt p (x + 3) n) + 1) = x + 1 + (runEnd (x + 2) (filt p (x + 3) n) + 1 + 1) := by omega
          have a3 : x + 1 + (runEnd (x + 2) (filt p (x + 3) n) + 1) = x + (runEnd (x + 2) (filt p (x + 3) n) + 1 + 1) := by omega
          rw [a1, a2, a3]
          generalize runEnd (x + 2) (filt p (x + 3) n) = R
          unfold fin
          rw [if_neg (by omega : ¬ R + 1 = 0), if_neg (by omega : ¬ R + 1 + 1 = 0)]
      · have e0 : runEnd (x + 1) (filt p (x + 2) n) = 0 := by
          cases n with
          | zero => rfl
          | succ n => rw [filt_run, if_neg h2]
        rw [e0]
        have hs : numStep p t (x + 1) = fin k (x + 1) 1 t := by
          unfold numStep fin
          rw [if_neg (by
            rintro (q | ⟨_, q⟩)
            · rw [h1] at q; cases q
            · rw [c2] at q; exact h2 q), if_neg ht, if_neg (by decide : ¬ (1 : Nat) = 0)]
          by_cases hkx2 : x = k
          · rw [if_neg, if_pos (by omega : x + 1 = k + 1)]
            rintro ⟨_, q⟩
            rw [show ((x + 1 : Nat) : Int) - 2 = (k : Int) - 1 from by omega, hk] at q
            cases q
          · rw [if_pos, if_neg (by omega : ¬ x + 1 = k + 1)]
            refine ⟨by rw [c1]; exact hx, ?_⟩
            rw [show ((x + 1 : Nat) : Int) - 2 = ((x - 1 : Nat) : Int) from by omega]
            exact hall _ (by omega) (by omega)
        rw [hs]
        simp
    · rw [if_neg h1]
      simp [fin]
theorem filt_drop (p : Int → Bool) : ∀ (n x : Nat), (filt p (x + 1) n).drop (runEnd x (filt p (x + 1) n)) = filt p (x + 1 + runEnd x (filt p (x + 1) n)) (n - runEnd x (filt p (x + 1) n)) ∧ (n - runEnd x (filt p (x + 1) n) = 0 ∨ p ((x + 1 + runEnd x (filt p (x + 1) n) : Nat) : Int) = false)
  | 0, x => by simp [filt, runEnd]
  | n + 1, x => by
    rw [filt_run]
    by_cases h1 : p ((x + 1 : Nat) : Int) = true
    · rw [if_pos h1]
      obtain ⟨i1, i2⟩ := filt_drop p n (x + 1)
      have e1 : filt p (x + 1) (n + 1) = (x + 1) :: filt p (x + 2) n := by rw [filt, if_pos h1]
      rw [e1, List.drop_succ_cons]
      refine ⟨?_, ?_⟩
      · rw [show x + 1 + (runEnd (x + 1) (filt p (x + 2) n) + 1) = x + 1 + 1 + runEnd (x + 1) (filt p (x + 2) n) from by omega, show n + 1 - (runEnd (x + 1) (filt p (x + 2) n) + 1) = n - runEnd (x + 1) (filt p (x + 2) n) from by omega]
        exact i1
      · rw [show x + 1 + (runEnd (x + 1) (filt p (x + 2) n) + 1) = x + 1 + 1 + runEnd (x + 1) (filt p (x + 2) n) from by omega, show n + 1 - (runEnd (x + 1) (filt p (x + 2) n) + 1) = n - runEnd (x + 1) (filt p (x + 2) n) from by omega]
        exact i2
    · rw [if_neg h1]
      refine ⟨rfl, .inr ?_⟩
      simpa using h1
def glue (s : Bs) (ts : List Bs) : Bs := if ts = [] then s else if s = [] then gumL 44 ts else s ++ 44 :: gumL 44 ts
theorem glue_next (s a : Bs) (ha : a ≠ []) (ts : List Bs) : glue (if s = [] then a else s ++ 44 :: a) ts = glue s (a :: ts) := by
  unfold glue
  rw [if_neg (by simp : ¬ a :: ts = [])]
  by_cases hs : s = []
  · rw [if_pos hs, if_pos hs]
    by_cases ht : ts = []
    · subst ht; rfl
    · rw [if_neg ht, if_neg ha, joinL_cons 44 a ht]
  · rw [if_neg hs, if_neg hs]
    by_cases ht : ts = []
    · subst ht; rfl
    · rw [if_neg ht, if_neg (by simp), joinL_cons 44 a ht]
      simp
theorem runT_ne {lo hi : Nat} (h : lo < 240) : runT lo hi ≠ [] := by
  have := dig_ne (n := lo) (by omega)
  unfold runT
  split
  · exact this
  · split <;> simp
theorem ref_texts (p : Int → Bool) (hp : ∀ k : Int, 240 ≤ k → p k = false) : ∀ (n k : Nat) (s : Bs), k + n = 240 → p ((k : Int) - 1) = false → refF p n k s = glue s (textsL (filt p k n)) := by
  intro n
  induction n using Nat.strongRecOn with
  | _ n ih =>
    intro k s hn hk
    cases n with
    | zero => simp [refF, filt, textsL_nil, glue]
    | succ n =>
      by_cases h1 : p (k : Int) = true
      · have hs : numStep p s k = if s = [] then dig k else s ++ 44 :: dig k := by
          unfold numStep
          rw [if_neg (by
            rintro (q | ⟨q, _⟩)
            · rw [h1] at q; cases q
            · rw [hk] at q; cases q)]
          by_cases e : s = []
          · rw [if_pos e, if_pos e]
          · rw [if_neg e, if_neg e, if_neg]
            rintro ⟨q, _⟩
            rw [hk] at q; cases q
        have hd := dig_ne (n := k) (by omega)
        have ht : (if s = [] then dig k else s ++ 44 :: dig k) ≠ [] := by split <;> simp [hd]
        rw [refF, hs, ref_run p hp k hk n k _ ht (Nat.le_refl k) (fun y h2 h3 => by rw [show y = k from by omega]; exact h1) (by omega), filt, if_pos h1, textsL_cons]
        obtain ⟨d1, d2⟩ := filt_drop p n k
        rw [d1]
        generalize runEnd k (filt p (k + 1) n) = e at d1 d2 ⊢
        have hf : fin k (k + e) e (if s = [] then dig k else s ++ 44 :: dig k) = if s = [] then runT k (k + e) else s ++ 44 :: runT k (k + e) := by
          unfold fin runT
          by_cases e0 : e = 0
          · subst e0; simp
          · rw [if_neg e0, if_neg (by omega : ¬ k + e = k)]
            by_cases e1 : k + e = k + 1
            · rw [if_pos e1, if_pos e1]; split <;> simp
            · rw [if_neg e1, if_neg e1]; split <;> simp
        rw [hf, ← glue_next s _ (runT_ne (by omega))]
        generalize (if s = [] then runT k (k + e) else s ++ 44 :: runT k (k + e)) = s'
        rcases Nat.eq_zero_or_pos (n - e) with z | z
        · rw [z]; simp [refF, filt, textsL_nil, glue]
        · obtain ⟨m, hm⟩ : ∃ m, n - e = m + 1 := ⟨n - e - 1, by omega⟩
          rw [hm] at d2 ⊢
          have h2 : p ((k + 1 + e : Nat) : Int) = false := by
            rcases d2 with d2 | d2
            · omega
            · exact d2
          have hs2 : numStep p s' (k + 1 + e) = s' := by unfold numStep; rw [if_pos (.inl h2)]
          rw [refF, hs2, filt, if_neg (by rw [h2]; decide)]
          exact ih m (by omega) (k + 1 + e + 1) s' (by omega) (by rw [show ((k + 1 + e + 1 : Nat) : Int) - 1 = ((k + 1 + e : Nat) : Int) from by omega]; exact h2)
      · have h1 : p (k : Int) = false := by simpa using h1
        have hs : numStep p s k = s := by unfold numStep; rw [if_pos (.inl h1)]
        rw [refF, hs, filt, if_neg (by rw [h1]; decide)]
        exact ih n (by omega) (k + 1) s (by omega) (by rw [show ((k + 1 : Nat) : Int) - 1 = (k : Int) from by omega]; exact h1)
/-- The document's text of a set. -/
def refTextN (p : Int → Bool) : Bs := if refF p 240 0 [] = [] then [45] else refF p 240 0 []
theorem textsL_join_ne {l : List Nat} (h : ∀ y ∈ l, y < 240) (hl : l ≠ []) : gumL 44 (textsL l) ≠ [] := by
  cases l with
  | nil => exact absurd rfl hl
  | cons x r =>
    rw [textsL_cons]
    have h1 := runT_ne (lo := x) (hi := x + runEnd x r) (h x (by simp))
    by_cases e : textsL (r.drop (runEnd x r)) = []
    · rw [e]; exact h1
    · rw [joinL_cons 44 _ e]; simp
theorem refText_eq (p : Int → Bool) (hp : ∀ k : Int, 240 ≤ k → p k = false) (hn : p (-1) = false) : refTextN p = textN (filt p 0 240) := by
  have e := ref_texts p hp 240 0 [] (by omega) hn
  unfold refTextN
  rw [e]
  unfold textN glue
  by_cases hl : filt p 0 240 = []
  · rw [if_pos hl, hl, textsL_nil]; rfl
  · have h1 : ∀ y ∈ filt p 0 240, y < 240 := fun y hy => by have := filt_ge p _ _ y hy; omega
    have h2 := textsL_join_ne h1 hl
    have h3 : textsL (filt p 0 240) ≠ [] := fun e => by rw [e] at h2; exact h2 rfl
    rw [if_neg h3, if_neg hl, if_pos rfl, if_neg h2]
end Go.Proofs.YtidlganponfccaaDoor

end
