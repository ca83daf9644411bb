/- Lists: the first element of which something holds; what is wrong first. -/
import Derived.Test.YtepijhnfeafmaaaIRead
import Derived.Test.YtepijhnfeafmaaaCData
import Derived.Test.YtepijhnfeafmaaaCEq
set_option linter.unusedVariables false
set_option linter.unusedSimpArgs false
namespace Go.Proofs.Ytepijhnfeafmaaa
open Go Go.Ideal

/-- The first place; -1: there is none. -/
def idxB {α : Type} (xs : List α) (p : α → Bool) : Int := match xs.findIdx? p with
  | some i => i
  | none => -1
theorem idxB_some {α : Type} {xs : List α} {p : α → Bool} {d : α} {k : Nat} (hk : k < xs.length) (h : p (xs.getD k d) = true) (no : ∀ j, j < k → p (xs.getD j d) = false) : idxB xs p = k := by
  have : xs.findIdx? p = some k := by
    rw [List.findIdx?_eq_some_iff_getElem]
    refine ⟨hk, by simpa [List.getD, List.getElem?_eq_getElem hk] using h, fun j hj => ?_⟩
    have := no j hj
    have hj2 : j < xs.length := by omega
    simpa [List.getD, List.getElem?_eq_getElem hj2] using this
  unfold idxB; rw [this]
theorem idxB_none {α : Type} {xs : List α} {p : α → Bool} {d : α} (no : ∀ j, j < xs.length → p (xs.getD j d) = false) : idxB xs p = -1 := by
  have : xs.findIdx? p = none := by
    rw [List.findIdx?_eq_none_iff]
    intro y hy
    obtain ⟨j, hj, e⟩ := List.getElem_of_mem hy
    have := no j hj
    simpa [List.getD, List.getElem?_eq_getElem hj, e] using this
  unfold idxB; rw [this]
/-- What is known of it. -/
theorem idxB_cases {α : Type} (xs : List α) (p : α → Bool) (d : α) : (∃ k : Nat, k < xs.length ∧ idxB xs p = k ∧ p (xs.getD k d) = true ∧ ∀ j, j < k → p (xs.getD j d) = false) ∨ (idxB xs p = -1 ∧ ∀ j, j < xs.length → p (xs.getD j d) = false) := by
  cases h : xs.findIdx? p with
  | none =>
    right
    refine ⟨by unfold idxB; rw [h], fun j hj => ?_⟩
    have := List.findIdx?_eq_none_iff.1 h (xs.getD j d) (getD_mem hj)
    simpa using this
  | some k =>
    left
    obtain ⟨h1, h2, h3⟩ := List.findIdx?_eq_some_iff_getElem.1 h
    refine ⟨k, h1, by unfold idxB; rw [h], by simpa [List.getD, List.getElem?_eq_getElem h1] using h2, fun j hj => ?_⟩
    have hj2 : j < xs.length := by omega
    simpa [List.getD, List.getElem?_eq_getElem hj2] using h3 j hj
theorem anyB_true {α : Type} {xs : List α} {p : α → Bool} {d : α} {k : Nat} (hk : k < xs.length) (h : p (xs.getD k d) = true) : xs.any p = true := List.any_eq_true.2 ⟨_, getD_mem hk, h⟩
theorem anyB_false {α : Type} {xs : List α} {p : α → Bool} {d : α} (no : ∀ j, j < xs.length → p (xs.getD j d) = false) : xs.any p = false := by
  rw [List.any_eq_false]
  intro y hy
  obtain ⟨j, hj, e⟩ := List.getElem_of_mem hy
  have := no j hj
  simpa [List.getD, List.getElem?_eq_getElem hj, e] using this
theorem anyB_idx {α : Type} [Inhabited α] (xs : List α) (p : α → Bool) : decide (0 ≤ idxB xs p) = xs.any p := by
  rcases idxB_cases xs p default with ⟨k, h1, h2, h3, _⟩ | ⟨h1, h2⟩
  · rw [h2, anyB_true h1 h3]; exact decide_eq_true (by omega)
  · rw [h1, anyB_false h2]; rfl

/-- The first place at which something is wrong, and what. -/
def firstBad (n : Nat) (bad : Nat → Int) : Int × Int := match (List.range n).find? (fun k => bad k != 0) with
  | some k => (k, bad k)
  | none => (n, 0)
theorem firstBad_at {n : Nat} {bad : Nat → Int} {k : Nat} (hk : k < n) (h : bad k ≠ 0) (no : ∀ j, j < k → bad j = 0) : firstBad n bad = ((k : Int), bad k) := by
  have : (List.range n).find? (fun k => bad k != 0) = some k := by
    rw [List.find?_range_eq_some]
    exact ⟨by simpa using h, by simpa using hk, fun j hj => by simpa using no j hj⟩
  unfold firstBad; rw [this]
theorem firstBad_none {n : Nat} {bad : Nat → Int} (no : ∀ j, j < n → bad j = 0) : firstBad n bad = ((n : Int), 0) := by
  have : (List.range n).find? (fun k => bad k != 0) = none := by
    rw [List.find?_eq_none]
    intro k hk
    simpa using no k (by simpa using hk)
  unfold firstBad; rw [this]
theorem firstBad_cases (n : Nat) (bad : Nat → Int) : (∃ k, k < n ∧ firstBad n bad = ((k : Int), bad k) ∧ bad k ≠ 0 ∧ ∀ j, j < k → bad j = 0) ∨ (firstBad n bad = ((n : Int), 0) ∧ ∀ j, j < n → bad j = 0) := by
  by_cases h : ∃ k, k < n ∧ bad k ≠ 0
  · left
    have hex : ∃ k, k < n ∧ bad k ≠ 0 ∧ ∀ j, j < k → bad j = 0 := by
      obtain ⟨k, hk, hb⟩ := h
      induction k using Nat.strongRecOn with
      | _ k ih =>
        by_cases hn : ∃ j, j < k ∧ bad j ≠ 0
        · obtain ⟨j, hj, hjb⟩ := hn; exact ih j hj (by omega) hjb
        · exact ⟨k, hk, hb, fun j hj => Classical.byContradiction fun e => hn ⟨j, hj, e⟩⟩
    obtain ⟨k, h1, h2, h3⟩ := hex
    exact ⟨k, h1, firstBad_at h1 h2 h3, h2, h3⟩
  · right
    have no : ∀ j, j < n → bad j = 0 := fun j hj => Classical.byContradiction fun e => h ⟨j, hj, e⟩
    exact ⟨firstBad_none no, no⟩

theorem cellsOf_snoc {α : Type} (f : α → List Value) (l : List α) (a : α) : cellsOf f (l ++ [a]) = cellsOf f l ++ f a := by
  rw [cellsOf_append]; simp [cellsOf]
theorem take_snoc {α : Type} {l : List α} {k : Nat} (d : α) (hk : k < l.length) : l.take (k + 1) = l.take k ++ [l.getD k d] := by
  rw [List.take_add_one]
  simp [List.getD, List.getElem?_eq_getElem hk]
/-- A key's place in a map. -/
theorem findI_map {P : Program} {kt : TypeId} {α : Type} {f : α → Value} {eq : α → α → Bool} (h : ∀ a b, eqD P 10000 kt (f a) (f b) = some (eq a b)) (x : α) : ∀ (ys : List α) (i : Nat), findI P kt (f x) (ys.map f) i = some ((ys.findIdx? (eq x)).map (· + i))
  | [], i => rfl
  | y :: ys, i => by
    simp only [List.map_cons, findI, h, List.findIdx?_cons]
    cases eq x y with
    | true => simp
    | false =>
      simp only [findI_map h x ys (i + 1)]
      cases ys.findIdx? (eq x) with
      | none => rfl
      | some j => simp [Nat.add_assoc, Nat.add_comm 1 i]
theorem findIdx_of_any {α : Type} {ys : List α} {p : α → Bool} (h : ys.any p = true) : ys.findIdx? p = some (ys.findIdx p) ∧ ys.findIdx p < ys.length := by
  rw [List.findIdx?_eq_some_iff_findIdx_eq]
  have : ys.findIdx p < ys.length := List.findIdx_lt_length.2 (List.any_eq_true.1 h)
  exact ⟨⟨this, rfl⟩, this⟩
theorem findIdx_of_not_any {α : Type} {ys : List α} {p : α → Bool} (h : ys.any p = false) : ys.findIdx? p = none := by
  rw [List.findIdx?_eq_none_iff]
  intro x hx
  have := List.any_eq_false.1 h x hx
  simpa using this
theorem mul_room {a b : Int} (A B : Int) (ha : a ≤ A) (h0 : 0 ≤ b) (hb : b ≤ B) (hA : 0 ≤ A) (h : A * B ≤ 1099511627776) : a * b ≤ 1099511627776 :=
  Int.le_trans (Int.mul_le_mul ha hb h0 hA) h
theorem lt_next {p : Nat → Prop} {k : Nat} (h : ∀ j, j < k → p j) (hk : p k) : ∀ j, j < k + 1 → p j := fun j hj => by
  rcases Nat.lt_or_ge j k with q | q
  · exact h j q
  · obtain rfl : j = k := by omega
    exact hk
/-- A key's place in a map, by what it is compared with. -/
theorem findI_mapK {P : Program} {kt : TypeId} {α : Type} {f : α → Value} {x : Value} {eq : α → Bool} (h : ∀ a, eqD P 10000 kt x (f a) = some (eq a)) : ∀ (ys : List α) (i : Nat), findI P kt x (ys.map f) i = some ((ys.findIdx? eq).map (· + i))
  | [], i => rfl
  | y :: ys, i => by
    simp only [List.map_cons, findI, h, List.findIdx?_cons]
    cases eq y with
    | true => simp
    | false =>
      simp only [findI_mapK h ys (i + 1)]
      cases ys.findIdx? eq with
      | none => rfl
      | some j => simp [Nat.add_assoc, Nat.add_comm 1 i]
theorem allB_iff {n : Nat} {p : Nat → Bool} : (List.range n).all p = true ↔ ∀ k, k < n → p k = true := by
  rw [List.all_eq_true]; exact ⟨fun h k hk => h k (by simpa using hk), fun h k hk => h k (by simpa using hk)⟩
theorem allB_no {n : Nat} {p : Nat → Bool} {k : Nat} (hk : k < n) (h : p k = false) : (List.range n).all p = false := by
  cases e : (List.range n).all p with
  | false => rfl
  | true => rw [allB_iff.1 e k hk] at h; cases h
theorem wrap_next (k : Nat) (h : k < 9223372036854775807) : Value.int IntKind.i64 (IntKind.wrap IntKind.i64 ((k : Int) + 1)) = Value.int IntKind.i64 ((k + 1 : Nat) : Int) := congrArg _ (wrap_in (by omega) (by omega))
theorem cellsOf_take {α : Type} {f : α → List Value} {n : Nat} (hf : ∀ a, (f a).length = n) : ∀ (l : List α) (k : Nat), (cellsOf f l).take (k * n) = cellsOf f (l.take k)
  | _, 0 => by simp [cellsOf]
  | [], k + 1 => by simp [cellsOf]
  | a :: l, k + 1 => by
    simp only [cellsOf, List.take_succ_cons]
    rw [show (k + 1) * n = (f a).length + k * n by rw [hf, Nat.succ_mul, Nat.add_comm], List.take_length_add_append, cellsOf_take hf l k]
/-- The first k elements. -/
theorem slice_take {P : Program} {α : Type} {f : α → List Value} {n : Nat} (hf : ∀ a, (f a).length = n) {l : List α} {k : Nat} (hk : k ≤ l.length) :
    (Ask.get [vsl ((k : Int) - 0) (Array.mk (List.take (Int.toNat ((k : Int) - 0) * n) (List.drop (Int.toNat 0 * n) (cellsOf f l))))] 0 (vsl ((l.take k).length : Nat) (Array.mk (cellsOf f (l.take k))))).holds P := by
  show some _ = some _
  rw [List.length_take_of_le hk, show (k : Int) - 0 = k by omega, Int.toNat_natCast, show Int.toNat 0 * n = 0 by rw [Int.toNat_zero, Nat.zero_mul], List.drop_zero, cellsOf_take hf]
theorem any_take {α : Type} {xs : List α} {p : α → Bool} (d : α) {k : Nat} (hk : k ≤ xs.length) : (xs.take k).any p = true ↔ ∃ j, j < k ∧ p (xs.getD j d) = true := by
  rw [List.any_eq_true]
  constructor
  · rintro ⟨q, hq, e⟩
    obtain ⟨j, hj, rfl⟩ := List.getElem_of_mem hq
    rw [List.length_take] at hj
    refine ⟨j, by omega, ?_⟩
    rw [List.getElem_take] at e
    simpa [List.getD, List.getElem?_eq_getElem (show j < xs.length by omega)] using e
  · rintro ⟨j, hj, e⟩
    refine ⟨(xs.take k)[j]'(by rw [List.length_take]; omega), List.getElem_mem _, ?_⟩
    rw [List.getElem_take]
    simpa [List.getD, List.getElem?_eq_getElem (show j < xs.length by omega)] using e
theorem any_take_false {α : Type} {xs : List α} {p : α → Bool} (d : α) {k : Nat} (hk : k ≤ xs.length) (h : ∀ j, j < k → p (xs.getD j d) = false) : (xs.take k).any p = false := by
  cases e : (xs.take k).any p with
  | false => rfl
  | true => obtain ⟨j, h1, h2⟩ := (any_take d hk).1 e; rw [h j h1] at h2; cases h2
end Go.Proofs.Ytepijhnfeafmaaa
