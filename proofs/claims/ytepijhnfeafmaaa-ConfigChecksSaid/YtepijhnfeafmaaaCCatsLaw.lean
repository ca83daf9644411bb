/- The plain law of sets: no program in sight. -/
import Derived.Test.YtepijhnfeafmaaaCData
import Derived.Test.YtepijhnfeafmaaaCAddrLaw
set_option linter.unusedVariables false
set_option linter.unusedSimpArgs false
set_option linter.unusedVariables false
set_option linter.unusedSimpArgs false
namespace Go.Proofs.Ytepijhnfeafmaaa
open Go Go.Ideal

def byteL (x : Int) : List Value := [.int .u8 x]
def and8 (x y : Int) : Int := IntKind.u8.wrap (BitVec.ofInt 8 x &&& BitVec.ofInt 8 y).toNat
def withinC (a b : List Int) : Bool := (List.range 30).all fun i => and8 (a.getD i 0) (b.getD i 0) == a.getD i 0
def hasC (c : List Int) (k : Int) : Bool := decide (0 ≤ k) && decide (k < 240) && and8 ((c.getD (k / 8).toNat 0).fdiv (2 ^ (7 - k % 8).toNat)) 1 == 1
/-- A set's bytes are bytes. -/
def CatsOK (c : List Int) : Prop := c.length = 30 ∧ ∀ x ∈ c, 0 ≤ x ∧ x < 256

theorem CatsOK.get {c : List Int} (h : CatsOK c) (i : Nat) : ∃ X : Nat, c.getD i 0 = X ∧ X < 256 := by
  rcases Nat.lt_or_ge i c.length with k | k
  · have := h.2 _ (List.getElem_mem k)
    refine ⟨(c.getD i 0).toNat, ?_, ?_⟩ <;> simp only [List.getD, List.getElem?_eq_getElem k, Option.getD_some] <;> omega
  · exact ⟨0, by simp [List.getD, List.getElem?_eq_none k], by decide⟩
theorem bv8 {n : Nat} (h : n < 256) : (BitVec.ofInt 8 (n : Int)).toNat = n := by
  rw [BitVec.toNat_ofInt]; omega
theorem and8N {X Y : Nat} (hX : X < 256) (hY : Y < 256) : and8 X Y = ((X &&& Y : Nat) : Int) := by
  unfold and8
  rw [BitVec.toNat_and, bv8 hX, bv8 hY, IntKind.wrap_u8]
  have : X &&& Y ≤ X := Nat.and_le_left
  omega
theorem bit8N {X : Nat} (hX : X < 256) (m : Nat) : (and8 ((X : Int).fdiv (2 ^ m)) 1 == 1) = X.testBit m := by
  have e : (X : Int).fdiv (2 ^ m) = ((X / 2 ^ m : Nat) : Int) := by
    rw [Int.fdiv_eq_ediv_of_nonneg _ (Int.le_of_lt (Int.pow_pos (by decide)))]; simp
  have hl : X / 2 ^ m < 256 := Nat.lt_of_le_of_lt (Nat.div_le_self _ _) hX
  rw [e, show (1 : Int) = ((1 : Nat) : Int) from rfl, and8N hl (by decide), Nat.and_one_is_mod, Nat.testBit_eq_decide_div_mod_eq]
  apply Bool.eq_iff_iff.2
  simp only [beq_iff_eq, decide_eq_true_eq]
  omega
theorem and_self_iff {X Y : Nat} (hX : X < 256) : X &&& Y = X ↔ ∀ m, m < 8 → X.testBit m = true → Y.testBit m = true := by
  constructor
  · intro h m _ hm
    rw [← h, Nat.testBit_and, Bool.and_eq_true] at hm
    exact hm.2
  · intro h
    apply Nat.eq_of_testBit_eq
    intro m
    rw [Nat.testBit_and]
    rcases Nat.lt_or_ge m 8 with k | k
    · cases hb : X.testBit m with
      | false => rfl
      | true => rw [h m k hb]; rfl
    · rw [Nat.testBit_lt_two_pow (Nat.lt_of_lt_of_le hX (show 2 ^ 8 ≤ 2 ^ m from Nat.pow_le_pow_right (by decide) k))]; rfl
theorem hasC_bit {c : List Int} (h : CatsOK c) {k : Int} (h0 : 0 ≤ k) (h1 : k < 240) : ∃ X : Nat, c.getD (k / 8).toNat 0 = X ∧ X < 256 ∧ hasC c k = X.testBit (7 - k % 8).toNat := by
  obtain ⟨X, e, hX⟩ := h.get (k / 8).toNat
  refine ⟨X, e, hX, ?_⟩
  unfold hasC
  rw [decide_eq_true h0, decide_eq_true h1, e, bit8N hX]; rfl
/-- One set lies within another one just if all that is in it is in the other one. -/
theorem withinC_iff {a b : List Int} (ha : CatsOK a) (hb : CatsOK b) : withinC a b = true ↔ ∀ k, 0 ≤ k → k < 240 → hasC a k = true → hasC b k = true := by
  unfold withinC
  rw [List.all_eq_true]
  constructor
  · intro h k h0 h1 hk
    obtain ⟨X, e1, e2, e3⟩ := hasC_bit ha h0 h1
    obtain ⟨Y, f1, f2, f3⟩ := hasC_bit hb h0 h1
    have := h (k / 8).toNat (by rw [List.mem_range]; omega)
    rw [e1, f1, beq_iff_eq, and8N e2 f2] at this
    rw [e3] at hk; rw [f3]
    exact (and_self_iff e2).1 (by exact_mod_cast this) _ (by omega) hk
  · intro h i hi
    rw [List.mem_range] at hi
    obtain ⟨X, e1, e2⟩ := ha.get i
    obtain ⟨Y, f1, f2⟩ := hb.get i
    rw [e1, f1, beq_iff_eq, and8N e2 f2]
    have : X &&& Y = X := (and_self_iff e2).2 fun m hm hx => by
      have hk : ((8 * i + (7 - m) : Nat) : Int) / 8 = i := by omega
      have hk2 : (7 - ((8 * i + (7 - m) : Nat) : Int) % 8).toNat = m := by omega
      obtain ⟨X', g1, g2, g3⟩ := hasC_bit ha (k := ((8 * i + (7 - m) : Nat) : Int)) (by omega) (by omega)
      obtain ⟨Y', k1, k2, k3⟩ := hasC_bit hb (k := ((8 * i + (7 - m) : Nat) : Int)) (by omega) (by omega)
      rw [hk, Int.toNat_natCast] at g1 k1
      rw [hk2] at g3 k3
      obtain rfl : X = X' := by exact_mod_cast e1.symm.trans g1
      obtain rfl : Y = Y' := by exact_mod_cast f1.symm.trans k1
      rw [← k3]; exact h _ (by omega) (by omega) (by rw [g3]; exact hx)
    exact_mod_cast this
end Go.Proofs.Ytepijhnfeafmaaa
