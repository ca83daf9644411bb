/- Texts packed together: CAddrLaw CCatsLaw CEq0 CList CAddr CCats CCats2 CEq CLabel CRule CRule2. -/
import Derived.WalkArith
import Derived.Test.YtepijhnfeafmaaaZ16
section
/- The plain law of addresses and prefixes: no program in sight. -/
set_option linter.unusedVariables false
set_option linter.unusedSimpArgs false
set_option linter.unusedVariables false
set_option linter.unusedSimpArgs false
namespace Go.Proofs.Ytepijhnfeafmaaa
open Go Go.Ideal

def clampI (k : Int) : Int := if (32 : Int) < (if (0 : Int) > k then 0 else k) then 32 else (if (0 : Int) > k then 0 else k)
theorem clamp_lo (k : Int) : 0 ≤ clampI k := by unfold clampI; split <;> split <;> omega
theorem clamp_hi (k : Int) : clampI k ≤ 32 := by unfold clampI; split <;> split <;> omega
theorem clamp_id {k : Int} (h0 : 0 ≤ k) (h1 : k ≤ 32) : clampI k = k := by unfold clampI; split <;> split <;> omega
def maskI (k : Int) : Int := IntKind.u32.wrap (4294967295 * 2 ^ (min (32 - clampI k).toNat 32))
def andI (a b : Int) : Int := IntKind.u32.wrap (BitVec.ofInt 32 a &&& BitVec.ofInt 32 b).toNat
def bitI (a k : Int) : Int := IntKind.i64.wrap (IntKind.u32.wrap (BitVec.ofInt 32 (a.fdiv (2 ^ min (31 - k).toNat 32)) &&& BitVec.ofInt 32 1).toNat)
def cutV (a k : Int) : Value := .agg #[.int .u32 (andI a (maskI (clampI k))), .int .i64 (clampI k)]
def pfx2 (a b : Int) : Value := .agg #[.int .u32 a, .int .i64 b]
theorem wrap_in {n : Int} (h0 : -9223372036854775808 ≤ n) (h1 : n ≤ 9223372036854775807) : IntKind.i64.wrap n = n := by rw [IntKind.wrap_i64]; omega
def rightB (a b : Int) : Bool := decide (0 ≤ b) && decide (b ≤ 32) && a == andI a (maskI b)
def holdsB (a b x : Int) : Bool := rightB a b && andI x (maskI b) == a
def withinB (a b c d : Int) : Bool := rightB a b && decide (d ≤ b) && holdsB c d a

open Classical in
noncomputable def refRightB (a b : Int) : Bool := decide (0 ≤ b ∧ b ≤ 32 ∧ ∀ k, b ≤ k → k < 32 → bitI a k ≠ 1)
open Classical in
noncomputable def refHoldsB (a b x : Int) : Bool := refRightB a b && decide (∀ k, 0 ≤ k → k < b → bitI a k = bitI x k)
noncomputable def refWithinB (a b c d : Int) : Bool := refRightB a b && refRightB c d && decide (d ≤ b) && refHoldsB c d a
def orI (a b : Int) : Int := IntKind.u32.wrap (BitVec.ofInt 32 a ||| BitVec.ofInt 32 b).toNat

def cutN (A n : Nat) : Nat := A / 2 ^ n * 2 ^ n

theorem u32_wrap {n : Nat} (h : n < 2 ^ 32) : IntKind.u32.wrap (n : Int) = n := by
  have h' : n < 4294967296 := h
  rw [IntKind.wrap_u32]; omega

theorem bv_toNat {n : Nat} (h : n < 2 ^ 32) : (BitVec.ofInt 32 (n : Int)).toNat = n := by
  rw [BitVec.toNat_ofInt]
  have h' : n < 4294967296 := h
  omega

theorem andN (A M : Nat) (hA : A < 2 ^ 32) (hM : M < 2 ^ 32) : andI A M = ((A &&& M : Nat) : Int) := by
  unfold andI
  rw [BitVec.toNat_and, bv_toNat hA, bv_toNat hM]
  exact u32_wrap (Nat.lt_of_le_of_lt Nat.and_le_left hA)
theorem orN (A M : Nat) (hA : A < 2 ^ 32) (hM : M < 2 ^ 32) : orI A M = ((A ||| M : Nat) : Int) := by
  unfold orI
  rw [BitVec.toNat_or, bv_toNat hA, bv_toNat hM]
  exact u32_wrap (Nat.or_lt_two_pow hA hM)

theorem maskN (c : Nat) (hc : c ≤ 32) : maskI (c : Int) = ((2 ^ 32 - 2 ^ (32 - c) : Nat) : Int) := by
  unfold maskI
  rw [clamp_id (by omega) (by omega), show ((32 : Int) - (c : Int)).toNat = 32 - c by omega, Nat.min_eq_left (by omega)]
  have : ∀ n : Nat, n ≤ 32 → IntKind.u32.wrap (4294967295 * 2 ^ n) = ((2 ^ 32 - 2 ^ n : Nat) : Int) := by decide
  exact this _ (by omega)

theorem and_mask (A n : Nat) (hA : A < 2 ^ 32) (hn : n ≤ 32) : A &&& (2 ^ 32 - 2 ^ n) = cutN A n := by
  have e : 2 ^ 32 - 2 ^ n = (2 ^ (32 - n) - 1) <<< n := by
    rw [Nat.shiftLeft_eq, Nat.sub_mul, ← Nat.pow_add, Nat.one_mul, show 32 - n + n = 32 by omega]
  rw [e, cutN, ← Nat.shiftRight_eq_div_pow, ← Nat.shiftLeft_eq]
  apply Nat.eq_of_testBit_eq
  intro i
  rw [Nat.testBit_and, Nat.testBit_shiftLeft, Nat.testBit_shiftLeft, Nat.testBit_two_pow_sub_one, Nat.testBit_shiftRight]
  by_cases h : i ≥ n
  · rw [show n + (i - n) = i by omega]
    simp only [h, decide_true, Bool.true_and]
    by_cases h2 : i - n < 32 - n
    · simp [h2]
    · rw [Nat.testBit_lt_two_pow (Nat.lt_of_lt_of_le hA (Nat.pow_le_pow_right (by omega) (by omega)))]
      simp
  · simp [h]

theorem cut_lt (A n : Nat) (hA : A < 2 ^ 32) : cutN A n < 2 ^ 32 := Nat.lt_of_le_of_lt (Nat.div_mul_le_self _ _) hA

theorem and_maskI (A : Nat) (c : Nat) (hA : A < 2 ^ 32) (hc : c ≤ 32) : andI A (maskI c) = ((cutN A (32 - c) : Nat) : Int) := by
  rw [maskN c hc, andN A _ hA (by have := Nat.two_pow_pos (32 - c); omega), and_mask A _ hA (by omega)]

theorem maskI_and (A : Nat) (c : Nat) (hA : A < 2 ^ 32) (hc : c ≤ 32) : IntKind.u32.wrap (BitVec.ofInt 32 (maskI c) &&& BitVec.ofInt 32 (A : Int)).toNat = ((cutN A (32 - c) : Nat) : Int) := by
  rw [maskN c hc, BitVec.toNat_and, bv_toNat hA, bv_toNat (by have := Nat.two_pow_pos (32 - c); omega), Nat.and_comm, and_mask A _ hA (by omega)]
  exact u32_wrap (cut_lt A _ hA)

theorem bitN (A : Nat) (k : Nat) (hA : A < 2 ^ 32) (hk : k ≤ 31) : bitI A k = ((A / 2 ^ (31 - k) % 2 : Nat) : Int) := by
  unfold bitI
  rw [show ((31 : Int) - (k : Int)).toNat = 31 - k by omega, Nat.min_eq_left (by omega)]
  have e : (A : Int).fdiv (2 ^ (31 - k)) = ((A / 2 ^ (31 - k) : Nat) : Int) := by
    rw [Int.fdiv_eq_ediv_of_nonneg _ (by exact_mod_cast Nat.zero_le _)]; push_cast; rfl
  rw [e, BitVec.toNat_and, bv_toNat (Nat.lt_of_le_of_lt (Nat.div_le_self _ _) hA)]
  have e1 : (BitVec.ofInt 32 1).toNat = 1 := rfl
  rw [e1, Nat.and_one_is_mod]
  have h2 : A / 2 ^ (31 - k) % 2 < 2 := Nat.mod_lt _ (by omega)
  rw [u32_wrap (by omega)]
  exact wrap_in (by omega) (by omega)

theorem bits_zero (A : Nat) : ∀ n, (∀ i, i < n → A / 2 ^ i % 2 = 0) ↔ A % 2 ^ n = 0
  | 0 => by simp [Nat.mod_one]
  | n + 1 => by
    have ih := bits_zero A n
    rw [Nat.mod_pow_succ]
    constructor
    · intro h
      rw [ih.1 fun i hi => h i (by omega), h n (by omega)]; rfl
    · intro h i hi
      have h1 : A % 2 ^ n = 0 := by omega
      have h2 : 2 ^ n * (A / 2 ^ n % 2) = 0 := by omega
      rcases Nat.lt_or_ge i n with k | k
      · exact ih.2 h1 i k
      · rw [show i = n by omega]
        rcases Nat.mul_eq_zero.1 h2 with k2 | k2
        · have := Nat.two_pow_pos n; omega
        · exact k2

theorem cut_right (A n : Nat) : A = cutN A n ↔ A % 2 ^ n = 0 := by
  have := Nat.div_add_mod A (2 ^ n)
  rw [Nat.mul_comm] at this
  unfold cutN
  omega

theorem eq_bits (x y m : Nat) (hx : x < 2 ^ m) (hy : y < 2 ^ m) (h : ∀ i, i < m → x / 2 ^ i % 2 = y / 2 ^ i % 2) : x = y := by
  apply Nat.eq_of_testBit_eq
  intro i
  rcases Nat.lt_or_ge i m with k | k
  · rw [Nat.testBit_eq_decide_div_mod_eq, Nat.testBit_eq_decide_div_mod_eq, h i k]
  · rw [Nat.testBit_lt_two_pow (Nat.lt_of_lt_of_le hx (Nat.pow_le_pow_right (by omega) k)), Nat.testBit_lt_two_pow (Nat.lt_of_lt_of_le hy (Nat.pow_le_pow_right (by omega) k))]

theorem right_iff (A : Nat) (b : Int) (hA : A < 2 ^ 32) : rightB A b = true ↔ ∃ c : Nat, b = c ∧ c ≤ 32 ∧ A % 2 ^ (32 - c) = 0 := by
  unfold rightB
  simp only [Bool.and_eq_true, decide_eq_true_eq, beq_iff_eq]
  constructor
  · rintro ⟨⟨h0, h1⟩, h2⟩
    refine ⟨b.toNat, by omega, by omega, ?_⟩
    have hb : b = ((b.toNat : Nat) : Int) := by omega
    rw [hb, and_maskI A _ hA (by omega)] at h2
    exact (cut_right A _).1 (by exact_mod_cast h2)
  · rintro ⟨c, rfl, hc, h⟩
    refine ⟨⟨by omega, by omega⟩, ?_⟩
    rw [and_maskI A _ hA hc]
    exact_mod_cast (cut_right A _).2 h

theorem refRight_iff (A : Nat) (b : Int) (hA : A < 2 ^ 32) : refRightB A b = true ↔ ∃ c : Nat, b = c ∧ c ≤ 32 ∧ A % 2 ^ (32 - c) = 0 := by
  classical
  unfold refRightB
  rw [decide_eq_true_iff]
  constructor
  · rintro ⟨h0, h1, h2⟩
    refine ⟨b.toNat, by omega, by omega, (bits_zero A _).1 fun i hi => ?_⟩
    have := h2 ((31 - i : Nat) : Int) (by omega) (by omega)
    rw [bitN A _ hA (by omega), show 31 - (31 - i) = i by omega] at this
    have h3 : ¬ A / 2 ^ i % 2 = 1 := fun e => this (by exact_mod_cast e)
    have h2 : A / 2 ^ i % 2 < 2 := Nat.mod_lt _ (by omega)
    omega
  · rintro ⟨c, rfl, hc, h⟩
    refine ⟨by omega, by omega, fun k h1 h2 he => ?_⟩
    have hk : k = ((k.toNat : Nat) : Int) := by omega
    rw [hk, bitN A _ hA (by omega)] at he
    have := (bits_zero A _).2 h (31 - k.toNat) (by omega)
    rw [this] at he; cases he

theorem right_eq (A : Nat) (b : Int) (hA : A < 2 ^ 32) : rightB A b = refRightB A b := Bool.eq_iff_iff.2 ((right_iff A b hA).trans (refRight_iff A b hA).symm)

theorem holds_iff (A : Nat) (b : Int) (X : Nat) (hA : A < 2 ^ 32) (hX : X < 2 ^ 32) : holdsB A b X = true ↔ ∃ c : Nat, b = c ∧ c ≤ 32 ∧ A % 2 ^ (32 - c) = 0 ∧ cutN X (32 - c) = A := by
  unfold holdsB
  rw [Bool.and_eq_true, right_iff A b hA, beq_iff_eq]
  constructor
  · rintro ⟨⟨c, rfl, hc, h⟩, h2⟩
    rw [and_maskI X _ hX hc] at h2
    exact ⟨c, rfl, hc, h, by exact_mod_cast h2⟩
  · rintro ⟨c, rfl, hc, h, h2⟩
    exact ⟨⟨c, rfl, hc, h⟩, by rw [and_maskI X _ hX hc]; exact_mod_cast h2⟩

theorem holds_eq (A : Nat) (b : Int) (X : Nat) (hA : A < 2 ^ 32) (hX : X < 2 ^ 32) : holdsB A b X = refHoldsB A b X := by
  classical
  refine Bool.eq_iff_iff.2 ((holds_iff A b X hA hX).trans ?_)
  unfold refHoldsB
  rw [Bool.and_eq_true, refRight_iff A b hA, decide_eq_true_iff]
  constructor
  · rintro ⟨c, rfl, hc, h, h2⟩
    refine ⟨⟨c, rfl, hc, h⟩, fun k h0 h1 => ?_⟩
    have hk : k = ((k.toNat : Nat) : Int) := by omega
    rw [hk, bitN A _ hA (by omega), bitN X _ hX (by omega), ← h2]
    have e : cutN X (32 - c) / 2 ^ (31 - k.toNat) = X / 2 ^ (31 - k.toNat) := by
      have hs : 31 - k.toNat = (32 - c) + (c - 1 - k.toNat) := by omega
      unfold cutN
      rw [hs, Nat.pow_add, ← Nat.div_div_eq_div_mul, ← Nat.div_div_eq_div_mul, Nat.mul_div_cancel _ (Nat.two_pow_pos _)]
    rw [e]
  · rintro ⟨⟨c, rfl, hc, h⟩, h2⟩
    refine ⟨c, rfl, hc, h, ?_⟩
    have hd : X / 2 ^ (32 - c) = A / 2 ^ (32 - c) := by
      have lt : ∀ {Y : Nat}, Y < 2 ^ 32 → Y / 2 ^ (32 - c) < 2 ^ c := fun {Y} hY => by
        rw [Nat.div_lt_iff_lt_mul (Nat.two_pow_pos _), ← Nat.pow_add, show c + (32 - c) = 32 by omega]; exact hY
      refine eq_bits _ _ c (lt hX) (lt hA) fun i hi => ?_
      have := h2 ((c - 1 - i : Nat) : Int) (by omega) (by omega)
      rw [bitN A _ hA (by omega), bitN X _ hX (by omega), show 31 - (c - 1 - i) = (32 - c) + i by omega] at this
      rw [Nat.div_div_eq_div_mul, Nat.div_div_eq_div_mul, ← Nat.pow_add]
      exact_mod_cast this.symm
    unfold cutN
    rw [hd]
    exact ((cut_right A _).2 h).symm

theorem within_eq (A : Nat) (b : Int) (C : Nat) (d : Int) (hA : A < 2 ^ 32) (hC : C < 2 ^ 32) : withinB A b C d = refWithinB A b C d := by
  unfold withinB refWithinB
  rw [right_eq A b hA, holds_eq C d A hC hA]
  cases refRightB A b <;> cases h : decide (d ≤ b) <;> simp [refHoldsB]
end Go.Proofs.Ytepijhnfeafmaaa

end
section
/- The plain law of sets: no program in sight. -/
set_option linter.unusedVariables false
set_option linter.unusedSimpArgs false
set_option linter.unusedVariables false
set_option linter.unusedSimpArgs false
namespace Go.Proofs.Ytepijhnfeafmaaa
open Go Go.Ideal

def byteL (x : Int) : List Value := [.int .u8 x]
def and8 (x y : Int) : Int := IntKind.u8.wrap (BitVec.ofInt 8 x &&& BitVec.ofInt 8 y).toNat
def withinC (a b : List Int) : Bool := (List.range 30).all fun i => and8 (a.getD i 0) (b.getD i 0) == a.getD i 0
def hasC (c : List Int) (k : Int) : Bool := decide (0 ≤ k) && decide (k < 240) && and8 ((c.getD (k / 8).toNat 0).fdiv (2 ^ (7 - k % 8).toNat)) 1 == 1
/-- A set's bytes are bytes. -/
def CatsOK (c : List Int) : Prop := c.length = 30 ∧ ∀ x ∈ c, 0 ≤ x ∧ x < 256

theorem CatsOK.get {c : List Int} (h : CatsOK c) (i : Nat) : ∃ X : Nat, c.getD i 0 = X ∧ X < 256 := by
  rcases Nat.lt_or_ge i c.length with k | k
  · have := h.2 _ (List.getElem_mem k)
    refine ⟨(c.getD i 0).toNat, ?_, ?_⟩ <;> simp only [List.getD, List.getElem?_eq_getElem k, Option.getD_some] <;> omega
  · exact ⟨0, by simp [List.getD, List.getElem?_eq_none k], by decide⟩
theorem bv8 {n : Nat} (h : n < 256) : (BitVec.ofInt 8 (n : Int)).toNat = n := by
  rw [BitVec.toNat_ofInt]; omega
theorem and8N {X Y : Nat} (hX : X < 256) (hY : Y < 256) : and8 X Y = ((X &&& Y : Nat) : Int) := by
  unfold and8
  rw [BitVec.toNat_and, bv8 hX, bv8 hY, IntKind.wrap_u8]
  have : X &&& Y ≤ X := Nat.and_le_left
  omega
theorem bit8N {X : Nat} (hX : X < 256) (m : Nat) : (and8 ((X : Int).fdiv (2 ^ m)) 1 == 1) = X.testBit m := by
  have e : (X : Int).fdiv (2 ^ m) = ((X / 2 ^ m : Nat) : Int) := by
    rw [Int.fdiv_eq_ediv_of_nonneg _ (Int.le_of_lt (Int.pow_pos (by decide)))]; simp
  have hl : X / 2 ^ m < 256 := Nat.lt_of_le_of_lt (Nat.div_le_self _ _) hX
  rw [e, show (1 : Int) = ((1 : Nat) : Int) from rfl, and8N hl (by decide), Nat.and_one_is_mod, Nat.testBit_eq_decide_div_mod_eq]
  apply Bool.eq_iff_iff.2
  simp only [beq_iff_eq, decide_eq_true_eq]
  omega
theorem and_self_iff {X Y : Nat} (hX : X < 256) : X &&& Y = X ↔ ∀ m, m < 8 → X.testBit m = true → Y.testBit m = true := by
  constructor
  · intro h m _ hm
    rw [← h, Nat.testBit_and, Bool.and_eq_true] at hm
    exact hm.2
  · intro h
    apply Nat.eq_of_testBit_eq
    intro m
    rw [Nat.testBit_and]
    rcases Nat.lt_or_ge m 8 with k | k
    · cases hb : X.testBit m with
      | false => rfl
      | true => rw [h m k hb]; rfl
    · rw [Nat.testBit_lt_two_pow (Nat.lt_of_lt_of_le hX (show 2 ^ 8 ≤ 2 ^ m from Nat.pow_le_pow_right (by decide) k))]; rfl
theorem hasC_bit {c : List Int} (h : CatsOK c) {k : Int} (h0 : 0 ≤ k) (h1 : k < 240) : ∃ X : Nat, c.getD (k / 8).toNat 0 = X ∧ X < 256 ∧ hasC c k = X.testBit (7 - k % 8).toNat := by
  obtain ⟨X, e, hX⟩ := h.get (k / 8).toNat
  refine ⟨X, e, hX, ?_⟩
  unfold hasC
  rw [decide_eq_true h0, decide_eq_true h1, e, bit8N hX]; rfl
/-- One set lies within another one just if all that is in it is in the other one. -/
theorem withinC_iff {a b : List Int} (ha : CatsOK a) (hb : CatsOK b) : withinC a b = true ↔ ∀ k, 0 ≤ k → k < 240 → hasC a k = true → hasC b k = true := by
  unfold withinC
  rw [List.all_eq_true]
  constructor
  · intro h k h0 h1 hk
    obtain ⟨X, e1, e2, e3⟩ := hasC_bit ha h0 h1
    obtain ⟨Y, f1, f2, f3⟩ := hasC_bit hb h0 h1
    have := h (k / 8).toNat (by rw [List.mem_range]; omega)
    rw [e1, f1, beq_iff_eq, and8N e2 f2] at this
    rw [e3] at hk; rw [f3]
    exact (and_self_iff e2).1 (by exact_mod_cast this) _ (by omega) hk
  · intro h i hi
    rw [List.mem_range] at hi
    obtain ⟨X, e1, e2⟩ := ha.get i
    obtain ⟨Y, f1, f2⟩ := hb.get i
    rw [e1, f1, beq_iff_eq, and8N e2 f2]
    have : X &&& Y = X := (and_self_iff e2).2 fun m hm hx => by
      have hk : ((8 * i + (7 - m) : Nat) : Int) / 8 = i := by omega
      have hk2 : (7 - ((8 * i + (7 - m) : Nat) : Int) % 8).toNat = m := by omega
      obtain ⟨X', g1, g2, g3⟩ := hasC_bit ha (k := ((8 * i + (7 - m) : Nat) : Int)) (by omega) (by omega)
      obtain ⟨Y', k1, k2, k3⟩ := hasC_bit hb (k := ((8 * i + (7 - m) : Nat) : Int)) (by omega) (by omega)
      rw [hk, Int.toNat_natCast] at g1 k1
      rw [hk2] at g3 k3
      obtain rfl : X = X' := by exact_mod_cast e1.symm.trans g1
      obtain rfl : Y = Y' := by exact_mod_cast f1.symm.trans k1
      rw [← k3]; exact h _ (by omega) (by omega) (by rw [g3]; exact hx)
    exact_mod_cast this
end Go.Proofs.Ytepijhnfeafmaaa

end
section
/- Labels and prefixes, compared. -/
set_option linter.unusedVariables false
set_option linter.unusedSimpArgs false
set_option maxRecDepth 100000
set_option linter.unusedVariables false
set_option linter.unusedSimpArgs false
namespace Go.Proofs.Ytepijhnfeafmaaa
open Go Go.Ideal

def catsEq (a b : List Int) : Bool := a.getD 0 0 == b.getD 0 0 && (a.getD 1 0 == b.getD 1 0 && (a.getD 2 0 == b.getD 2 0 && (a.getD 3 0 == b.getD 3 0 && (a.getD 4 0 == b.getD 4 0 && (a.getD 5 0 == b.getD 5 0 && (a.getD 6 0 == b.getD 6 0 && (a.getD 7 0 == b.getD 7 0 && (a.getD 8 0 == b.getD 8 0 && (a.getD 9 0 == b.getD 9 0 && (a.getD 10 0 == b.getD 10 0 && (a.getD 11 0 == b.getD 11 0 && (a.getD 12 0 == b.getD 12 0 && (a.getD 13 0 == b.getD 13 0 && (a.getD 14 0 == b.getD 14 0 && (a.getD 15 0 == b.getD 15 0 && (a.getD 16 0 == b.getD 16 0 && (a.getD 17 0 == b.getD 17 0 && (a.getD 18 0 == b.getD 18 0 && (a.getD 19 0 == b.getD 19 0 && (a.getD 20 0 == b.getD 20 0 && (a.getD 21 0 == b.getD 21 0 && (a.getD 22 0 == b.getD 22 0 && (a.getD 23 0 == b.getD 23 0 && (a.getD 24 0 == b.getD 24 0 && (a.getD 25 0 == b.getD 25 0 && (a.getD 26 0 == b.getD 26 0 && (a.getD 27 0 == b.getD 27 0 && (a.getD 28 0 == b.getD 28 0 && (a.getD 29 0 == b.getD 29 0)))))))))))))))))))))))))))))
def lblEq (x y : Lbl) : Bool := x.level == y.level && catsEq x.cats y.cats
def pfxEq (x y : Pfx) : Bool := x.addr == y.addr && x.bits == y.bits
theorem catsEq_all (a b : List Int) : catsEq a b = (List.range 30).all fun i => a.getD i 0 == b.getD i 0 := by
  have e : List.range 30 = [0, 1, 2, 3, 4, 5, 6, 7, 8, 9, 10, 11, 12, 13, 14, 15, 16, 17, 18, 19, 20, 21, 22, 23, 24, 25, 26, 27, 28, 29] := rfl
  rw [e]
  simp only [List.all_cons, List.all_nil, Bool.and_true]
  rfl
theorem catsEq_iff {a b : List Int} (ha : a.length = 30) (hb : b.length = 30) : catsEq a b = true ↔ a = b := by
  rw [catsEq_all, List.all_eq_true]
  constructor
  · intro h
    refine List.ext_getElem (ha.trans hb.symm) fun i h1 h2 => ?_
    have := h i (by rw [List.mem_range]; omega)
    simpa [List.getD, List.getElem?_eq_getElem h1, List.getElem?_eq_getElem h2] using this
  · intro h i _; subst h; simp
theorem lblEq_iff {x y : Lbl} (hx : x.cats.length = 30) (hy : y.cats.length = 30) : lblEq x y = true ↔ x = y := by
  unfold lblEq
  rw [Bool.and_eq_true, catsEq_iff hx hy, beq_iff_eq]
  cases x; cases y; simp
theorem pfxEq_iff {x y : Pfx} : pfxEq x y = true ↔ x = y := by
  unfold pfxEq
  rw [Bool.and_eq_true, beq_iff_eq, beq_iff_eq]
  cases x; cases y; simp
theorem getD_mem {α : Type} {l : List α} {d : α} {i : Nat} (h : i < l.length) : l.getD i d ∈ l := by
  simp only [List.getD, List.getElem?_eq_getElem h, Option.getD_some]; exact List.getElem_mem h

/-- A part of a list's cells. -/
theorem cellsOf_drop {α : Type} {f : α → List Value} {n : Nat} (hf : ∀ a, (f a).length = n) : ∀ (l : List α) (k : Nat), k ≤ l.length → (cellsOf f l).drop (k * n) = cellsOf f (l.drop k)
  | l, 0, _ => by simp
  | [], k + 1, h => by simp at h
  | a :: l, k + 1, h => by
    simp only [cellsOf, List.drop_succ_cons]
    rw [show (k + 1) * n = (f a).length + k * n by rw [hf, Nat.succ_mul, Nat.add_comm], ← List.drop_drop, List.drop_left]
    exact cellsOf_drop hf l k (by simpa using h)
theorem cellsOf_part {α : Type} {f : α → List Value} {n : Nat} (hf : ∀ a, (f a).length = n) {l : List α} {k : Nat} (d : α) (hk : k < l.length) (r m : Nat) (hr : r + m ≤ n) (out : List Value) (ho : ((f (l.getD k d)).drop r).take m = out) {P : Program} :
    (Ask.part (cellsOf f l) (k * n + r) m out).holds P := by
  refine ⟨?_, ?_⟩
  · rw [cellsOf_length hf]
    have : (k + 1) * n ≤ l.length * n := Nat.mul_le_mul_right n hk
    rw [Nat.succ_mul] at this; omega
  · rw [← List.drop_drop, cellsOf_drop hf l k (Nat.le_of_lt hk)]
    have e : l.drop k = l.getD k d :: l.drop (k + 1) := by
      simp only [List.getD, List.getElem?_eq_getElem hk, Option.getD_some]; exact List.drop_eq_getElem_cons hk
    rw [e]; simp only [cellsOf]
    rw [List.drop_append_of_le_length (by rw [hf]; omega), List.take_append_of_le_length (by rw [List.length_drop, hf]; omega)]
    exact ho
end Go.Proofs.Ytepijhnfeafmaaa

end
section
/- Lists: the first element of which something holds; what is wrong first. -/
set_option linter.unusedVariables false
set_option linter.unusedSimpArgs false
namespace Go.Proofs.Ytepijhnfeafmaaa
open Go Go.Ideal

/-- The first place; -1: there is none. -/
def idxB {α : Type} (xs : List α) (p : α → Bool) : Int := match xs.findIdx? p with
  | some i => i
  | none => -1
theorem idxB_some {α : Type} {xs : List α} {p : α → Bool} {d : α} {k : Nat} (hk : k < xs.length) (h : p (xs.getD k d) = true) (no : ∀ j, j < k → p (xs.getD j d) = false) : idxB xs p = k := by
  have : xs.findIdx? p = some k := by
    rw [List.findIdx?_eq_some_iff_getElem]
    refine ⟨hk, by simpa [List.getD, List.getElem?_eq_getElem hk] using h, fun j hj => ?_⟩
    have := no j hj
    have hj2 : j < xs.length := by omega
    simpa [List.getD, List.getElem?_eq_getElem hj2] using this
  unfold idxB; rw [this]
theorem idxB_none {α : Type} {xs : List α} {p : α → Bool} {d : α} (no : ∀ j, j < xs.length → p (xs.getD j d) = false) : idxB xs p = -1 := by
  have : xs.findIdx? p = none := by
    rw [List.findIdx?_eq_none_iff]
    intro y hy
    obtain ⟨j, hj, e⟩ := List.getElem_of_mem hy
    have := no j hj
    simpa [List.getD, List.getElem?_eq_getElem hj, e] using this
  unfold idxB; rw [this]
/-- What is known of it. -/
theorem idxB_cases {α : Type} (xs : List α) (p : α → Bool) (d : α) : (∃ k : Nat, k < xs.length ∧ idxB xs p = k ∧ p (xs.getD k d) = true ∧ ∀ j, j < k → p (xs.getD j d) = false) ∨ (idxB xs p = -1 ∧ ∀ j, j < xs.length → p (xs.getD j d) = false) := by
  cases h : xs.findIdx? p with
  | none =>
    right
    refine ⟨by unfold idxB; rw [h], fun j hj => ?_⟩
    have := List.findIdx?_eq_none_iff.1 h (xs.getD j d) (getD_mem hj)
    simpa using this
  | some k =>
    left
    obtain ⟨h1, h2, h3⟩ := List.findIdx?_eq_some_iff_getElem.1 h
    refine ⟨k, h1, by unfold idxB; rw [h], by simpa [List.getD, List.getElem?_eq_getElem h1] using h2, fun j hj => ?_⟩
    have hj2 : j < xs.length := by omega
    simpa [List.getD, List.getElem?_eq_getElem hj2] using h3 j hj
theorem anyB_true {α : Type} {xs : List α} {p : α → Bool} {d : α} {k : Nat} (hk : k < xs.length) (h : p (xs.getD k d) = true) : xs.any p = true := List.any_eq_true.2 ⟨_, getD_mem hk, h⟩
theorem anyB_false {α : Type} {xs : List α} {p : α → Bool} {d : α} (no : ∀ j, j < xs.length → p (xs.getD j d) = false) : xs.any p = false := by
  rw [List.any_eq_false]
  intro y hy
  obtain ⟨j, hj, e⟩ := List.getElem_of_mem hy
  have := no j hj
  simpa [List.getD, List.getElem?_eq_getElem hj, e] using this
theorem anyB_idx {α : Type} [Inhabited α] (xs : List α) (p : α → Bool) : decide (0 ≤ idxB xs p) = xs.any p := by
  rcases idxB_cases xs p default with ⟨k, h1, h2, h3, _⟩ | ⟨h1, h2⟩
  · rw [h2, anyB_true h1 h3]; exact decide_eq_true (by omega)
  · rw [h1, anyB_false h2]; rfl

/-- The first place at which something is wrong, and what. -/
def firstBad (n : Nat) (bad : Nat → Int) : Int × Int := match (List.range n).find? (fun k => bad k != 0) with
  | some k => (k, bad k)
  | none => (n, 0)
theorem firstBad_at {n : Nat} {bad : Nat → Int} {k : Nat} (hk : k < n) (h : bad k ≠ 0) (no : ∀ j, j < k → bad j = 0) : firstBad n bad = ((k : Int), bad k) := by
  have : (List.range n).find? (fun k => bad k != 0) = some k := by
    rw [List.find?_range_eq_some]
    exact ⟨by simpa using h, by simpa using hk, fun j hj => by simpa using no j hj⟩
  unfold firstBad; rw [this]
theorem firstBad_none {n : Nat} {bad : Nat → Int} (no : ∀ j, j < n → bad j = 0) : firstBad n bad = ((n : Int), 0) := by
  have : (List.range n).find? (fun k => bad k != 0) = none := by
    rw [List.find?_eq_none]
    intro k hk
    simpa using no k (by simpa using hk)
  unfold firstBad; rw [this]
theorem firstBad_cases (n : Nat) (bad : Nat → Int) : (∃ k, k < n ∧ firstBad n bad = ((k : Int), bad k) ∧ bad k ≠ 0 ∧ ∀ j, j < k → bad j = 0) ∨ (firstBad n bad = ((n : Int), 0) ∧ ∀ j, j < n → bad j = 0) := by
  by_cases h : ∃ k, k < n ∧ bad k ≠ 0
  · left
    have hex : ∃ k, k < n ∧ bad k ≠ 0 ∧ ∀ j, j < k → bad j = 0 := by
      obtain ⟨k, hk, hb⟩ := h
      induction k using Nat.strongRecOn with
      | _ k ih =>
        by_cases hn : ∃ j, j < k ∧ bad j ≠ 0
        · obtain ⟨j, hj, hjb⟩ := hn; exact ih j hj (by omega) hjb
        · exact ⟨k, hk, hb, fun j hj => Classical.byContradiction fun e => hn ⟨j, hj, e⟩⟩
    obtain ⟨k, h1, h2, h3⟩ := hex
    exact ⟨k, h1, firstBad_at h1 h2 h3, h2, h3⟩
  · right
    have no : ∀ j, j < n → bad j = 0 := fun j hj => Classical.byContradiction fun e => h ⟨j, hj, e⟩
    exact ⟨firstBad_none no, no⟩

theorem cellsOf_snoc {α : Type} (f : α → List Value) (l : List α) (a : α) : cellsOf f (l ++ [a]) = cellsOf f l ++ f a := by
  rw [cellsOf_append]; simp [cellsOf]
theorem take_snoc {α : Type} {l : List α} {k : Nat} (d : α) (hk : k < l.length) : l.take (k + 1) = l.take k ++ [l.getD k d] := by
  rw [List.take_add_one]
  simp [List.getD, List.getElem?_eq_getElem hk]
/-- A key's place in a map. -/
theorem findI_map {P : Program} {kt : TypeId} {α : Type} {f : α → Value} {eq : α → α → Bool} (h : ∀ a b, eqD P 10000 kt (f a) (f b) = some (eq a b)) (x : α) : ∀ (ys : List α) (i : Nat), findI P kt (f x) (ys.map f) i = some ((ys.findIdx? (eq x)).map (· + i))
  | [], i => rfl
  | y :: ys, i => by
    simp only [List.map_cons, findI, h, List.findIdx?_cons]
    cases eq x y with
    | true => simp
    | false =>
      simp only [findI_map h x ys (i + 1)]
      cases ys.findIdx? (eq x) with
      | none => rfl
      | some j => simp [Nat.add_assoc, Nat.add_comm 1 i]
theorem findIdx_of_any {α : Type} {ys : List α} {p : α → Bool} (h : ys.any p = true) : ys.findIdx? p = some (ys.findIdx p) ∧ ys.findIdx p < ys.length := by
  rw [List.findIdx?_eq_some_iff_findIdx_eq]
  have : ys.findIdx p < ys.length := List.findIdx_lt_length.2 (List.any_eq_true.1 h)
  exact ⟨⟨this, rfl⟩, this⟩
theorem findIdx_of_not_any {α : Type} {ys : List α} {p : α → Bool} (h : ys.any p = false) : ys.findIdx? p = none := by
  rw [List.findIdx?_eq_none_iff]
  intro x hx
  have := List.any_eq_false.1 h x hx
  simpa using this
theorem mul_room {a b : Int} (A B : Int) (ha : a ≤ A) (h0 : 0 ≤ b) (hb : b ≤ B) (hA : 0 ≤ A) (h : A * B ≤ 1099511627776) : a * b ≤ 1099511627776 :=
  Int.le_trans (Int.mul_le_mul ha hb h0 hA) h
theorem lt_next {p : Nat → Prop} {k : Nat} (h : ∀ j, j < k → p j) (hk : p k) : ∀ j, j < k + 1 → p j := fun j hj => by
  rcases Nat.lt_or_ge j k with q | q
  · exact h j q
  · obtain rfl : j = k := by omega
    exact hk
/-- A key's place in a map, by what it is compared with. -/
theorem findI_mapK {P : Program} {kt : TypeId} {α : Type} {f : α → Value} {x : Value} {eq : α → Bool} (h : ∀ a, eqD P 10000 kt x (f a) = some (eq a)) : ∀ (ys : List α) (i : Nat), findI P kt x (ys.map f) i = some ((ys.findIdx? eq).map (· + i))
  | [], i => rfl
  | y :: ys, i => by
    simp only [List.map_cons, findI, h, List.findIdx?_cons]
    cases eq y with
    | true => simp
    | false =>
      simp only [findI_mapK h ys (i + 1)]
      cases ys.findIdx? eq with
      | none => rfl
      | some j => simp [Nat.add_assoc, Nat.add_comm 1 i]
theorem allB_iff {n : Nat} {p : Nat → Bool} : (List.range n).all p = true ↔ ∀ k, k < n → p k = true := by
  rw [List.all_eq_true]; exact ⟨fun h k hk => h k (by simpa using hk), fun h k hk => h k (by simpa using hk)⟩
theorem allB_no {n : Nat} {p : Nat → Bool} {k : Nat} (hk : k < n) (h : p k = false) : (List.range n).all p = false := by
  cases e : (List.range n).all p with
  | false => rfl
  | true => rw [allB_iff.1 e k hk] at h; cases h
theorem wrap_next (k : Nat) (h : k < 9223372036854775807) : Value.int IntKind.i64 (IntKind.wrap IntKind.i64 ((k : Int) + 1)) = Value.int IntKind.i64 ((k + 1 : Nat) : Int) := congrArg _ (wrap_in (by omega) (by omega))
theorem cellsOf_take {α : Type} {f : α → List Value} {n : Nat} (hf : ∀ a, (f a).length = n) : ∀ (l : List α) (k : Nat), (cellsOf f l).take (k * n) = cellsOf f (l.take k)
  | _, 0 => by simp [cellsOf]
  | [], k + 1 => by simp [cellsOf]
  | a :: l, k + 1 => by
    simp only [cellsOf, List.take_succ_cons]
    rw [show (k + 1) * n = (f a).length + k * n by rw [hf, Nat.succ_mul, Nat.add_comm], List.take_length_add_append, cellsOf_take hf l k]
/-- The first k elements. -/
theorem slice_take {P : Program} {α : Type} {f : α → List Value} {n : Nat} (hf : ∀ a, (f a).length = n) {l : List α} {k : Nat} (hk : k ≤ l.length) :
    (Ask.get [vsl ((k : Int) - 0) (Array.mk (List.take (Int.toNat ((k : Int) - 0) * n) (List.drop (Int.toNat 0 * n) (cellsOf f l))))] 0 (vsl ((l.take k).length : Nat) (Array.mk (cellsOf f (l.take k))))).holds P := by
  show some _ = some _
  rw [List.length_take_of_le hk, show (k : Int) - 0 = k by omega, Int.toNat_natCast, show Int.toNat 0 * n = 0 by rw [Int.toNat_zero, Nat.zero_mul], List.drop_zero, cellsOf_take hf]
theorem any_take {α : Type} {xs : List α} {p : α → Bool} (d : α) {k : Nat} (hk : k ≤ xs.length) : (xs.take k).any p = true ↔ ∃ j, j < k ∧ p (xs.getD j d) = true := by
  rw [List.any_eq_true]
  constructor
  · rintro ⟨q, hq, e⟩
    obtain ⟨j, hj, rfl⟩ := List.getElem_of_mem hq
    rw [List.length_take] at hj
    refine ⟨j, by omega, ?_⟩
    rw [List.getElem_take] at e
    simpa [List.getD, List.getElem?_eq_getElem (show j < xs.length by omega)] using e
  · rintro ⟨j, hj, e⟩
    refine ⟨(xs.take k)[j]'(by rw [List.length_take]; omega), List.getElem_mem _, ?_⟩
    rw [List.getElem_take]
    simpa [List.getD, List.getElem?_eq_getElem (show j < xs.length by omega)] using e
theorem any_take_false {α : Type} {xs : List α} {p : α → Bool} (d : α) {k : Nat} (hk : k ≤ xs.length) (h : ∀ j, j < k → p (xs.getD j d) = false) : (xs.take k).any p = false := by
  cases e : (xs.take k).any p with
  | false => rfl
  | true => obtain ⟨j, h1, h2⟩ := (any_take d hk).1 e; rw [h j h1] at h2; cases h2
end Go.Proofs.Ytepijhnfeafmaaa

end
section
/- What the functions of addresses and prefixes answer. -/
set_option linter.unusedVariables false
set_option linter.unusedSimpArgs false
set_option maxRecDepth 100000
namespace Go.Proofs.Ytepijhnfeafmaaa
open Go Go.Ideal
theorem mask_w (k : Int) : CallK Try.prog 155 [.int .i64 k] (.int .u32 (maskI k)) := CallK.via progOK (pfs []) [] 100 (Adv.chk (10 : Nat) none Adv.nil) (by kernel_rfl) (by kernel_rfl) (p := (0 : Int) ≤ IntKind.wrap IntKind.i64 ((32 : Int) - if (32 : Int) < if (0 : Int) > k then (0 : Int) else k then (32 : Int) else if (0 : Int) > k then (0 : Int) else k) ∧ Value.int IntKind.u32 (IntKind.wrap IntKind.u32 ((4294967295 : Int) * (2 : Int) ^ min (Int.toNat (IntKind.wrap IntKind.i64 ((32 : Int) - if (32 : Int) < if (0 : Int) > k then (0 : Int) else k then (32 : Int) else if (0 : Int) > k then (0 : Int) else k))) (IntKind.bits IntKind.u32))) = Value.int IntKind.u32 (maskI k)) (by kernel_rfl) (by
    have h1 := clamp_lo k
    have h2 := clamp_hi k
    have hw : IntKind.i64.wrap (32 - clampI k) = 32 - clampI k := wrap_in (by omega) (by omega)
    exact ⟨by show 0 ≤ IntKind.i64.wrap (32 - clampI k); rw [hw]; omega, by show Value.int _ (IntKind.u32.wrap (4294967295 * 2 ^ min (IntKind.i64.wrap (32 - clampI k)).toNat 32)) = _; rw [hw]; rfl⟩)
theorem bit_w (a k : Int) (h0 : 0 ≤ k) (h1 : k ≤ 31) : CallK Try.prog 112 [.int .u32 a, .int .i64 k] (.int .i64 (bitI a k)) := CallK.via progOK (pfs []) [] 100 (Adv.chk (6 : Nat) none Adv.nil) (by kernel_rfl) (by kernel_rfl) (p := (0 : Int) ≤ IntKind.wrap IntKind.i64 ((31 : Int) - k) ∧ Value.int IntKind.i64 (IntKind.wrap IntKind.i64 (IntKind.wrap IntKind.u32 (↑(BitVec.toNat (BitVec.ofInt (IntKind.bits IntKind.u32) (Int.fdiv a ((2 : Int) ^ min (Int.toNat (IntKind.wrap IntKind.i64 ((31 : Int) - k))) (IntKind.bits IntKind.u32))) &&& BitVec.ofInt (IntKind.bits IntKind.u32) (1 : Int))) : Int))) = Value.int IntKind.i64 (bitI a k)) (by kernel_rfl) (by
    have hw : IntKind.i64.wrap (31 - k) = 31 - k := wrap_in (by omega) (by omega)
    rw [hw]
    exact ⟨by omega, rfl⟩)
theorem cut_w (a k : Int) : CallK Try.prog 140 [.int .u32 a, .int .i64 k] (cutV a k) := CallK.via progOK (pfs []) [] 100 (Adv.pur (10 : Nat) (Value.int IntKind.u32 (maskI (if (32 : Int) < if (0 : Int) > k then (0 : Int) else k then (32 : Int) else if (0 : Int) > k then (0 : Int) else k))) Adv.nil) (by kernel_rfl) (by kernel_rfl) (p := CallK Try.prog (nat_lit 155) [Value.int IntKind.i64 (if (32 : Int) < if (0 : Int) > k then (0 : Int) else k then (32 : Int) else if (0 : Int) > k then (0 : Int) else k)] (Value.int IntKind.u32 (maskI (if (32 : Int) < if (0 : Int) > k then (0 : Int) else k then (32 : Int) else if (0 : Int) > k then (0 : Int) else k))) ∧ Value.agg (Array.mk [Value.int IntKind.u32 (IntKind.wrap IntKind.u32 (↑(BitVec.toNat (BitVec.ofInt (IntKind.bits IntKind.u32) a &&& BitVec.ofInt (IntKind.bits IntKind.u32) (maskI (if (32 : Int) < if (0 : Int) > k then (0 : Int) else k then (32 : Int) else if (0 : Int) > k then (0 : Int) else k)))) : Int)), Value.int IntKind.i64 (if (32 : Int) < if (0 : Int) > k then (0 : Int) else k then (32 : Int) else if (0 : Int) > k then (0 : Int) else k)]) = cutV a k) (by kernel_rfl) (by
    exact ⟨mask_w _, rfl⟩)
theorem right_w (a b : Int) : CallK Try.prog 106 [pfx2 a b] (.bool (rightB a b)) := CallK.via progOK (pfs [140]) [] 100 (Adv.split (6 : Nat) (Adv.split (10 : Nat) (Adv.pur (18 : Nat) (Value.agg (Array.mk [Value.int IntKind.u32 (andI a (maskI (clampI b))), Value.int IntKind.i64 (clampI b)])) (Adv.chks (19 : Nat) none Adv.nil Adv.nil)) Adv.nil) Adv.nil) (by kernel_rfl) (by kernel_rfl) (p := (decide (b ≥ (0 : Int)) = true → (decide (b ≤ (32 : Int)) = true → CallK Try.prog (nat_lit 140) [Value.int IntKind.u32 a, Value.int IntKind.i64 b] (Value.agg (Array.mk [Value.int IntKind.u32 (andI a (maskI (clampI b))), Value.int IntKind.i64 (clampI b)])) ∧ True ∧ ((a == andI a (maskI (clampI b)) && b == clampI b) = true → Value.bool true = Value.bool (rightB a b)) ∧ ((a == andI a (maskI (clampI b)) && b == clampI b) = false → Value.bool false = Value.bool (rightB a b))) ∧ (decide (b ≤ (32 : Int)) = false → Value.bool false = Value.bool (rightB a b))) ∧ (decide (b ≥ (0 : Int)) = false → Value.bool false = Value.bool (rightB a b))) (by kernel_rfl) (by
    simp only [decide_eq_true_eq, decide_eq_false_iff_not, ge_iff_le]
    refine ⟨fun h0 => ⟨fun h1 => ⟨cut_w a b, trivial, fun h2 => ?_, fun h2 => ?_⟩, fun h1 => ?_⟩, fun h0 => ?_⟩
    · rw [clamp_id h0 h1, beq_self_eq_true, Bool.and_true] at h2
      unfold rightB; rw [h2, decide_eq_true h0, decide_eq_true h1]; rfl
    · rw [clamp_id h0 h1, beq_self_eq_true, Bool.and_true] at h2
      unfold rightB; rw [h2, decide_eq_true h0, decide_eq_true h1]; rfl
    · unfold rightB; rw [decide_eq_true h0, decide_eq_false h1]; rfl
    · unfold rightB; rw [decide_eq_false h0]; rfl)
theorem refRightB_iff (a b : Int) : refRightB a b = true ↔ (0 ≤ b ∧ b ≤ 32 ∧ ∀ k, b ≤ k → k < 32 → bitI a k ≠ 1) := by
  classical
  unfold refRightB; exact decide_eq_true_iff
theorem refRightB_f {a b : Int} (h : ¬ (0 ≤ b ∧ b ≤ 32 ∧ ∀ k, b ≤ k → k < 32 → bitI a k ≠ 1)) : false = refRightB a b := (Bool.eq_false_iff.2 fun e => h ((refRightB_iff a b).1 e)).symm
theorem refRight_w (a b : Int) : CallK Try.prog 64 [pfx2 a b] (.bool (refRightB a b)) := CallK.via progOK (pfs [112]) [] 100 (Adv.split (7 : Nat) Adv.nil (Adv.split (11 : Nat) Adv.nil (Adv.loop (19 : Nat) (fun (k : Int) => [((3 : Nat), Value.int IntKind.i64 k)]) ((fun (h : Heap) (x : Int) => h) (Heap.mk (nat_lit 1) (Trie.node (some (Blk.cells [Value.int IntKind.u32 a, Value.int IntKind.i64 b] (nat_lit 48) Mode.fix)) Trie.leaf Trie.leaf))) (fun (i : Nat) (k : Int) => (↑i : Int) + k = (32 : Int) ∧ b ≤ k ∧ (0 : Int) ≤ k ∧ k ≤ (32 : Int) ∧ ∀ (j : Int), b ≤ j → j < k → bitI a j ≠ (1 : Int)) (Int.toNat ((32 : Int) - b)) b fun (i19 : Nat) (s19 : Int) (j19 : Nat → Value) => Adv.split (23 : Nat) (Adv.pur (30 : Nat) (Value.int IntKind.i64 (bitI a s19)) (Adv.split (31 : Nat) Adv.nil Adv.nil)) Adv.nil))) (by kernel_rfl) (by kernel_rfl) (p := (decide (b < (0 : Int)) = true → Value.bool false = Value.bool (refRightB a b)) ∧ (decide (b < (0 : Int)) = false → (decide (b > (32 : Int)) = true → Value.bool false = Value.bool (refRightB a b)) ∧ (decide (b > (32 : Int)) = false → (((↑(Int.toNat ((32 : Int) - b)) : Int) + b = (32 : Int) ∧ b ≤ b ∧ (0 : Int) ≤ b ∧ b ≤ (32 : Int) ∧ ∀ (j : Int), b ≤ j → j < b → bitI a j ≠ (1 : Int)) ∧ Value.int IntKind.i64 b = Value.int IntKind.i64 b ∧ Heap.mk (nat_lit 1) (Trie.node (some (Blk.cells [Value.int IntKind.u32 a, Value.int IntKind.i64 b] (nat_lit 48) Mode.fix)) Trie.leaf Trie.leaf) = Heap.mk (nat_lit 1) (Trie.node (some (Blk.cells [Value.int IntKind.u32 a, Value.int IntKind.i64 b] (nat_lit 48) Mode.fix)) Trie.leaf Trie.leaf)) ∧ ∀ (i19 : Nat) (s19 : Int) (j19 : Nat → Value), ((↑i19 : Int) + s19 = (32 : Int) ∧ b ≤ s19 ∧ (0 : Int) ≤ s19 ∧ s19 ≤ (32 : Int) ∧ ∀ (j : Int), b ≤ j → j < s19 → bitI a j ≠ (1 : Int)) → (decide (s19 < (32 : Int)) = true → CallK Try.prog (nat_lit 112) [Value.int IntKind.u32 a, Value.int IntKind.i64 s19] (Value.int IntKind.i64 (bitI a s19)) ∧ ((bitI a s19 == (1 : Int)) = true → Value.bool false = Value.bool (refRightB a b)) ∧ ((bitI a s19 == (1 : Int)) = false → ∃ (i19' : Nat), ∃ (s19' : Int), i19' < i19 ∧ ((↑i19' : Int) + s19' = (32 : Int) ∧ b ≤ s19' ∧ (0 : Int) ≤ s19' ∧ s19' ≤ (32 : Int) ∧ ∀ (j : Int), b ≤ j → j < s19' → bitI a j ≠ (1 : Int)) ∧ Value.int IntKind.i64 (IntKind.wrap IntKind.i64 (s19 + (1 : Int))) = Value.int IntKind.i64 s19' ∧ (some (Blk.cells [Value.int IntKind.u32 a, Value.int IntKind.i64 b] (nat_lit 48) Mode.fix) = some (Blk.cells [Value.int IntKind.u32 a, Value.int IntKind.i64 b] (nat_lit 48) Mode.fix) ∧ True) ∧ true = true ∧ true = true ∧ True)) ∧ (decide (s19 < (32 : Int)) = false → Value.bool true = Value.bool (refRightB a b))))) (by kernel_rfl) (by
    simp only [decide_eq_true_eq, decide_eq_false_iff_not, beq_iff_eq, beq_eq_false_iff_ne, Value.bool.injEq, Value.int.injEq, true_and, and_true]
    refine ⟨fun h0 => ?_, fun h0 => ⟨fun h1 => ?_, fun h1 => ⟨⟨by omega, by omega, by omega, by omega, fun j k1 k2 => by omega⟩, fun i k j ⟨q1, q2, q3, q4, q5⟩ => ⟨fun k1 => ⟨bit_w a k q3 (by omega), fun k2 => ?_, fun k2 => ⟨i - 1, k + 1, by omega, ⟨by omega, by omega, by omega, by omega, fun j h1 h2 => ?_⟩, wrap_in (by omega) (by omega)⟩⟩, fun k1 => ?_⟩⟩⟩⟩
    · exact refRightB_f (by omega)
    · exact refRightB_f (by omega)
    · refine refRightB_f ?_; exact fun h => h.2.2 k q2 k1 k2
    · rcases Int.lt_or_le j k with h | h
      · exact q5 j h1 h
      · obtain rfl : j = k := by omega
        exact k2
    · exact ((refRightB_iff a b).2 ⟨by omega, by omega, fun j h1 h2 => q5 j h1 (by omega)⟩).symm)
def kindI (a : Int) : Int := if a < 16777216 then 0 else if a < 2130706432 then 4 else if a < 2147483648 then 1 else if a < 3758096384 then 4 else if a < 4026531840 then 2 else 3
theorem refKind_w (a : Int) : CallK Try.prog 109 [.int .u32 a] (.int .i64 (kindI a)) := CallK.via progOK (pfs []) [] 100 (Adv.split (5 : Nat) Adv.nil (Adv.split (10 : Nat) (Adv.split (13 : Nat) Adv.nil (Adv.split (19 : Nat) (Adv.split (22 : Nat) Adv.nil (Adv.split (28 : Nat) Adv.nil Adv.nil)) (Adv.split (26 : Nat) Adv.nil Adv.nil))) (Adv.split (17 : Nat) (Adv.split (20 : Nat) Adv.nil (Adv.split (26 : Nat) Adv.nil Adv.nil)) (Adv.split (24 : Nat) Adv.nil Adv.nil)))) (by kernel_rfl) (by kernel_rfl) (p := (decide (a < (16777216 : Int)) = true → Value.int IntKind.i64 (0 : Int) = Value.int IntKind.i64 (kindI a)) ∧ (decide (a < (16777216 : Int)) = false → (decide (a ≥ (2130706432 : Int)) = true → (decide (a < (2147483648 : Int)) = true → Value.int IntKind.i64 (1 : Int) = Value.int IntKind.i64 (kindI a)) ∧ (decide (a < (2147483648 : Int)) = false → (decide (a ≥ (3758096384 : Int)) = true → (decide (a < (4026531840 : Int)) = true → Value.int IntKind.i64 (2 : Int) = Value.int IntKind.i64 (kindI a)) ∧ (decide (a < (4026531840 : Int)) = false → (decide (a ≥ (4026531840 : Int)) = true → Value.int IntKind.i64 (3 : Int) = Value.int IntKind.i64 (kindI a)) ∧ (decide (a ≥ (4026531840 : Int)) = false → Value.int IntKind.i64 (4 : Int) = Value.int IntKind.i64 (kindI a)))) ∧ (decide (a ≥ (3758096384 : Int)) = false → (decide (a ≥ (4026531840 : Int)) = true → Value.int IntKind.i64 (3 : Int) = Value.int IntKind.i64 (kindI a)) ∧ (decide (a ≥ (4026531840 : Int)) = false → Value.int IntKind.i64 (4 : Int) = Value.int IntKind.i64 (kindI a))))) ∧ (decide (a ≥ (2130706432 : Int)) = false → (decide (a ≥ (3758096384 : Int)) = true → (decide (a < (4026531840 : Int)) = true → Value.int IntKind.i64 (2 : Int) = Value.int IntKind.i64 (kindI a)) ∧ (decide (a < (4026531840 : Int)) = false → (decide (a ≥ (4026531840 : Int)) = true → Value.int IntKind.i64 (3 : Int) = Value.int IntKind.i64 (kindI a)) ∧ (decide (a ≥ (4026531840 : Int)) = false → Value.int IntKind.i64 (4 : Int) = Value.int IntKind.i64 (kindI a)))) ∧ (decide (a ≥ (3758096384 : Int)) = false → (decide (a ≥ (4026531840 : Int)) = true → Value.int IntKind.i64 (3 : Int) = Value.int IntKind.i64 (kindI a)) ∧ (decide (a ≥ (4026531840 : Int)) = false → Value.int IntKind.i64 (4 : Int) = Value.int IntKind.i64 (kindI a)))))) (by kernel_rfl) (by
    simp only [decide_eq_true_eq, decide_eq_false_iff_not, Value.int.injEq, true_and, kindI, ge_iff_le]
    omega)
def byteI (a : Int) (k : Nat) : Int := IntKind.u8.wrap (a.fdiv (2 ^ k))
theorem bytes_w (a : Int) : CallK Try.prog 149 [.int .u32 a] (.agg #[.int .u8 (byteI a 24), .int .u8 (byteI a 16), .int .u8 (byteI a 8), .int .u8 (IntKind.u8.wrap a)]) := CallK.via progOK (pfs []) [] 100 (Adv.nil) (by kernel_rfl) (by kernel_rfl) (p := Value.agg (Array.mk [Value.int IntKind.u8 (IntKind.wrap IntKind.u8 (Int.fdiv a ((2 : Int) ^ min (Int.toNat (24 : Int)) (IntKind.bits IntKind.u32)))), Value.int IntKind.u8 (IntKind.wrap IntKind.u8 (Int.fdiv a ((2 : Int) ^ min (Int.toNat (16 : Int)) (IntKind.bits IntKind.u32)))), Value.int IntKind.u8 (IntKind.wrap IntKind.u8 (Int.fdiv a ((2 : Int) ^ min (Int.toNat (8 : Int)) (IntKind.bits IntKind.u32)))), Value.int IntKind.u8 (IntKind.wrap IntKind.u8 a)]) = Value.agg #[Value.int IntKind.u8 (byteI a (24 : Nat)), Value.int IntKind.u8 (byteI a (16 : Nat)), Value.int IntKind.u8 (byteI a (8 : Nat)), Value.int IntKind.u8 (IntKind.wrap IntKind.u8 a)]) (by kernel_rfl) (by
    simp only [byteI]
    rfl)
theorem kind_w (a : Int) (h0 : 0 ≤ a) (h1 : a < 4294967296) : CallK Try.prog 131 [.int .u32 a] (.int .i64 (kindI a)) := CallK.via progOK (pfs [149]) [] 100 (Adv.pur (5 : Nat) (Value.agg (Array.mk [Value.int IntKind.u8 (byteI a (24 : Nat)), Value.int IntKind.u8 (byteI a (16 : Nat)), Value.int IntKind.u8 (byteI a (8 : Nat)), Value.int IntKind.u8 (IntKind.wrap IntKind.u8 a)])) (Adv.split (10 : Nat) Adv.nil (Adv.split (15 : Nat) Adv.nil (Adv.split (20 : Nat) Adv.nil (Adv.split (25 : Nat) Adv.nil Adv.nil))))) (by kernel_rfl) (by kernel_rfl) (p := CallK Try.prog (nat_lit 149) [Value.int IntKind.u32 a] (Value.agg (Array.mk [Value.int IntKind.u8 (byteI a (24 : Nat)), Value.int IntKind.u8 (byteI a (16 : Nat)), Value.int IntKind.u8 (byteI a (8 : Nat)), Value.int IntKind.u8 (IntKind.wrap IntKind.u8 a)])) ∧ ((byteI a (24 : Nat) == (0 : Int)) = true → Value.int IntKind.i64 (0 : Int) = Value.int IntKind.i64 (kindI a)) ∧ ((byteI a (24 : Nat) == (0 : Int)) = false → ((byteI a (24 : Nat) == (127 : Int)) = true → Value.int IntKind.i64 (1 : Int) = Value.int IntKind.i64 (kindI a)) ∧ ((byteI a (24 : Nat) == (127 : Int)) = false → (decide (byteI a (24 : Nat) ≥ (240 : Int)) = true → Value.int IntKind.i64 (3 : Int) = Value.int IntKind.i64 (kindI a)) ∧ (decide (byteI a (24 : Nat) ≥ (240 : Int)) = false → (decide (byteI a (24 : Nat) ≥ (224 : Int)) = true → Value.int IntKind.i64 (2 : Int) = Value.int IntKind.i64 (kindI a)) ∧ (decide (byteI a (24 : Nat) ≥ (224 : Int)) = false → Value.int IntKind.i64 (4 : Int) = Value.int IntKind.i64 (kindI a)))))) (by kernel_rfl) (by
    have e : byteI a 24 = a / 16777216 := by
      unfold byteI
      rw [Int.fdiv_eq_ediv_of_nonneg _ (by decide), IntKind.wrap_u8]
      omega
    refine ⟨bytes_w a, ?_⟩
    rw [e]
    simp only [decide_eq_true_eq, decide_eq_false_iff_not, beq_iff_eq, beq_eq_false_iff_ne, Value.int.injEq, true_and, kindI, ge_iff_le]
    omega)
end Go.Proofs.Ytepijhnfeafmaaa

end
section
/- What the functions of sets answer. -/
set_option linter.unusedVariables false
set_option linter.unusedSimpArgs false
set_option maxRecDepth 100000
namespace Go.Proofs.Ytepijhnfeafmaaa
open Go Go.Ideal
theorem catsL_part (c : List Int) (i : Nat) (h : i < 30) : (Ask.part (catsL c) (0 + i * 1) 1 [.int .u8 (c.getD i 0)]).holds Try.prog := by
  rw [Nat.zero_add, Nat.mul_one]
  refine ⟨h, ?_⟩
  have e : catsL c = (List.range 30).map fun i => Value.int .u8 (c.getD i 0) := rfl
  rw [e, List.drop_eq_getElem_cons (by simpa using h)]
  simp
theorem has_w (c : List Int) (k : Int) : CallK Try.prog 143 [catsV c, .int .i64 k] (.bool (hasC c k)) := CallK.via progOK (pfs []) [] 100 (Adv.split (5 : Nat) (Adv.split (8 : Nat) (Adv.chk (13 : Nat) none (Adv.chk (14 : Nat) (some (Value.int IntKind.u8 (List.getD c (Int.toNat (IntKind.wrap IntKind.i64 (Int.tdiv k (8 : Int)))) (0 : Int)))) (Adv.chk (18 : Nat) none (Adv.split (20 : Nat) Adv.nil Adv.nil)))) Adv.nil) Adv.nil) (by kernel_rfl) (by kernel_rfl) (p := (decide (k ≥ (0 : Int)) = true → (decide (k < (240 : Int)) = true → ((0 : Int) ≤ IntKind.wrap IntKind.i64 (Int.tdiv k (8 : Int)) ∧ IntKind.wrap IntKind.i64 (Int.tdiv k (8 : Int)) < (30 : Int)) ∧ Ask.holds Try.prog (Ask.part (catsL c) (nat_lit 0 + Int.toNat (IntKind.wrap IntKind.i64 (Int.tdiv k (8 : Int))) * nat_lit 1) (nat_lit 1) [Value.int IntKind.u8 (List.getD c (Int.toNat (IntKind.wrap IntKind.i64 (Int.tdiv k (8 : Int)))) (0 : Int))]) ∧ (0 : Int) ≤ IntKind.wrap IntKind.i64 ((7 : Int) - Int.tmod k (8 : Int)) ∧ ((IntKind.wrap IntKind.u8 (↑(BitVec.toNat (BitVec.ofInt (IntKind.bits IntKind.u8) (Int.fdiv (List.getD c (Int.toNat (IntKind.wrap IntKind.i64 (Int.tdiv k (8 : Int)))) (0 : Int)) ((2 : Int) ^ min (Int.toNat (IntKind.wrap IntKind.i64 ((7 : Int) - Int.tmod k (8 : Int)))) (IntKind.bits IntKind.u8))) &&& BitVec.ofInt (IntKind.bits IntKind.u8) (1 : Int))) : Int) == (1 : Int)) = true → Value.bool true = Value.bool (hasC c k)) ∧ ((IntKind.wrap IntKind.u8 (↑(BitVec.toNat (BitVec.ofInt (IntKind.bits IntKind.u8) (Int.fdiv (List.getD c (Int.toNat (IntKind.wrap IntKind.i64 (Int.tdiv k (8 : Int)))) (0 : Int)) ((2 : Int) ^ min (Int.toNat (IntKind.wrap IntKind.i64 ((7 : Int) - Int.tmod k (8 : Int)))) (IntKind.bits IntKind.u8))) &&& BitVec.ofInt (IntKind.bits IntKind.u8) (1 : Int))) : Int) == (1 : Int)) = false → Value.bool false = Value.bool (hasC c k))) ∧ (decide (k < (240 : Int)) = false → Value.bool false = Value.bool (hasC c k))) ∧ (decide (k ≥ (0 : Int)) = false → Value.bool false = Value.bool (hasC c k))) (by kernel_rfl) (by
    simp only [decide_eq_true_eq, decide_eq_false_iff_not, ge_iff_le]
    refine ⟨fun h0 => ⟨fun h1 => ?_, fun h1 => ?_⟩, fun h0 => ?_⟩
    · have e1 : IntKind.i64.wrap (k.tdiv 8) = k / 8 := by rw [Int.tdiv_eq_ediv_of_nonneg h0, wrap_in (by omega) (by omega)]
      have e2 : IntKind.i64.wrap (7 - k.tmod 8) = 7 - k % 8 := by rw [Int.tmod_eq_emod_of_nonneg h0, wrap_in (by omega) (by omega)]
      have e3 : min (7 - k % 8).toNat IntKind.u8.bits = (7 - k % 8).toNat := Nat.min_eq_left (by show _ ≤ 8; omega)
      rw [e1, e2, e3]
      refine ⟨⟨by omega, by omega⟩, catsL_part c _ (by omega), by omega, fun h2 => ?_, fun h2 => ?_⟩
      · unfold hasC; rw [decide_eq_true h0, decide_eq_true h1]; exact congrArg Value.bool h2.symm
      · unfold hasC; rw [decide_eq_true h0, decide_eq_true h1]; exact congrArg Value.bool h2.symm
    · unfold hasC; rw [decide_eq_true h0, decide_eq_false h1]; rfl
    · unfold hasC; rw [decide_eq_false h0]; rfl)
theorem refWithin_w (a b : List Int) (ha : CatsOK a) (hb : CatsOK b) : CallK Try.prog 118 [catsV a, catsV b] (.bool (withinC a b)) := CallK.via progOK (pfs []) [] 100 (Adv.loop (7 : Nat) (fun (k : Int) => [((5 : Nat), Value.int IntKind.i64 k)]) ((fun (h : Heap) (x : Int) => h) (Heap.mk (nat_lit 2) (Trie.node (some (Blk.cells (catsL a) (nat_lit 42) Mode.fix)) (Trie.node (some (Blk.cells (catsL b) (nat_lit 42) Mode.fix)) Trie.leaf Trie.leaf) Trie.leaf))) (fun (i : Nat) (k : Int) => (↑i : Int) + k = (240 : Int) ∧ (0 : Int) ≤ k ∧ k ≤ (240 : Int) ∧ ∀ (j : Int), (0 : Int) ≤ j → j < k → hasC a j = true → hasC b j = true) (240 : Nat) (0 : Int) fun (i7 : Nat) (s7 : Int) (j7 : Nat → Value) => Adv.split (11 : Nat) (Adv.purs (17 : Nat) (hasC a s7) (Adv.purs (21 : Nat) (hasC b s7) Adv.nil Adv.nil) Adv.nil) Adv.nil) (by kernel_rfl) (by kernel_rfl) (p := (((↑(240 : Nat) : Int) + (0 : Int) = (240 : Int) ∧ (0 : Int) ≤ (0 : Int) ∧ (0 : Int) ≤ (240 : Int) ∧ ∀ (j : Int), (0 : Int) ≤ j → j < (0 : Int) → hasC a j = true → hasC b j = true) ∧ Value.int IntKind.i64 (0 : Int) = Value.int IntKind.i64 (0 : Int) ∧ Heap.mk (nat_lit 2) (Trie.node (some (Blk.cells (catsL a) (nat_lit 42) Mode.fix)) (Trie.node (some (Blk.cells (catsL b) (nat_lit 42) Mode.fix)) Trie.leaf Trie.leaf) Trie.leaf) = Heap.mk (nat_lit 2) (Trie.node (some (Blk.cells (catsL a) (nat_lit 42) Mode.fix)) (Trie.node (some (Blk.cells (catsL b) (nat_lit 42) Mode.fix)) Trie.leaf Trie.leaf) Trie.leaf)) ∧ ∀ (i7 : Nat) (s7 : Int) (j7 : Nat → Value), ((↑i7 : Int) + s7 = (240 : Int) ∧ (0 : Int) ≤ s7 ∧ s7 ≤ (240 : Int) ∧ ∀ (j : Int), (0 : Int) ≤ j → j < s7 → hasC a j = true → hasC b j = true) → (decide (s7 < (240 : Int)) = true → CallK Try.prog (nat_lit 143) [Value.agg (Array.mk (catsL a)), Value.int IntKind.i64 s7] (Value.bool (hasC a s7)) ∧ (hasC a s7 = true → CallK Try.prog (nat_lit 143) [Value.agg (Array.mk (catsL b)), Value.int IntKind.i64 s7] (Value.bool (hasC b s7)) ∧ (hasC b s7 = true → ∃ (i7' : Nat), ∃ (s7' : Int), i7' < i7 ∧ ((↑i7' : Int) + s7' = (240 : Int) ∧ (0 : Int) ≤ s7' ∧ s7' ≤ (240 : Int) ∧ ∀ (j : Int), (0 : Int) ≤ j → j < s7' → hasC a j = true → hasC b j = true) ∧ Value.int IntKind.i64 (IntKind.wrap IntKind.i64 (s7 + (1 : Int))) = Value.int IntKind.i64 s7' ∧ (some (Blk.cells (catsL b) (nat_lit 42) Mode.fix) = some (Blk.cells (catsL b) (nat_lit 42) Mode.fix) ∧ some (Blk.cells (catsL a) (nat_lit 42) Mode.fix) = some (Blk.cells (catsL a) (nat_lit 42) Mode.fix) ∧ True) ∧ true = true ∧ true = true ∧ true = true ∧ True) ∧ (hasC b s7 = false → Value.bool false = Value.bool (withinC a b))) ∧ (hasC a s7 = false → ∃ (i7' : Nat), ∃ (s7' : Int), i7' < i7 ∧ ((↑i7' : Int) + s7' = (240 : Int) ∧ (0 : Int) ≤ s7' ∧ s7' ≤ (240 : Int) ∧ ∀ (j : Int), (0 : Int) ≤ j → j < s7' → hasC a j = true → hasC b j = true) ∧ Value.int IntKind.i64 (IntKind.wrap IntKind.i64 (s7 + (1 : Int))) = Value.int IntKind.i64 s7' ∧ (some (Blk.cells (catsL b) (nat_lit 42) Mode.fix) = some (Blk.cells (catsL b) (nat_lit 42) Mode.fix) ∧ some (Blk.cells (catsL a) (nat_lit 42) Mode.fix) = some (Blk.cells (catsL a) (nat_lit 42) Mode.fix) ∧ True) ∧ true = true ∧ true = true ∧ true = true ∧ True)) ∧ (decide (s7 < (240 : Int)) = false → Value.bool true = Value.bool (withinC a b))) (by kernel_rfl) (by
    have no : ∀ k, 0 ≤ k → k < 240 → hasC a k = true → hasC b k = false → Value.bool false = Value.bool (withinC a b) := fun k h0 h1 h2 h3 => by
      refine congrArg Value.bool (Bool.eq_false_iff.2 fun e => ?_).symm
      rw [(withinC_iff ha hb).1 e k h0 h1 h2] at h3; cases h3
    simp only [decide_eq_true_eq, decide_eq_false_iff_not, and_true, true_and, Value.int.injEq]
    refine ⟨⟨by omega, by omega, by omega, fun j h0 h1 => by omega⟩, fun i k j ⟨q1, q2, q3, q4⟩ => ⟨fun k1 => ⟨has_w a k, fun k2 => ⟨has_w b k, fun k3 => ?_, fun k3 => no k q2 k1 k2 k3⟩, fun k2 => ?_⟩, fun k1 => ?_⟩⟩
    · refine ⟨i - 1, k + 1, by omega, ⟨by omega, by omega, by omega, fun j h1 h2 h3 => ?_⟩, wrap_in (by omega) (by omega)⟩
      rcases Int.lt_or_le j k with h | h
      · exact q4 j h1 h h3
      · obtain rfl : j = k := by omega
        exact k3
    · refine ⟨i - 1, k + 1, by omega, ⟨by omega, by omega, by omega, fun j h1 h2 h3 => ?_⟩, wrap_in (by omega) (by omega)⟩
      rcases Int.lt_or_le j k with h | h
      · exact q4 j h1 h h3
      · obtain rfl : j = k := by omega
        rw [k2] at h3; cases h3
    · exact congrArg Value.bool ((withinC_iff ha hb).2 fun j h0 h1 => q4 j h0 (by omega)).symm)
end Go.Proofs.Ytepijhnfeafmaaa

end
section
/- What the functions of sets answer: within. -/
set_option linter.unusedVariables false
set_option linter.unusedSimpArgs false
set_option maxRecDepth 100000
namespace Go.Proofs.Ytepijhnfeafmaaa
open Go Go.Ideal
theorem within_w (a b : List Int) : CallK Try.prog 145 [catsV a, catsV b] (.bool (withinC a b)) := CallK.via progOK (pfs []) [] 100 (Adv.chks (10 : Nat) none Adv.nil Adv.nil) (by kernel_rfl) (by kernel_rfl) (p := True ∧ ((IntKind.wrap IntKind.u8 (↑(BitVec.toNat (BitVec.ofInt (IntKind.bits IntKind.u8) (List.getD a (0 : Nat) (0 : Int)) &&& BitVec.ofInt (IntKind.bits IntKind.u8) (List.getD b (0 : Nat) (0 : Int)))) : Int) == List.getD a (0 : Nat) (0 : Int) && (IntKind.wrap IntKind.u8 (↑(BitVec.toNat (BitVec.ofInt (IntKind.bits IntKind.u8) (List.getD a (1 : Nat) (0 : Int)) &&& BitVec.ofInt (IntKind.bits IntKind.u8) (List.getD b (1 : Nat) (0 : Int)))) : Int) == List.getD a (1 : Nat) (0 : Int) && (IntKind.wrap IntKind.u8 (↑(BitVec.toNat (BitVec.ofInt (IntKind.bits IntKind.u8) (List.getD a (2 : Nat) (0 : Int)) &&& BitVec.ofInt (IntKind.bits IntKind.u8) (List.getD b (2 : Nat) (0 : Int)))) : Int) == List.getD a (2 : Nat) (0 : Int) && (IntKind.wrap IntKind.u8 (↑(BitVec.toNat (BitVec.ofInt (IntKind.bits IntKind.u8) (List.getD a (3 : Nat) (0 : Int)) &&& BitVec.ofInt (IntKind.bits IntKind.u8) (List.getD b (3 : Nat) (0 : Int)))) : Int) == List.getD a (3 : Nat) (0 : Int) && (IntKind.wrap IntKind.u8 (↑(BitVec.toNat (BitVec.ofInt (IntKind.bits IntKind.u8) (List.getD a (4 : Nat) (0 : Int)) &&& BitVec.ofInt (IntKind.bits IntKind.u8) (List.getD b (4 : Nat) (0 : Int)))) : Int) == List.getD a (4 : Nat) (0 : Int) && (IntKind.wrap IntKind.u8 (↑(BitVec.toNat (BitVec.ofInt (IntKind.bits IntKind.u8) (List.getD a (5 : Nat) (0 : Int)) &&& BitVec.ofInt (IntKind.bits IntKind.u8) (List.getD b (5 : Nat) (0 : Int)))) : Int) == List.getD a (5 : Nat) (0 : Int) && (IntKind.wrap IntKind.u8 (↑(BitVec.toNat (BitVec.ofInt (IntKind.bits IntKind.u8) (List.getD a (6 : Nat) (0 : Int)) &&& BitVec.ofInt (IntKind.bits IntKind.u8) (List.getD b (6 : Nat) (0 : Int)))) : Int) == List.getD a (6 : Nat) (0 : Int) && (IntKind.wrap IntKind.u8 (↑(BitVec.toNat (BitVec.ofInt (IntKind.bits IntKind.u8) (List.getD a (7 : Nat) (0 : Int)) &&& BitVec.ofInt (IntKind.bits IntKind.u8) (List.getD b (7 : Nat) (0 : Int)))) : Int) == List.getD a (7 : Nat) (0 : Int) && (IntKind.wrap IntKind.u8 (↑(BitVec.toNat (BitVec.ofInt (IntKind.bits IntKind.u8) (List.getD a (8 : Nat) (0 : Int)) &&& BitVec.ofInt (IntKind.bits IntKind.u8) (List.getD b (8 : Nat) (0 : Int)))) : Int) == List.getD a (8 : Nat) (0 : Int) && (IntKind.wrap IntKind.u8 (↑(BitVec.toNat (BitVec.ofInt (IntKind.bits IntKind.u8) (List.getD a (9 : Nat) (0 : Int)) &&& BitVec.ofInt (IntKind.bits IntKind.u8) (List.getD b (9 : Nat) (0 : Int)))) : Int) == List.getD a (9 : Nat) (0 : Int) && (IntKind.wrap IntKind.u8 (↑(BitVec.toNat (BitVec.ofInt (IntKind.bits IntKind.u8) (List.getD a (10 : Nat) (0 : Int)) &&& BitVec.ofInt (IntKind.bits IntKind.u8) (List.getD b (10 : Nat) (0 : Int)))) : Int) == List.getD a (10 : Nat) (0 : Int) && (IntKind.wrap IntKind.u8 (↑(BitVec.toNat (BitVec.ofInt (IntKind.bits IntKind.u8) (List.getD a (11 : Nat) (0 : Int)) &&& BitVec.ofInt (IntKind.bits IntKind.u8) (List.getD b (11 : Nat) (0 : Int)))) : Int) == List.getD a (11 : Nat) (0 : Int) && (IntKind.wrap IntKind.u8 (↑(BitVec.toNat (BitVec.ofInt (IntKind.bits IntKind.u8) (List.getD a (12 : Nat) (0 : Int)) &&& BitVec.ofInt (IntKind.bits IntKind.u8) (List.getD b (12 : Nat) (0 : Int)))) : Int) == List.getD a (12 : Nat) (0 : Int) && (IntKind.wrap IntKind.u8 (↑(BitVec.toNat (BitVec.ofInt (IntKind.bits IntKind.u8) (List.getD a (13 : Nat) (0 : Int)) &&& BitVec.ofInt (IntKind.bits IntKind.u8) (List.getD b (13 : Nat) (0 : Int)))) : Int) == List.getD a (13 : Nat) (0 : Int) && (IntKind.wrap IntKind.u8 (↑(BitVec.toNat (BitVec.ofInt (IntKind.bits IntKind.u8) (List.getD a (14 : Nat) (0 : Int)) &&& BitVec.ofInt (IntKind.bits IntKind.u8) (List.getD b (14 : Nat) (0 : Int)))) : Int) == List.getD a (14 : Nat) (0 : Int) && (IntKind.wrap IntKind.u8 (↑(BitVec.toNat (BitVec.ofInt (IntKind.bits IntKind.u8) (List.getD a (15 : Nat) (0 : Int)) &&& BitVec.ofInt (IntKind.bits IntKind.u8) (List.getD b (15 : Nat) (0 : Int)))) : Int) == List.getD a (15 : Nat) (0 : Int) && (IntKind.wrap IntKind.u8 (↑(BitVec.toNat (BitVec.ofInt (IntKind.bits IntKind.u8) (List.getD a (16 : Nat) (0 : Int)) &&& BitVec.ofInt (IntKind.bits IntKind.u8) (List.getD b (16 : Nat) (0 : Int)))) : Int) == List.getD a (16 : Nat) (0 : Int) && (IntKind.wrap IntKind.u8 (↑(BitVec.toNat (BitVec.ofInt (IntKind.bits IntKind.u8) (List.getD a (17 : Nat) (0 : Int)) &&& BitVec.ofInt (IntKind.bits IntKind.u8) (List.getD b (17 : Nat) (0 : Int)))) : Int) == List.getD a (17 : Nat) (0 : Int) && (IntKind.wrap IntKind.u8 (↑(BitVec.toNat (BitVec.ofInt (IntKind.bits IntKind.u8) (List.getD a (18 : Nat) (0 : Int)) &&& BitVec.ofInt (IntKind.bits IntKind.u8) (List.getD b (18 : Nat) (0 : Int)))) : Int) == List.getD a (18 : Nat) (0 : Int) && (IntKind.wrap IntKind.u8 (↑(BitVec.toNat (BitVec.ofInt (IntKind.bits IntKind.u8) (List.getD a (19 : Nat) (0 : Int)) &&& BitVec.ofInt (IntKind.bits IntKind.u8) (List.getD b (19 : Nat) (0 : Int)))) : Int) == List.getD a (19 : Nat) (0 : Int) && (IntKind.wrap IntKind.u8 (↑(BitVec.toNat (BitVec.ofInt (IntKind.bits IntKind.u8) (List.getD a (20 : Nat) (0 : Int)) &&& BitVec.ofInt (IntKind.bits IntKind.u8) (List.getD b (20 : Nat) (0 : Int)))) : Int) == List.getD a (20 : Nat) (0 : Int) && (IntKind.wrap IntKind.u8 (↑(BitVec.toNat (BitVec.ofInt (IntKind.bits IntKind.u8) (List.getD a (21 : Nat) (0 : Int)) &&& BitVec.ofInt (IntKind.bits IntKind.u8) (List.getD b (21 : Nat) (0 : Int)))) : Int) == List.getD a (21 : Nat) (0 : Int) && (IntKind.wrap IntKind.u8 (↑(BitVec.toNat (BitVec.ofInt (IntKind.bits IntKind.u8) (List.getD a (22 : Nat) (0 : Int)) &&& BitVec.ofInt (IntKind.bits IntKind.u8) (List.getD b (22 : Nat) (0 : Int)))) : Int) == List.getD a (22 : Nat) (0 : Int) && (IntKind.wrap IntKind.u8 (↑(BitVec.toNat (BitVec.ofInt (IntKind.bits IntKind.u8) (List.getD a (23 : Nat) (0 : Int)) &&& BitVec.ofInt (IntKind.bits IntKind.u8) (List.getD b (23 : Nat) (0 : Int)))) : Int) == List.getD a (23 : Nat) (0 : Int) && (IntKind.wrap IntKind.u8 (↑(BitVec.toNat (BitVec.ofInt (IntKind.bits IntKind.u8) (List.getD a (24 : Nat) (0 : Int)) &&& BitVec.ofInt (IntKind.bits IntKind.u8) (List.getD b (24 : Nat) (0 : Int)))) : Int) == List.getD a (24 : Nat) (0 : Int) && (IntKind.wrap IntKind.u8 (↑(BitVec.toNat (BitVec.ofInt (IntKind.bits IntKind.u8) (List.getD a (25 : Nat) (0 : Int)) &&& BitVec.ofInt (IntKind.bits IntKind.u8) (List.getD b (25 : Nat) (0 : Int)))) : Int) == List.getD a (25 : Nat) (0 : Int) && (IntKind.wrap IntKind.u8 (↑(BitVec.toNat (BitVec.ofInt (IntKind.bits IntKind.u8) (List.getD a (26 : Nat) (0 : Int)) &&& BitVec.ofInt (IntKind.bits IntKind.u8) (List.getD b (26 : Nat) (0 : Int)))) : Int) == List.getD a (26 : Nat) (0 : Int) && (IntKind.wrap IntKind.u8 (↑(BitVec.toNat (BitVec.ofInt (IntKind.bits IntKind.u8) (List.getD a (27 : Nat) (0 : Int)) &&& BitVec.ofInt (IntKind.bits IntKind.u8) (List.getD b (27 : Nat) (0 : Int)))) : Int) == List.getD a (27 : Nat) (0 : Int) && (IntKind.wrap IntKind.u8 (↑(BitVec.toNat (BitVec.ofInt (IntKind.bits IntKind.u8) (List.getD a (28 : Nat) (0 : Int)) &&& BitVec.ofInt (IntKind.bits IntKind.u8) (List.getD b (28 : Nat) (0 : Int)))) : Int) == List.getD a (28 : Nat) (0 : Int) && IntKind.wrap IntKind.u8 (↑(BitVec.toNat (BitVec.ofInt (IntKind.bits IntKind.u8) (List.getD a (29 : Nat) (0 : Int)) &&& BitVec.ofInt (IntKind.bits IntKind.u8) (List.getD b (29 : Nat) (0 : Int)))) : Int) == List.getD a (29 : Nat) (0 : Int)))))))))))))))))))))))))))))) = true → (Value.agg (Array.mk (catsL a)) = Value.agg (Array.mk (catsL a)) ∧ Value.agg (Array.mk (catsL a)) = Value.agg (Array.mk (catsL a)) ∧ Value.agg (Array.mk (catsL a)) = Value.agg (Array.mk (catsL a)) ∧ Value.agg (Array.mk (catsL a)) = Value.agg (Array.mk (catsL a)) ∧ Value.agg (Array.mk (catsL a)) = Value.agg (Array.mk (catsL a))) ∧ Value.bool true = Value.bool (withinC a b)) ∧ ((IntKind.wrap IntKind.u8 (↑(BitVec.toNat (BitVec.ofInt (IntKind.bits IntKind.u8) (List.getD a (0 : Nat) (0 : Int)) &&& BitVec.ofInt (IntKind.bits IntKind.u8) (List.getD b (0 : Nat) (0 : Int)))) : Int) == List.getD a (0 : Nat) (0 : Int) && (IntKind.wrap IntKind.u8 (↑(BitVec.toNat (BitVec.ofInt (IntKind.bits IntKind.u8) (List.getD a (1 : Nat) (0 : Int)) &&& BitVec.ofInt (IntKind.bits IntKind.u8) (List.getD b (1 : Nat) (0 : Int)))) : Int) == List.getD a (1 : Nat) (0 : Int) && (IntKind.wrap IntKind.u8 (↑(BitVec.toNat (BitVec.ofInt (IntKind.bits IntKind.u8) (List.getD a (2 : Nat) (0 : Int)) &&& BitVec.ofInt (IntKind.bits IntKind.u8) (List.getD b (2 : Nat) (0 : Int)))) : Int) == List.getD a (2 : Nat) (0 : Int) && (IntKind.wrap IntKind.u8 (↑(BitVec.toNat (BitVec.ofInt (IntKind.bits IntKind.u8) (List.getD a (3 : Nat) (0 : Int)) &&& BitVec.ofInt (IntKind.bits IntKind.u8) (List.getD b (3 : Nat) (0 : Int)))) : Int) == List.getD a (3 : Nat) (0 : Int) && (IntKind.wrap IntKind.u8 (↑(BitVec.toNat (BitVec.ofInt (IntKind.bits IntKind.u8) (List.getD a (4 : Nat) (0 : Int)) &&& BitVec.ofInt (IntKind.bits IntKind.u8) (List.getD b (4 : Nat) (0 : Int)))) : Int) == List.getD a (4 : Nat) (0 : Int) && (IntKind.wrap IntKind.u8 (↑(BitVec.toNat (BitVec.ofInt (IntKind.bits IntKind.u8) (List.getD a (5 : Nat) (0 : Int)) &&& BitVec.ofInt (IntKind.bits IntKind.u8) (List.getD b (5 : Nat) (0 : Int)))) : Int) == List.getD a (5 : Nat) (0 : Int) && (IntKind.wrap IntKind.u8 (↑(BitVec.toNat (BitVec.ofInt (IntKind.bits IntKind.u8) (List.getD a (6 : Nat) (0 : Int)) &&& BitVec.ofInt (IntKind.bits IntKind.u8) (List.getD b (6 : Nat) (0 : Int)))) : Int) == List.getD a (6 : Nat) (0 : Int) && (IntKind.wrap IntKind.u8 (↑(BitVec.toNat (BitVec.ofInt (IntKind.bits IntKind.u8) (List.getD a (7 : Nat) (0 : Int)) &&& BitVec.ofInt (IntKind.bits IntKind.u8) (List.getD b (7 : Nat) (0 : Int)))) : Int) == List.getD a (7 : Nat) (0 : Int) && (IntKind.wrap IntKind.u8 (↑(BitVec.toNat (BitVec.ofInt (IntKind.bits IntKind.u8) (List.getD a (8 : Nat) (0 : Int)) &&& BitVec.ofInt (IntKind.bits IntKind.u8) (List.getD b (8 : Nat) (0 : Int)))) : Int) == List.getD a (8 : Nat) (0 : Int) && (IntKind.wrap IntKind.u8 (↑(BitVec.toNat (BitVec.ofInt (IntKind.bits IntKind.u8) (List.getD a (9 : Nat) (0 : Int)) &&& BitVec.ofInt (IntKind.bits IntKind.u8) (List.getD b (9 : Nat) (0 : Int)))) : Int) == List.getD a (9 : Nat) (0 : Int) && (IntKind.wrap IntKind.u8 (↑(BitVec.toNat (BitVec.ofInt (IntKind.bits IntKind.u8) (List.getD a (10 : Nat) (0 : Int)) &&& BitVec.ofInt (IntKind.bits IntKind.u8) (List.getD b (10 : Nat) (0 : Int)))) : Int) == List.getD a (10 : Nat) (0 : Int) && (IntKind.wrap IntKind.u8 (↑(BitVec.toNat (BitVec.ofInt (IntKind.bits IntKind.u8) (List.getD a (11 : Nat) (0 : Int)) &&& BitVec.ofInt (IntKind.bits IntKind.u8) (List.getD b (11 : Nat) (0 : Int)))) : Int) == List.getD a (11 : Nat) (0 : Int) && (IntKind.wrap IntKind.u8 (↑(BitVec.toNat (BitVec.ofInt (IntKind.bits IntKind.u8) (List.getD a (12 : Nat) (0 : Int)) &&& BitVec.ofInt (IntKind.bits IntKind.u8) (List.getD b (12 : Nat) (0 : Int)))) : Int) == List.getD a (12 : Nat) (0 : Int) && (IntKind.wrap IntKind.u8 (↑(BitVec.toNat (BitVec.ofInt (IntKind.bits IntKind.u8) (List.getD a (13 : Nat) (0 : Int)) &&& BitVec.ofInt (IntKind.bits IntKind.u8) (List.getD b (13 : Nat) (0 : Int)))) : Int) == List.getD a (13 : Nat) (0 : Int) && (IntKind.wrap IntKind.u8 (↑(BitVec.toNat (BitVec.ofInt (IntKind.bits IntKind.u8) (List.getD a (14 : Nat) (0 : Int)) &&& BitVec.ofInt (IntKind.bits IntKind.u8) (List.getD b (14 : Nat) (0 : Int)))) : Int) == List.getD a (14 : Nat) (0 : Int) && (IntKind.wrap IntKind.u8 (↑(BitVec.toNat (BitVec.ofInt (IntKind.bits IntKind.u8) (List.getD a (15 : Nat) (0 : Int)) &&& BitVec.ofInt (IntKind.bits IntKind.u8) (List.getD b (15 : Nat) (0 : Int)))) : Int) == List.getD a (15 : Nat) (0 : Int) && (IntKind.wrap IntKind.u8 (↑(BitVec.toNat (BitVec.ofInt (IntKind.bits IntKind.u8) (List.getD a (16 : Nat) (0 : Int)) &&& BitVec.ofInt (IntKind.bits IntKind.u8) (List.getD b (16 : Nat) (0 : Int)))) : Int) == List.getD a (16 : Nat) (0 : Int) && (IntKind.wrap IntKind.u8 (↑(BitVec.toNat (BitVec.ofInt (IntKind.bits IntKind.u8) (List.getD a (17 : Nat) (0 : Int)) &&& BitVec.ofInt (IntKind.bits IntKind.u8) (List.getD b (17 : Nat) (0 : Int)))) : Int) == List.getD a (17 : Nat) (0 : Int) && (IntKind.wrap IntKind.u8 (↑(BitVec.toNat (BitVec.ofInt (IntKind.bits IntKind.u8) (List.getD a (18 : Nat) (0 : Int)) &&& BitVec.ofInt (IntKind.bits IntKind.u8) (List.getD b (18 : Nat) (0 : Int)))) : Int) == List.getD a (18 : Nat) (0 : Int) && (IntKind.wrap IntKind.u8 (↑(BitVec.toNat (BitVec.ofInt (IntKind.bits IntKind.u8) (List.getD a (19 : Nat) (0 : Int)) &&& BitVec.ofInt (IntKind.bits IntKind.u8) (List.getD b (19 : Nat) (0 : Int)))) : Int) == List.getD a (19 : Nat) (0 : Int) && (IntKind.wrap IntKind.u8 (↑(BitVec.toNat (BitVec.ofInt (IntKind.bits IntKind.u8) (List.getD a (20 : Nat) (0 : Int)) &&& BitVec.ofInt (IntKind.bits IntKind.u8) (List.getD b (20 : Nat) (0 : Int)))) : Int) == List.getD a (20 : Nat) (0 : Int) && (IntKind.wrap IntKind.u8 (↑(BitVec.toNat (BitVec.ofInt (IntKind.bits IntKind.u8) (List.getD a (21 : Nat) (0 : Int)) &&& BitVec.ofInt (IntKind.bits IntKind.u8) (List.getD b (21 : Nat) (0 : Int)))) : Int) == List.getD a (21 : Nat) (0 : Int) && (IntKind.wrap IntKind.u8 (↑(BitVec.toNat (BitVec.ofInt (IntKind.bits IntKind.u8) (List.getD a (22 : Nat) (0 : Int)) &&& BitVec.ofInt (IntKind.bits IntKind.u8) (List.getD b (22 : Nat) (0 : Int)))) : Int) == List.getD a (22 : Nat) (0 : Int) && (IntKind.wrap IntKind.u8 (↑(BitVec.toNat (BitVec.ofInt (IntKind.bits IntKind.u8) (List.getD a (23 : Nat) (0 : Int)) &&& BitVec.ofInt (IntKind.bits IntKind.u8) (List.getD b (23 : Nat) (0 : Int)))) : Int) == List.getD a (23 : Nat) (0 : Int) && (IntKind.wrap IntKind.u8 (↑(BitVec.toNat (BitVec.ofInt (IntKind.bits IntKind.u8) (List.getD a (24 : Nat) (0 : Int)) &&& BitVec.ofInt (IntKind.bits IntKind.u8) (List.getD b (24 : Nat) (0 : Int)))) : Int) == List.getD a (24 : Nat) (0 : Int) && (IntKind.wrap IntKind.u8 (↑(BitVec.toNat (BitVec.ofInt (IntKind.bits IntKind.u8) (List.getD a (25 : Nat) (0 : Int)) &&& BitVec.ofInt (IntKind.bits IntKind.u8) (List.getD b (25 : Nat) (0 : Int)))) : Int) == List.getD a (25 : Nat) (0 : Int) && (IntKind.wrap IntKind.u8 (↑(BitVec.toNat (BitVec.ofInt (IntKind.bits IntKind.u8) (List.getD a (26 : Nat) (0 : Int)) &&& BitVec.ofInt (IntKind.bits IntKind.u8) (List.getD b (26 : Nat) (0 : Int)))) : Int) == List.getD a (26 : Nat) (0 : Int) && (IntKind.wrap IntKind.u8 (↑(BitVec.toNat (BitVec.ofInt (IntKind.bits IntKind.u8) (List.getD a (27 : Nat) (0 : Int)) &&& BitVec.ofInt (IntKind.bits IntKind.u8) (List.getD b (27 : Nat) (0 : Int)))) : Int) == List.getD a (27 : Nat) (0 : Int) && (IntKind.wrap IntKind.u8 (↑(BitVec.toNat (BitVec.ofInt (IntKind.bits IntKind.u8) (List.getD a (28 : Nat) (0 : Int)) &&& BitVec.ofInt (IntKind.bits IntKind.u8) (List.getD b (28 : Nat) (0 : Int)))) : Int) == List.getD a (28 : Nat) (0 : Int) && IntKind.wrap IntKind.u8 (↑(BitVec.toNat (BitVec.ofInt (IntKind.bits IntKind.u8) (List.getD a (29 : Nat) (0 : Int)) &&& BitVec.ofInt (IntKind.bits IntKind.u8) (List.getD b (29 : Nat) (0 : Int)))) : Int) == List.getD a (29 : Nat) (0 : Int)))))))))))))))))))))))))))))) = false → (Value.agg (Array.mk (catsL a)) = Value.agg (Array.mk (catsL a)) ∧ Value.agg (Array.mk (catsL a)) = Value.agg (Array.mk (catsL a)) ∧ Value.agg (Array.mk (catsL a)) = Value.agg (Array.mk (catsL a)) ∧ Value.agg (Array.mk (catsL a)) = Value.agg (Array.mk (catsL a)) ∧ Value.agg (Array.mk (catsL a)) = Value.agg (Array.mk (catsL a))) ∧ Value.bool false = Value.bool (withinC a b))) (by kernel_rfl) (by
    have e : List.range 30 = [0, 1, 2, 3, 4, 5, 6, 7, 8, 9, 10, 11, 12, 13, 14, 15, 16, 17, 18, 19, 20, 21, 22, 23, 24, 25, 26, 27, 28, 29] := rfl
    refine ⟨trivial, fun h => ⟨by simp only [and_self], congrArg Value.bool (h.symm.trans ?_)⟩, fun h => ⟨by simp only [and_self], congrArg Value.bool (h.symm.trans ?_)⟩⟩
    all_goals (rw [withinC, e]; simp only [List.all_cons, List.all_nil, Bool.and_true]; rfl))
end Go.Proofs.Ytepijhnfeafmaaa

end
section
/- Labels and prefixes, compared: by the program's types. -/
set_option maxRecDepth 100000
set_option linter.unusedVariables false
set_option linter.unusedSimpArgs false
namespace Go.Proofs.Ytepijhnfeafmaaa
open Go Go.Ideal
theorem lblEq_eqD (x y : Lbl) : eqD Try.prog 10000 44 (lblV x) (lblV y) = some (lblEq x y) := by kernel_rfl
theorem pfxEq_eqD (x y : Pfx) : eqD Try.prog 10000 48 (pfxV x) (pfxV y) = some (pfxEq x y) := by kernel_rfl
end Go.Proofs.Ytepijhnfeafmaaa

end
section
/- What the functions of labels answer. -/
set_option linter.unusedVariables false
set_option linter.unusedSimpArgs false
set_option maxRecDepth 100000
namespace Go.Proofs.Ytepijhnfeafmaaa
open Go Go.Ideal
def rightL (x : Lbl) : Bool := decide (0 ≤ x.level) && decide (x.level ≤ 255)
def domL (x y : Lbl) : Bool := decide (y.level ≤ x.level) && withinC y.cats x.cats
def inL (x lo hi : Lbl) : Bool := domL x lo && domL hi x
theorem lblRight_w (x : Lbl) : CallK Try.prog 142 [lblV x] (.bool (rightL x)) := CallK.via progOK (pfs []) [] 100 (Adv.split (6 : Nat) (Adv.split (10 : Nat) Adv.nil Adv.nil) Adv.nil) (by kernel_rfl) (by kernel_rfl) (p := (decide (Lbl.level x ≥ (0 : Int)) = true → (decide (Lbl.level x ≤ (255 : Int)) = true → Value.bool true = Value.bool (rightL x)) ∧ (decide (Lbl.level x ≤ (255 : Int)) = false → Value.bool false = Value.bool (rightL x))) ∧ (decide (Lbl.level x ≥ (0 : Int)) = false → Value.bool false = Value.bool (rightL x))) (by kernel_rfl) (by
    simp only [decide_eq_true_eq, decide_eq_false_iff_not, ge_iff_le]
    refine ⟨fun h0 => ⟨fun h1 => ?_, fun h1 => ?_⟩, fun h0 => ?_⟩
    · unfold rightL; rw [decide_eq_true h0, decide_eq_true h1]; rfl
    · unfold rightL; rw [decide_eq_true h0, decide_eq_false h1]; rfl
    · unfold rightL; rw [decide_eq_false h0]; rfl)
theorem dom_w (x y : Lbl) : CallK Try.prog 122 [lblV x, lblV y] (.bool (domL x y)) := CallK.via progOK (pfs [145]) [] 100 (Adv.split (9 : Nat) (Adv.purs (15 : Nat) (withinC (Lbl.cats y) (Lbl.cats x)) Adv.nil Adv.nil) Adv.nil) (by kernel_rfl) (by kernel_rfl) (p := (decide (Lbl.level x ≥ Lbl.level y) = true → CallK Try.prog (nat_lit 145) [Value.agg (Array.mk (catsL (Lbl.cats y))), Value.agg (Array.mk (catsL (Lbl.cats x)))] (Value.bool (withinC (Lbl.cats y) (Lbl.cats x))) ∧ (withinC (Lbl.cats y) (Lbl.cats x) = true → Value.bool true = Value.bool (domL x y)) ∧ (withinC (Lbl.cats y) (Lbl.cats x) = false → Value.bool false = Value.bool (domL x y))) ∧ (decide (Lbl.level x ≥ Lbl.level y) = false → Value.bool false = Value.bool (domL x y))) (by kernel_rfl) (by
    simp only [decide_eq_true_eq, decide_eq_false_iff_not, ge_iff_le]
    refine ⟨fun h0 => ⟨within_w _ _, fun h1 => ?_, fun h1 => ?_⟩, fun h0 => ?_⟩
    · unfold domL; rw [decide_eq_true h0, h1]; rfl
    · unfold domL; rw [decide_eq_true h0, h1]; rfl
    · unfold domL; rw [decide_eq_false h0]; rfl)
theorem in_w (x lo hi : Lbl) : CallK Try.prog 117 [lblV x, lblV lo, lblV hi] (.bool (inL x lo hi)) := CallK.via progOK (pfs [122]) [] 100 (Adv.purs (8 : Nat) (domL x lo) (Adv.purs (12 : Nat) (domL hi x) Adv.nil Adv.nil) Adv.nil) (by kernel_rfl) (by kernel_rfl) (p := CallK Try.prog (nat_lit 122) [Value.agg (Array.mk (lblL x)), Value.agg (Array.mk (lblL lo))] (Value.bool (domL x lo)) ∧ (domL x lo = true → CallK Try.prog (nat_lit 122) [Value.agg (Array.mk (lblL hi)), Value.agg (Array.mk (lblL x))] (Value.bool (domL hi x)) ∧ (domL hi x = true → Value.bool true = Value.bool (inL x lo hi)) ∧ (domL hi x = false → Value.bool false = Value.bool (inL x lo hi))) ∧ (domL x lo = false → Value.bool false = Value.bool (inL x lo hi))) (by kernel_rfl) (by
    refine ⟨dom_w _ _, fun h0 => ⟨dom_w _ _, fun h1 => ?_, fun h1 => ?_⟩, fun h0 => ?_⟩
    · unfold inL; rw [h0, h1]; rfl
    · unfold inL; rw [h0, h1]; rfl
    · unfold inL; rw [h0]; rfl)
theorem refDom_w (x y : Lbl) (hx : CatsOK x.cats) (hy : CatsOK y.cats) : CallK Try.prog 76 [lblV x, lblV y] (.bool (domL x y)) := CallK.via progOK (pfs [118]) [] 100 (Adv.split (9 : Nat) (Adv.purs (15 : Nat) (withinC (Lbl.cats y) (Lbl.cats x)) Adv.nil Adv.nil) Adv.nil) (by kernel_rfl) (by kernel_rfl) (p := (decide (Lbl.level x ≥ Lbl.level y) = true → CallK Try.prog (nat_lit 118) [Value.agg (Array.mk (catsL (Lbl.cats y))), Value.agg (Array.mk (catsL (Lbl.cats x)))] (Value.bool (withinC (Lbl.cats y) (Lbl.cats x))) ∧ (withinC (Lbl.cats y) (Lbl.cats x) = true → Value.bool true = Value.bool (domL x y)) ∧ (withinC (Lbl.cats y) (Lbl.cats x) = false → Value.bool false = Value.bool (domL x y))) ∧ (decide (Lbl.level x ≥ Lbl.level y) = false → Value.bool false = Value.bool (domL x y))) (by kernel_rfl) (by
    simp only [decide_eq_true_eq, decide_eq_false_iff_not, ge_iff_le]
    refine ⟨fun h0 => ⟨refWithin_w _ _ hy hx, fun h1 => ?_, fun h1 => ?_⟩, fun h0 => ?_⟩
    · unfold domL; rw [decide_eq_true h0, h1]; rfl
    · unfold domL; rw [decide_eq_true h0, h1]; rfl
    · unfold domL; rw [decide_eq_false h0]; rfl)
def findL (xs : List Lbl) (x : Lbl) : Int := match xs.findIdx? (fun y => lblEq y x) with
  | some i => i
  | none => -1
theorem findL_some {xs : List Lbl} {x : Lbl} {k : Nat} (hk : k < xs.length) (h : lblEq (xs.getD k default) x = true) (no : ∀ j, j < k → lblEq (xs.getD j default) x = false) : findL xs x = k := by
  have : xs.findIdx? (fun y => lblEq y x) = some k := by
    rw [List.findIdx?_eq_some_iff_getElem]
    refine ⟨hk, by simpa [List.getD, List.getElem?_eq_getElem hk] using h, fun j hj => ?_⟩
    have := no j hj
    have hj2 : j < xs.length := by omega
    simpa [List.getD, List.getElem?_eq_getElem hj2] using this
  unfold findL; rw [this]
theorem findL_none {xs : List Lbl} {x : Lbl} (no : ∀ j, j < xs.length → lblEq (xs.getD j default) x = false) : findL xs x = -1 := by
  have : xs.findIdx? (fun y => lblEq y x) = none := by
    rw [List.findIdx?_eq_none_iff]
    intro y hy
    obtain ⟨j, hj, e⟩ := List.getElem_of_mem hy
    have := no j hj
    simpa [List.getD, List.getElem?_eq_getElem hj, e] using this
  unfold findL; rw [this]
theorem lbls_part {xs : List Lbl} {k : Nat} (hk : k < xs.length) : (Ask.part (lblsL xs) ((((k : Int)).toNat * 31 : Nat) : Int).toNat 31 (lblL (xs.getD k default))).holds Try.prog := by
  have := cellsOf_part (P := Try.prog) (f := lblL) lblL_length default hk 0 31 (Nat.le_refl _) (lblL (xs.getD k default)) (by rw [List.drop_zero]; exact List.take_of_length_le (Nat.le_of_eq (lblL_length _)))
  rw [show ((((k : Int)).toNat * 31 : Nat) : Int).toNat = k * 31 + 0 by omega]
  exact this
theorem refFind_w (xs : List Lbl) (x : Lbl) (hl : xs.length ≤ 9223372036854775807) : CallK Try.prog 110 [lblsV xs, lblV x] (.int .i64 (findL xs x)) := CallK.via progOK (pfs []) [] 100 (Adv.loop (6 : Nat) (fun (k : Nat) => [((5 : Nat), Value.int IntKind.i64 (↑k : Int))]) ((fun (h : Heap) (x : Nat) => h) (Heap.mk (nat_lit 1) (Trie.node (some (Blk.cells (lblL x) (nat_lit 44) Mode.fix)) Trie.leaf Trie.leaf))) (fun (i k : Nat) => i + k = List.length xs ∧ ∀ (j : Nat), j < k → lblEq (List.getD xs j default) x = false) (List.length xs) (0 : Nat) fun (i6 s6 : Nat) (j6 : Nat → Value) => Adv.split (12 : Nat) (Adv.chk (18 : Nat) none (Adv.chk (19 : Nat) (some (Value.agg (Array.mk (lblL (List.getD xs s6 default))))) (Adv.chks (21 : Nat) (some (Value.bool (lblEq (List.getD xs s6 default) x))) Adv.nil Adv.nil))) Adv.nil) (by kernel_rfl) (by kernel_rfl) (p := ((List.length xs + (0 : Nat) = List.length xs ∧ ∀ (j : Nat), j < (0 : Nat) → lblEq (List.getD xs j default) x = false) ∧ Value.int IntKind.i64 (0 : Int) = Value.int IntKind.i64 (0 : Int) ∧ Heap.mk (nat_lit 1) (Trie.node (some (Blk.cells (lblL x) (nat_lit 44) Mode.fix)) Trie.leaf Trie.leaf) = Heap.mk (nat_lit 1) (Trie.node (some (Blk.cells (lblL x) (nat_lit 44) Mode.fix)) Trie.leaf Trie.leaf)) ∧ ∀ (i6 s6 : Nat) (j6 : Nat → Value), (i6 + s6 = List.length xs ∧ ∀ (j : Nat), j < s6 → lblEq (List.getD xs j default) x = false) → (decide ((↑s6 : Int) < (↑(List.length xs) : Int)) = true → ((0 : Int) ≤ (↑s6 : Int) ∧ (↑s6 : Int) < (↑(List.length xs) : Int)) ∧ Ask.holds Try.prog (Ask.part (Array.toList (Array.mk (lblsL xs))) (Int.toNat (↑(Int.toNat (↑s6 : Int) * nat_lit 31) : Int)) (nat_lit 31) (lblL (List.getD xs s6 default))) ∧ Ask.holds Try.prog (Ask.eqv (nat_lit 44) (Value.agg (Array.mk (lblL (List.getD xs s6 default)))) (Value.agg (Array.mk (lblL x))) (lblEq (List.getD xs s6 default) x)) ∧ (lblEq (List.getD xs s6 default) x = true → Value.int IntKind.i64 (↑s6 : Int) = Value.int IntKind.i64 (findL xs x)) ∧ (lblEq (List.getD xs s6 default) x = false → ∃ (i6' : Nat), ∃ (s6' : Nat), i6' < i6 ∧ (i6' + s6' = List.length xs ∧ ∀ (j : Nat), j < s6' → lblEq (List.getD xs j default) x = false) ∧ Value.int IntKind.i64 (IntKind.wrap IntKind.i64 ((↑s6 : Int) + (1 : Int))) = Value.int IntKind.i64 (↑s6' : Int) ∧ (some (Blk.cells (lblL x) (nat_lit 44) Mode.fix) = some (Blk.cells (lblL x) (nat_lit 44) Mode.fix) ∧ True) ∧ true = true ∧ true = true ∧ True)) ∧ (decide ((↑s6 : Int) < (↑(List.length xs) : Int)) = false → Value.int IntKind.i64 (-1 : Int) = Value.int IntKind.i64 (findL xs x))) (by kernel_rfl) (by
    simp only [decide_eq_true_eq, decide_eq_false_iff_not, and_true, true_and, Value.int.injEq]
    refine ⟨⟨by omega, fun j hj => by omega⟩, fun i k j ⟨q1, q2⟩ => ⟨fun h1 => ⟨⟨by omega, h1⟩, lbls_part (by omega), lblEq_eqD _ _, fun h2 => ?_, fun h2 => ⟨i - 1, k + 1, by omega, ⟨by omega, fun j hj => ?_⟩, by rw [wrap_in (by omega) (by omega)]; rfl⟩⟩, fun h1 => ?_⟩⟩
    · exact (findL_some (by omega) h2 q2).symm
    · rcases Nat.lt_or_ge j k with h | h
      · exact q2 j h
      · obtain rfl : j = k := by omega
        exact h2
    · exact (findL_none fun j hj => q2 j (by omega)).symm)
end Go.Proofs.Ytepijhnfeafmaaa

end
section
/- What the functions of rules answer. -/
set_option linter.unusedVariables false
set_option linter.unusedSimpArgs false
set_option maxRecDepth 100000
namespace Go.Proofs.Ytepijhnfeafmaaa
open Go Go.Ideal
def spanB (lo hi : Int) : Bool := decide (0 ≤ lo) && decide (lo ≤ hi) && decide (hi ≤ 65535)
def quotaB (n : Int) : Bool := decide (1 ≤ n) && decide (n ≤ 1000)
def pfxR (p : Pfx) : Bool := rightB p.addr p.bits
def relabR (n : Int) (r : Relab) : Bool := decide (-1 ≤ r.inp) && decide (r.inp < 8) && decide (-1 ≤ r.label) && decide (r.label < n) && decide (-1 ≤ r.proto) && decide (r.proto < 256) && decide (0 ≤ r.to) && decide (r.to < n) && pfxR r.src && pfxR r.dst
def ruleR (r : Rule) : Bool := decide (-1 ≤ r.inp) && decide (r.inp < 8) && decide (-1 ≤ r.out) && decide (r.out < 8) && decide (-1 ≤ r.proto) && decide (r.proto < 256) && pfxR r.src && pfxR r.dst && spanB r.sportLo r.sportHi && spanB r.dportLo r.dportHi
theorem pfxRight_w (p : Pfx) : CallK Try.prog 106 [pfxV p] (.bool (pfxR p)) := right_w p.addr p.bits
theorem pfxRefRight_w (p : Pfx) (h : ∃ A : Nat, p.addr = A ∧ A < 2 ^ 32) : CallK Try.prog 64 [pfxV p] (.bool (pfxR p)) := by
  obtain ⟨A, e, hA⟩ := h
  have := refRight_w p.addr p.bits
  unfold pfxR
  rw [e] at this ⊢
  rw [right_eq A p.bits hA, ← e]
  rw [← e] at this
  exact this
theorem span_w (lo hi : Int) : CallK Try.prog 154 [.int .i64 lo, .int .i64 hi] (.bool (spanB lo hi)) := CallK.via progOK (pfs []) [] 100 (Adv.split (4 : Nat) (Adv.split (8 : Nat) (Adv.split (12 : Nat) Adv.nil Adv.nil) Adv.nil) Adv.nil) (by kernel_rfl) (by kernel_rfl) (p := (decide (lo ≥ (0 : Int)) = true → (decide (lo ≤ hi) = true → (decide (hi ≤ (65535 : Int)) = true → Value.bool true = Value.bool (spanB lo hi)) ∧ (decide (hi ≤ (65535 : Int)) = false → Value.bool false = Value.bool (spanB lo hi))) ∧ (decide (lo ≤ hi) = false → Value.bool false = Value.bool (spanB lo hi))) ∧ (decide (lo ≥ (0 : Int)) = false → Value.bool false = Value.bool (spanB lo hi))) (by kernel_rfl) (by
    simp only [spanB, Value.bool.injEq, decide_eq_true_eq, decide_eq_false_iff_not, ge_iff_le]
    refine ⟨fun h0 => ⟨fun h1 => ⟨fun h2 => ?_, fun h2 => ?_⟩, fun h1 => ?_⟩, fun h0 => ?_⟩ <;> simp only [*, decide_true, decide_false, Bool.and_true, Bool.and_false, Bool.true_and, Bool.false_and])
theorem refSpan_w (lo hi : Int) : CallK Try.prog 111 [.int .i64 lo, .int .i64 hi] (.bool (spanB lo hi)) := CallK.via progOK (pfs []) [] 100 (Adv.split (4 : Nat) (Adv.split (8 : Nat) (Adv.split (12 : Nat) Adv.nil Adv.nil) Adv.nil) Adv.nil) (by kernel_rfl) (by kernel_rfl) (p := (decide (lo ≥ (0 : Int)) = true → (decide (hi ≥ lo) = true → (decide (hi ≤ (65535 : Int)) = true → Value.bool true = Value.bool (spanB lo hi)) ∧ (decide (hi ≤ (65535 : Int)) = false → Value.bool false = Value.bool (spanB lo hi))) ∧ (decide (hi ≥ lo) = false → Value.bool false = Value.bool (spanB lo hi))) ∧ (decide (lo ≥ (0 : Int)) = false → Value.bool false = Value.bool (spanB lo hi))) (by kernel_rfl) (by
    simp only [spanB, Value.bool.injEq, decide_eq_true_eq, decide_eq_false_iff_not, ge_iff_le]
    refine ⟨fun h0 => ⟨fun h1 => ⟨fun h2 => ?_, fun h2 => ?_⟩, fun h1 => ?_⟩, fun h0 => ?_⟩ <;> simp only [*, decide_true, decide_false, Bool.and_true, Bool.and_false, Bool.true_and, Bool.false_and])
theorem quota_w (n : Int) : CallK Try.prog 65 [.int .i64 n] (.bool (quotaB n)) := CallK.via progOK (pfs []) [] 100 (Adv.split (4 : Nat) (Adv.split (7 : Nat) Adv.nil Adv.nil) Adv.nil) (by kernel_rfl) (by kernel_rfl) (p := (decide (n ≥ (1 : Int)) = true → (decide (n ≤ (1000 : Int)) = true → Value.bool true = Value.bool (quotaB n)) ∧ (decide (n ≤ (1000 : Int)) = false → Value.bool false = Value.bool (quotaB n))) ∧ (decide (n ≥ (1 : Int)) = false → Value.bool false = Value.bool (quotaB n))) (by kernel_rfl) (by
    simp only [quotaB, Value.bool.injEq, decide_eq_true_eq, decide_eq_false_iff_not, ge_iff_le]
    refine ⟨fun h0 => ⟨fun h1 => ?_, fun h1 => ?_⟩, fun h0 => ?_⟩ <;> simp only [*, decide_true, decide_false, Bool.and_true, Bool.and_false, Bool.true_and, Bool.false_and])
def PfxOK (p : Pfx) : Prop := ∃ A : Nat, p.addr = A ∧ A < 2 ^ 32
theorem refRelab_w (n : Int) (r : Relab) (h0 : PfxOK r.src) (h1 : PfxOK r.dst) : CallK Try.prog 62 [.int .i64 n, relabV r] (.bool (relabR n r)) := CallK.via progOK (pfs []) [] 100 (Adv.split (6 : Nat) (Adv.split (10 : Nat) (Adv.split (15 : Nat) (Adv.split (21 : Nat) (Adv.split (26 : Nat) (Adv.split (31 : Nat) (Adv.split (36 : Nat) (Adv.split (42 : Nat) (Adv.purs (47 : Nat) (pfxR (Relab.src r)) (Adv.purs (52 : Nat) (pfxR (Relab.dst r)) Adv.nil Adv.nil) Adv.nil) Adv.nil) Adv.nil) Adv.nil) Adv.nil) Adv.nil) Adv.nil) Adv.nil) Adv.nil) (by kernel_rfl) (by kernel_rfl) (p := (decide (Relab.inp r ≥ (-1 : Int)) = true → (decide (Relab.inp r ≤ (7 : Int)) = true → (decide (Relab.label r ≥ (-1 : Int)) = true → (decide (Relab.label r < n) = true → (decide (Relab.proto r ≥ (-1 : Int)) = true → (decide (Relab.proto r ≤ (255 : Int)) = true → (decide (Relab.to r ≥ (0 : Int)) = true → (decide (Relab.to r < n) = true → CallK Try.prog (nat_lit 64) [Value.agg (Array.mk (pfxL (Relab.src r)))] (Value.bool (pfxR (Relab.src r))) ∧ (pfxR (Relab.src r) = true → CallK Try.prog (nat_lit 64) [Value.agg (Array.mk (pfxL (Relab.dst r)))] (Value.bool (pfxR (Relab.dst r))) ∧ (pfxR (Relab.dst r) = true → Value.bool true = Value.bool (relabR n r)) ∧ (pfxR (Relab.dst r) = false → Value.bool false = Value.bool (relabR n r))) ∧ (pfxR (Relab.src r) = false → Value.bool false = Value.bool (relabR n r))) ∧ (decide (Relab.to r < n) = false → Value.bool false = Value.bool (relabR n r))) ∧ (decide (Relab.to r ≥ (0 : Int)) = false → Value.bool false = Value.bool (relabR n r))) ∧ (decide (Relab.proto r ≤ (255 : Int)) = false → Value.bool false = Value.bool (relabR n r))) ∧ (decide (Relab.proto r ≥ (-1 : Int)) = false → Value.bool false = Value.bool (relabR n r))) ∧ (decide (Relab.label r < n) = false → Value.bool false = Value.bool (relabR n r))) ∧ (decide (Relab.label r ≥ (-1 : Int)) = false → Value.bool false = Value.bool (relabR n r))) ∧ (decide (Relab.inp r ≤ (7 : Int)) = false → Value.bool false = Value.bool (relabR n r))) ∧ (decide (Relab.inp r ≥ (-1 : Int)) = false → Value.bool false = Value.bool (relabR n r))) (by kernel_rfl) (by
    simp only [Value.bool.injEq]
    repeat' (first | exact pfxRefRight_w _ (by assumption) | apply And.intro | intro)
    all_goals grind [relabR])
theorem relab_w (n : Int) (r : Relab) : CallK Try.prog 136 [.int .i64 n, relabV r] (.bool (relabR n r)) := CallK.via progOK (pfs []) [] 100 (Adv.split (15 : Nat) (Adv.split (19 : Nat) (Adv.split (33 : Nat) (Adv.split (37 : Nat) (Adv.split (51 : Nat) (Adv.split (55 : Nat) (Adv.split (70 : Nat) (Adv.split (74 : Nat) (Adv.purs (81 : Nat) (pfxR (Relab.src r)) (Adv.purs (86 : Nat) (pfxR (Relab.dst r)) Adv.nil Adv.nil) Adv.nil) Adv.nil) Adv.nil) Adv.nil) Adv.nil) Adv.nil) Adv.nil) Adv.nil) Adv.nil) (by kernel_rfl) (by kernel_rfl) (p := (decide (Relab.inp r ≥ (-1 : Int)) = true → (decide (Relab.inp r < (8 : Int)) = true → (decide (Relab.label r ≥ (-1 : Int)) = true → (decide (Relab.label r < n) = true → (decide (Relab.proto r ≥ (-1 : Int)) = true → (decide (Relab.proto r < (256 : Int)) = true → (decide (Relab.to r ≥ (0 : Int)) = true → (decide (Relab.to r < n) = true → CallK Try.prog (nat_lit 106) [Value.agg (Array.mk (pfxL (Relab.src r)))] (Value.bool (pfxR (Relab.src r))) ∧ (pfxR (Relab.src r) = true → CallK Try.prog (nat_lit 106) [Value.agg (Array.mk (pfxL (Relab.dst r)))] (Value.bool (pfxR (Relab.dst r))) ∧ (pfxR (Relab.dst r) = true → Value.bool true = Value.bool (relabR n r)) ∧ (pfxR (Relab.dst r) = false → Value.bool false = Value.bool (relabR n r))) ∧ (pfxR (Relab.src r) = false → Value.bool false = Value.bool (relabR n r))) ∧ (decide (Relab.to r < n) = false → Value.bool false = Value.bool (relabR n r))) ∧ (decide (Relab.to r ≥ (0 : Int)) = false → Value.bool false = Value.bool (relabR n r))) ∧ (decide (Relab.proto r < (256 : Int)) = false → Value.bool false = Value.bool (relabR n r))) ∧ (decide (Relab.proto r ≥ (-1 : Int)) = false → Value.bool false = Value.bool (relabR n r))) ∧ (decide (Relab.label r < n) = false → Value.bool false = Value.bool (relabR n r))) ∧ (decide (Relab.label r ≥ (-1 : Int)) = false → Value.bool false = Value.bool (relabR n r))) ∧ (decide (Relab.inp r < (8 : Int)) = false → Value.bool false = Value.bool (relabR n r))) ∧ (decide (Relab.inp r ≥ (-1 : Int)) = false → Value.bool false = Value.bool (relabR n r))) (by kernel_rfl) (by
    simp only [Value.bool.injEq]
    repeat' (first | exact pfxRight_w _ | apply And.intro | intro)
    all_goals grind [relabR])
theorem refRule_w (r : Rule) (h0 : PfxOK r.src) (h1 : PfxOK r.dst) : CallK Try.prog 63 [ruleV r] (.bool (ruleR r)) := CallK.via progOK (pfs []) [] 100 (Adv.split (7 : Nat) Adv.nil (Adv.split (11 : Nat) Adv.nil (Adv.split (16 : Nat) Adv.nil (Adv.split (21 : Nat) Adv.nil (Adv.split (26 : Nat) Adv.nil (Adv.split (31 : Nat) Adv.nil (Adv.purs (37 : Nat) (pfxR (Rule.src r)) (Adv.purs (41 : Nat) (pfxR (Rule.dst r)) (Adv.purs (48 : Nat) (spanB (Rule.sportLo r) (Rule.sportHi r)) (Adv.purs (55 : Nat) (spanB (Rule.dportLo r) (Rule.dportHi r)) Adv.nil Adv.nil) Adv.nil) Adv.nil) Adv.nil))))))) (by kernel_rfl) (by kernel_rfl) (p := (decide (Rule.inp r < (-1 : Int)) = true → Value.bool false = Value.bool (ruleR r)) ∧ (decide (Rule.inp r < (-1 : Int)) = false → (decide (Rule.inp r > (7 : Int)) = true → Value.bool false = Value.bool (ruleR r)) ∧ (decide (Rule.inp r > (7 : Int)) = false → (decide (Rule.out r < (-1 : Int)) = true → Value.bool false = Value.bool (ruleR r)) ∧ (decide (Rule.out r < (-1 : Int)) = false → (decide (Rule.out r > (7 : Int)) = true → Value.bool false = Value.bool (ruleR r)) ∧ (decide (Rule.out r > (7 : Int)) = false → (decide (Rule.proto r < (-1 : Int)) = true → Value.bool false = Value.bool (ruleR r)) ∧ (decide (Rule.proto r < (-1 : Int)) = false → (decide (Rule.proto r > (255 : Int)) = true → Value.bool false = Value.bool (ruleR r)) ∧ (decide (Rule.proto r > (255 : Int)) = false → CallK Try.prog (nat_lit 64) [Value.agg (Array.mk (pfxL (Rule.src r)))] (Value.bool (pfxR (Rule.src r))) ∧ (pfxR (Rule.src r) = true → CallK Try.prog (nat_lit 64) [Value.agg (Array.mk (pfxL (Rule.dst r)))] (Value.bool (pfxR (Rule.dst r))) ∧ (pfxR (Rule.dst r) = true → CallK Try.prog (nat_lit 111) [Value.int IntKind.i64 (Rule.sportLo r), Value.int IntKind.i64 (Rule.sportHi r)] (Value.bool (spanB (Rule.sportLo r) (Rule.sportHi r))) ∧ (spanB (Rule.sportLo r) (Rule.sportHi r) = true → CallK Try.prog (nat_lit 111) [Value.int IntKind.i64 (Rule.dportLo r), Value.int IntKind.i64 (Rule.dportHi r)] (Value.bool (spanB (Rule.dportLo r) (Rule.dportHi r))) ∧ (spanB (Rule.dportLo r) (Rule.dportHi r) = true → Value.bool true = Value.bool (ruleR r)) ∧ (spanB (Rule.dportLo r) (Rule.dportHi r) = false → Value.bool false = Value.bool (ruleR r))) ∧ (spanB (Rule.sportLo r) (Rule.sportHi r) = false → Value.bool false = Value.bool (ruleR r))) ∧ (pfxR (Rule.dst r) = false → Value.bool false = Value.bool (ruleR r))) ∧ (pfxR (Rule.src r) = false → Value.bool false = Value.bool (ruleR r))))))))) (by kernel_rfl) (by
    simp only [Value.bool.injEq]
    repeat' (first | exact pfxRefRight_w _ (by assumption) | exact refSpan_w _ _ | apply And.intro | intro)
    all_goals grind [ruleR])
end Go.Proofs.Ytepijhnfeafmaaa

end
section
/- What the functions of rules answer: a rule is right. -/
set_option linter.unusedVariables false
set_option linter.unusedSimpArgs false
set_option maxRecDepth 100000
namespace Go.Proofs.Ytepijhnfeafmaaa
open Go Go.Ideal
theorem ruleIn_w (n most : Int) : CallK Try.prog 152 [.int .i64 n, .int .i64 most] (.bool (decide (-1 ≤ n) && decide (n ≤ most))) := CallK.via progOK (pfs []) [] 100 (Adv.split (4 : Nat) (Adv.split (8 : Nat) Adv.nil Adv.nil) Adv.nil) (by kernel_rfl) (by kernel_rfl) (p := (decide (n ≥ (-1 : Int)) = true → (decide (n ≤ most) = true → Value.bool true = Value.bool (decide ((-1 : Int) ≤ n) && decide (n ≤ most))) ∧ (decide (n ≤ most) = false → Value.bool false = Value.bool (decide ((-1 : Int) ≤ n) && decide (n ≤ most)))) ∧ (decide (n ≥ (-1 : Int)) = false → Value.bool false = Value.bool (decide ((-1 : Int) ≤ n) && decide (n ≤ most)))) (by kernel_rfl) (by
    simp only [Value.bool.injEq]
    repeat' (first | apply And.intro | intro)
    all_goals grind)
theorem all7_w (a b c d e f g : Bool) : CallK Try.prog 153 [vsl 7 (Array.mk [.bool a, .bool b, .bool c, .bool d, .bool e, .bool f, .bool g])] (.bool (a && b && c && d && e && f && g)) := CallK.via progOK (pfs []) [] 100 (Adv.split (31 : Nat) (Adv.split (49 : Nat) (Adv.split (67 : Nat) (Adv.split (85 : Nat) (Adv.split (103 : Nat) (Adv.split (121 : Nat) (Adv.split (139 : Nat) Adv.nil Adv.nil) Adv.nil) Adv.nil) Adv.nil) Adv.nil) Adv.nil) Adv.nil) (by kernel_rfl) (by kernel_rfl) (p := (a = true → (b = true → (c = true → (d = true → (e = true → (f = true → (g = true → Value.bool true = Value.bool (a && b && c && d && e && f && g)) ∧ (g = false → Value.bool false = Value.bool (a && b && c && d && e && f && g))) ∧ (f = false → Value.bool false = Value.bool (a && b && c && d && e && f && g))) ∧ (e = false → Value.bool false = Value.bool (a && b && c && d && e && f && g))) ∧ (d = false → Value.bool false = Value.bool (a && b && c && d && e && f && g))) ∧ (c = false → Value.bool false = Value.bool (a && b && c && d && e && f && g))) ∧ (b = false → Value.bool false = Value.bool (a && b && c && d && e && f && g))) ∧ (a = false → Value.bool false = Value.bool (a && b && c && d && e && f && g))) (by kernel_rfl) (by
    simp only [Value.bool.injEq]
    repeat' (first | apply And.intro | intro)
    all_goals grind)
theorem rule_w (r : Rule) : CallK Try.prog 139 [ruleV r] (.bool (ruleR r)) := CallK.via progOK (pfs [152, 106, 154]) [] 100 (Adv.pur (9 : Nat) (Value.bool (decide ((-1 : Int) ≤ Rule.inp r) && decide (Rule.inp r ≤ (7 : Int)))) (Adv.pur (13 : Nat) (Value.bool (decide ((-1 : Int) ≤ Rule.out r) && decide (Rule.out r ≤ (7 : Int)))) (Adv.pur (17 : Nat) (Value.bool (decide ((-1 : Int) ≤ Rule.proto r) && decide (Rule.proto r ≤ (255 : Int)))) (Adv.pur (20 : Nat) (Value.bool (pfxR (Rule.src r))) (Adv.pur (23 : Nat) (Value.bool (pfxR (Rule.dst r))) (Adv.pur (28 : Nat) (Value.bool (spanB (Rule.sportLo r) (Rule.sportHi r))) (Adv.pur (33 : Nat) (Value.bool (spanB (Rule.dportLo r) (Rule.dportHi r))) (Adv.bors (35 : Nat) (decide ((-1 : Int) ≤ Rule.inp r) && decide (Rule.inp r ≤ (7 : Int)) && (decide ((-1 : Int) ≤ Rule.out r) && decide (Rule.out r ≤ (7 : Int))) && (decide ((-1 : Int) ≤ Rule.proto r) && decide (Rule.proto r ≤ (255 : Int))) && pfxR (Rule.src r) && pfxR (Rule.dst r) && spanB (Rule.sportLo r) (Rule.sportHi r) && spanB (Rule.dportLo r) (Rule.dportHi r)) Adv.nil Adv.nil)))))))) (by kernel_rfl) (by kernel_rfl) (p := CallK Try.prog (nat_lit 152) [Value.int IntKind.i64 (Rule.inp r), Value.int IntKind.i64 (7 : Int)] (Value.bool (decide ((-1 : Int) ≤ Rule.inp r) && decide (Rule.inp r ≤ (7 : Int)))) ∧ CallK Try.prog (nat_lit 152) [Value.int IntKind.i64 (Rule.out r), Value.int IntKind.i64 (7 : Int)] (Value.bool (decide ((-1 : Int) ≤ Rule.out r) && decide (Rule.out r ≤ (7 : Int)))) ∧ CallK Try.prog (nat_lit 152) [Value.int IntKind.i64 (Rule.proto r), Value.int IntKind.i64 (255 : Int)] (Value.bool (decide ((-1 : Int) ≤ Rule.proto r) && decide (Rule.proto r ≤ (255 : Int)))) ∧ CallK Try.prog (nat_lit 106) [Value.agg (Array.mk (pfxL (Rule.src r)))] (Value.bool (pfxR (Rule.src r))) ∧ CallK Try.prog (nat_lit 106) [Value.agg (Array.mk (pfxL (Rule.dst r)))] (Value.bool (pfxR (Rule.dst r))) ∧ CallK Try.prog (nat_lit 154) [Value.int IntKind.i64 (Rule.sportLo r), Value.int IntKind.i64 (Rule.sportHi r)] (Value.bool (spanB (Rule.sportLo r) (Rule.sportHi r))) ∧ CallK Try.prog (nat_lit 154) [Value.int IntKind.i64 (Rule.dportLo r), Value.int IntKind.i64 (Rule.dportHi r)] (Value.bool (spanB (Rule.dportLo r) (Rule.dportHi r))) ∧ CallK Try.prog (nat_lit 153) [Value.iface (nat_lit 1000000) (Value.tuple (Array.mk [Value.int IntKind.i64 (7 : Int), Value.agg (Array.mk [Value.bool (decide ((-1 : Int) ≤ Rule.inp r) && decide (Rule.inp r ≤ (7 : Int))), Value.bool (decide ((-1 : Int) ≤ Rule.out r) && decide (Rule.out r ≤ (7 : Int))), Value.bool (decide ((-1 : Int) ≤ Rule.proto r) && decide (Rule.proto r ≤ (255 : Int))), Value.bool (pfxR (Rule.src r)), Value.bool (pfxR (Rule.dst r)), Value.bool (spanB (Rule.sportLo r) (Rule.sportHi r)), Value.bool (spanB (Rule.dportLo r) (Rule.dportHi r))])]))] (Value.bool (decide ((-1 : Int) ≤ Rule.inp r) && decide (Rule.inp r ≤ (7 : Int)) && (decide ((-1 : Int) ≤ Rule.out r) && decide (Rule.out r ≤ (7 : Int))) && (decide ((-1 : Int) ≤ Rule.proto r) && decide (Rule.proto r ≤ (255 : Int))) && pfxR (Rule.src r) && pfxR (Rule.dst r) && spanB (Rule.sportLo r) (Rule.sportHi r) && spanB (Rule.dportLo r) (Rule.dportHi r))) ∧ ((decide ((-1 : Int) ≤ Rule.inp r) && decide (Rule.inp r ≤ (7 : Int)) && (decide ((-1 : Int) ≤ Rule.out r) && decide (Rule.out r ≤ (7 : Int))) && (decide ((-1 : Int) ≤ Rule.proto r) && decide (Rule.proto r ≤ (255 : Int))) && pfxR (Rule.src r) && pfxR (Rule.dst r) && spanB (Rule.sportLo r) (Rule.sportHi r) && spanB (Rule.dportLo r) (Rule.dportHi r)) = true → True ∧ Value.bool true = Value.bool (ruleR r)) ∧ ((decide ((-1 : Int) ≤ Rule.inp r) && decide (Rule.inp r ≤ (7 : Int)) && (decide ((-1 : Int) ≤ Rule.out r) && decide (Rule.out r ≤ (7 : Int))) && (decide ((-1 : Int) ≤ Rule.proto r) && decide (Rule.proto r ≤ (255 : Int))) && pfxR (Rule.src r) && pfxR (Rule.dst r) && spanB (Rule.sportLo r) (Rule.sportHi r) && spanB (Rule.dportLo r) (Rule.dportHi r)) = false → True ∧ Value.bool false = Value.bool (ruleR r))) (by kernel_rfl) (by
    simp only [Value.bool.injEq]
    repeat' (first | exact ruleIn_w _ _ | exact pfxRight_w _ | exact span_w _ _ | exact all7_w _ _ _ _ _ _ _ | apply And.intro | intro)
    all_goals grind [ruleR])
end Go.Proofs.Ytepijhnfeafmaaa

end
