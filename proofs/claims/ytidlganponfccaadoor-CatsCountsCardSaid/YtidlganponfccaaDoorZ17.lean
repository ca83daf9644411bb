/- Texts packed together: CAddrLaw CCatsLaw CReadsD. -/
import Derived.WalkArith
import Derived.Test.YtidlganponfccaaDoorZ16
section
/- The plain law of addresses and prefixes: no program in sight. -/
set_option linter.unusedVariables false
set_option linter.unusedSimpArgs false
set_option linter.unusedVariables false
set_option linter.unusedSimpArgs false
namespace Go.Proofs.YtidlganponfccaaDoor
open Go Go.Ideal

def clampI (k : Int) : Int := if (32 : Int) < (if (0 : Int) > k then 0 else k) then 32 else (if (0 : Int) > k then 0 else k)
theorem clamp_lo (k : Int) : 0 ≤ clampI k := by unfold clampI; split <;> split <;> omega
theorem clamp_hi (k : Int) : clampI k ≤ 32 := by unfold clampI; split <;> split <;> omega
theorem clamp_id {k : Int} (h0 : 0 ≤ k) (h1 : k ≤ 32) : clampI k = k := by unfold clampI; split <;> split <;> omega
def maskI (k : Int) : Int := IntKind.u32.wrap (4294967295 * 2 ^ (min (32 - clampI k).toNat 32))
def andI (a b : Int) : Int := IntKind.u32.wrap (BitVec.ofInt 32 a &&& BitVec.ofInt 32 b).toNat
def bitI (a k : Int) : Int := IntKind.i64.wrap (IntKind.u32.wrap (BitVec.ofInt 32 (a.fdiv (2 ^ min (31 - k).toNat 32)) &&& BitVec.ofInt 32 1).toNat)
def cutV (a k : Int) : Value := .agg #[.int .u32 (andI a (maskI (clampI k))), .int .i64 (clampI k)]
def pfx2 (a b : Int) : Value := .agg #[.int .u32 a, .int .i64 b]
theorem wrap_in {n : Int} (h0 : -9223372036854775808 ≤ n) (h1 : n ≤ 9223372036854775807) : IntKind.i64.wrap n = n := by rw [IntKind.wrap_i64]; omega
def rightB (a b : Int) : Bool := decide (0 ≤ b) && decide (b ≤ 32) && a == andI a (maskI b)
def holdsB (a b x : Int) : Bool := rightB a b && andI x (maskI b) == a
def withinB (a b c d : Int) : Bool := rightB a b && decide (d ≤ b) && holdsB c d a

open Classical in
noncomputable def refRightB (a b : Int) : Bool := decide (0 ≤ b ∧ b ≤ 32 ∧ ∀ k, b ≤ k → k < 32 → bitI a k ≠ 1)
open Classical in
noncomputable def refHoldsB (a b x : Int) : Bool := refRightB a b && decide (∀ k, 0 ≤ k → k < b → bitI a k = bitI x k)
noncomputable def refWithinB (a b c d : Int) : Bool := refRightB a b && refRightB c d && decide (d ≤ b) && refHoldsB c d a
def orI (a b : Int) : Int := IntKind.u32.wrap (BitVec.ofInt 32 a ||| BitVec.ofInt 32 b).toNat

def cutN (A n : Nat) : Nat := A / 2 ^ n * 2 ^ n

theorem u32_wrap {n : Nat} (h : n < 2 ^ 32) : IntKind.u32.wrap (n : Int) = n := by
  have h' : n < 4294967296 := h
  rw [IntKind.wrap_u32]; omega

theorem bv_toNat {n : Nat} (h : n < 2 ^ 32) : (BitVec.ofInt 32 (n : Int)).toNat = n := by
  rw [BitVec.toNat_ofInt]
  have h' : n < 4294967296 := h
  omega

theorem andN (A M : Nat) (hA : A < 2 ^ 32) (hM : M < 2 ^ 32) : andI A M = ((A &&& M : Nat) : Int) := by
  unfold andI
  rw [BitVec.toNat_and, bv_toNat hA, bv_toNat hM]
  exact u32_wrap (Nat.lt_of_le_of_lt Nat.and_le_left hA)
theorem orN (A M : Nat) (hA : A < 2 ^ 32) (hM : M < 2 ^ 32) : orI A M = ((A ||| M : Nat) : Int) := by
  unfold orI
  rw [BitVec.toNat_or, bv_toNat hA, bv_toNat hM]
  exact u32_wrap (Nat.or_lt_two_pow hA hM)

theorem maskN (c : Nat) (hc : c ≤ 32) : maskI (c : Int) = ((2 ^ 32 - 2 ^ (32 - c) : Nat) : Int) := by
  unfold maskI
  rw [clamp_id (by omega) (by omega), show ((32 : Int) - (c : Int)).toNat = 32 - c by omega, Nat.min_eq_left (by omega)]
  have : ∀ n : Nat, n ≤ 32 → IntKind.u32.wrap (4294967295 * 2 ^ n) = ((2 ^ 32 - 2 ^ n : Nat) : Int) := by decide
  exact this _ (by omega)

theorem and_mask (A n : Nat) (hA : A < 2 ^ 32) (hn : n ≤ 32) : A &&& (2 ^ 32 - 2 ^ n) = cutN A n := by
  have e : 2 ^ 32 - 2 ^ n = (2 ^ (32 - n) - 1) <<< n := by
    rw [Nat.shiftLeft_eq, Nat.sub_mul, ← Nat.pow_add, Nat.one_mul, show 32 - n + n = 32 by omega]
  rw [e, cutN, ← Nat.shiftRight_eq_div_pow, ← Nat.shiftLeft_eq]
  apply Nat.eq_of_testBit_eq
  intro i
  rw [Nat.testBit_and, Nat.testBit_shiftLeft, Nat.testBit_shiftLeft, Nat.testBit_two_pow_sub_one, Nat.testBit_shiftRight]
  by_cases h : i ≥ n
  · rw [show n + (i - n) = i by omega]
    simp only [h, decide_true, Bool.true_and]
    by_cases h2 : i - n < 32 - n
    · simp [h2]
    · rw [Nat.testBit_lt_two_pow (Nat.lt_of_lt_of_le hA (Nat.pow_le_pow_right (by omega) (by omega)))]
      simp
  · simp [h]

theorem cut_lt (A n : Nat) (hA : A < 2 ^ 32) : cutN A n < 2 ^ 32 := Nat.lt_of_le_of_lt (Nat.div_mul_le_self _ _) hA

theorem and_maskI (A : Nat) (c : Nat) (hA : A < 2 ^ 32) (hc : c ≤ 32) : andI A (maskI c) = ((cutN A (32 - c) : Nat) : Int) := by
  rw [maskN c hc, andN A _ hA (by have := Nat.two_pow_pos (32 - c); omega), and_mask A _ hA (by omega)]

theorem maskI_and (A : Nat) (c : Nat) (hA : A < 2 ^ 32) (hc : c ≤ 32) : IntKind.u32.wrap (BitVec.ofInt 32 (maskI c) &&& BitVec.ofInt 32 (A : Int)).toNat = ((cutN A (32 - c) : Nat) : Int) := by
  rw [maskN c hc, BitVec.toNat_and, bv_toNat hA, bv_toNat (by have := Nat.two_pow_pos (32 - c); omega), Nat.and_comm, and_mask A _ hA (by omega)]
  exact u32_wrap (cut_lt A _ hA)

theorem bitN (A : Nat) (k : Nat) (hA : A < 2 ^ 32) (hk : k ≤ 31) : bitI A k = ((A / 2 ^ (31 - k) % 2 : Nat) : Int) := by
  unfold bitI
  rw [show ((31 : Int) - (k : Int)).toNat = 31 - k by omega, Nat.min_eq_left (by omega)]
  have e : (A : Int).fdiv (2 ^ (31 - k)) = ((A / 2 ^ (31 - k) : Nat) : Int) := by
    rw [Int.fdiv_eq_ediv_of_nonneg _ (by exact_mod_cast Nat.zero_le _)]; push_cast; rfl
  rw [e, BitVec.toNat_and, bv_toNat (Nat.lt_of_le_of_lt (Nat.div_le_self _ _) hA)]
  have e1 : (BitVec.ofInt 32 1).toNat = 1 := rfl
  rw [e1, Nat.and_one_is_mod]
  have h2 : A / 2 ^ (31 - k) % 2 < 2 := Nat.mod_lt _ (by omega)
  rw [u32_wrap (by omega)]
  exact wrap_in (by omega) (by omega)

theorem bits_zero (A : Nat) : ∀ n, (∀ i, i < n → A / 2 ^ i % 2 = 0) ↔ A % 2 ^ n = 0
  | 0 => by simp [Nat.mod_one]
  | n + 1 => by
    have ih := bits_zero A n
    rw [Nat.mod_pow_succ]
    constructor
    · intro h
      rw [ih.1 fun i hi => h i (by omega), h n (by omega)]; rfl
    · intro h i hi
      have h1 : A % 2 ^ n = 0 := by omega
      have h2 : 2 ^ n * (A / 2 ^ n % 2) = 0 := by omega
      rcases Nat.lt_or_ge i n with k | k
      · exact ih.2 h1 i k
      · rw [show i = n by omega]
        rcases Nat.mul_eq_zero.1 h2 with k2 | k2
        · have := Nat.two_pow_pos n; omega
        · exact k2

theorem cut_right (A n : Nat) : A = cutN A n ↔ A % 2 ^ n = 0 := by
  have := Nat.div_add_mod A (2 ^ n)
  rw [Nat.mul_comm] at this
  unfold cutN
  omega

theorem eq_bits (x y m : Nat) (hx : x < 2 ^ m) (hy : y < 2 ^ m) (h : ∀ i, i < m → x / 2 ^ i % 2 = y / 2 ^ i % 2) : x = y := by
  apply Nat.eq_of_testBit_eq
  intro i
  rcases Nat.lt_or_ge i m with k | k
  · rw [Nat.testBit_eq_decide_div_mod_eq, Nat.testBit_eq_decide_div_mod_eq, h i k]
  · rw [Nat.testBit_lt_two_pow (Nat.lt_of_lt_of_le hx (Nat.pow_le_pow_right (by omega) k)), Nat.testBit_lt_two_pow (Nat.lt_of_lt_of_le hy (Nat.pow_le_pow_right (by omega) k))]

theorem right_iff (A : Nat) (b : Int) (hA : A < 2 ^ 32) : rightB A b = true ↔ ∃ c : Nat, b = c ∧ c ≤ 32 ∧ A % 2 ^ (32 - c) = 0 := by
  unfold rightB
  simp only [Bool.and_eq_true, decide_eq_true_eq, beq_iff_eq]
  constructor
  · rintro ⟨⟨h0, h1⟩, h2⟩
    refine ⟨b.toNat, by omega, by omega, ?_⟩
    have hb : b = ((b.toNat : Nat) : Int) := by omega
    rw [hb, and_maskI A _ hA (by omega)] at h2
    exact (cut_right A _).1 (by exact_mod_cast h2)
  · rintro ⟨c, rfl, hc, h⟩
    refine ⟨⟨by omega, by omega⟩, ?_⟩
    rw [and_maskI A _ hA hc]
    exact_mod_cast (cut_right A _).2 h

theorem refRight_iff (A : Nat) (b : Int) (hA : A < 2 ^ 32) : refRightB A b = true ↔ ∃ c : Nat, b = c ∧ c ≤ 32 ∧ A % 2 ^ (32 - c) = 0 := by
  classical
  unfold refRightB
  rw [decide_eq_true_iff]
  constructor
  · rintro ⟨h0, h1, h2⟩
    refine ⟨b.toNat, by omega, by omega, (bits_zero A _).1 fun i hi => ?_⟩
    have := h2 ((31 - i : Nat) : Int) (by omega) (by omega)
    rw [bitN A _ hA (by omega), show 31 - (31 - i) = i by omega] at this
    have h3 : ¬ A / 2 ^ i % 2 = 1 := fun e => this (by exact_mod_cast e)
    have h2 : A / 2 ^ i % 2 < 2 := Nat.mod_lt _ (by omega)
    omega
  · rintro ⟨c, rfl, hc, h⟩
    refine ⟨by omega, by omega, fun k h1 h2 he => ?_⟩
    have hk : k = ((k.toNat : Nat) : Int) := by omega
    rw [hk, bitN A _ hA (by omega)] at he
    have := (bits_zero A _).2 h (31 - k.toNat) (by omega)
    rw [this] at he; cases he

theorem right_eq (A : Nat) (b : Int) (hA : A < 2 ^ 32) : rightB A b = refRightB A b := Bool.eq_iff_iff.2 ((right_iff A b hA).trans (refRight_iff A b hA).symm)

theorem holds_iff (A : Nat) (b : Int) (X : Nat) (hA : A < 2 ^ 32) (hX : X < 2 ^ 32) : holdsB A b X = true ↔ ∃ c : Nat, b = c ∧ c ≤ 32 ∧ A % 2 ^ (32 - c) = 0 ∧ cutN X (32 - c) = A := by
  unfold holdsB
  rw [Bool.and_eq_true, right_iff A b hA, beq_iff_eq]
  constructor
  · rintro ⟨⟨c, rfl, hc, h⟩, h2⟩
    rw [and_maskI X _ hX hc] at h2
    exact ⟨c, rfl, hc, h, by exact_mod_cast h2⟩
  · rintro ⟨c, rfl, hc, h, h2⟩
    exact ⟨⟨c, rfl, hc, h⟩, by rw [and_maskI X _ hX hc]; exact_mod_cast h2⟩

theorem holds_eq (A : Nat) (b : Int) (X : Nat) (hA : A < 2 ^ 32) (hX : X < 2 ^ 32) : holdsB A b X = refHoldsB A b X := by
  classical
  refine Bool.eq_iff_iff.2 ((holds_iff A b X hA hX).trans ?_)
  unfold refHoldsB
  rw [Bool.and_eq_true, refRight_iff A b hA, decide_eq_true_iff]
  constructor
  · rintro ⟨c, rfl, hc, h, h2⟩
    refine ⟨⟨c, rfl, hc, h⟩, fun k h0 h1 => ?_⟩
    have hk : k = ((k.toNat : Nat) : Int) := by omega
    rw [hk, bitN A _ hA (by omega), bitN X _ hX (by omega), ← h2]
    have e : cutN X (32 - c) / 2 ^ (31 - k.toNat) = X / 2 ^ (31 - k.toNat) := by
      have hs : 31 - k.toNat = (32 - c) + (c - 1 - k.toNat) := by omega
      unfold cutN
      rw [hs, Nat.pow_add, ← Nat.div_div_eq_div_mul, ← Nat.div_div_eq_div_mul, Nat.mul_div_cancel _ (Nat.two_pow_pos _)]
    rw [e]
  · rintro ⟨⟨c, rfl, hc, h⟩, h2⟩
    refine ⟨c, rfl, hc, h, ?_⟩
    have hd : X / 2 ^ (32 - c) = A / 2 ^ (32 - c) := by
      have lt : ∀ {Y : Nat}, Y < 2 ^ 32 → Y / 2 ^ (32 - c) < 2 ^ c := fun {Y} hY => by
        rw [Nat.div_lt_iff_lt_mul (Nat.two_pow_pos _), ← Nat.pow_add, show c + (32 - c) = 32 by omega]; exact hY
      refine eq_bits _ _ c (lt hX) (lt hA) fun i hi => ?_
      have := h2 ((c - 1 - i : Nat) : Int) (by omega) (by omega)
      rw [bitN A _ hA (by omega), bitN X _ hX (by omega), show 31 - (c - 1 - i) = (32 - c) + i by omega] at this
      rw [Nat.div_div_eq_div_mul, Nat.div_div_eq_div_mul, ← Nat.pow_add]
      exact_mod_cast this.symm
    unfold cutN
    rw [hd]
    exact ((cut_right A _).2 h).symm

theorem within_eq (A : Nat) (b : Int) (C : Nat) (d : Int) (hA : A < 2 ^ 32) (hC : C < 2 ^ 32) : withinB A b C d = refWithinB A b C d := by
  unfold withinB refWithinB
  rw [right_eq A b hA, holds_eq C d A hC hA]
  cases refRightB A b <;> cases h : decide (d ≤ b) <;> simp [refHoldsB]
end Go.Proofs.YtidlganponfccaaDoor

end
section
/- The plain law of sets: no program in sight. -/
set_option linter.unusedVariables false
set_option linter.unusedSimpArgs false
set_option linter.unusedVariables false
set_option linter.unusedSimpArgs false
namespace Go.Proofs.YtidlganponfccaaDoor
open Go Go.Ideal

def byteL (x : Int) : List Value := [.int .u8 x]
def and8 (x y : Int) : Int := IntKind.u8.wrap (BitVec.ofInt 8 x &&& BitVec.ofInt 8 y).toNat
def withinC (a b : List Int) : Bool := (List.range 30).all fun i => and8 (a.getD i 0) (b.getD i 0) == a.getD i 0
def hasC (c : List Int) (k : Int) : Bool := decide (0 ≤ k) && decide (k < 240) && and8 ((c.getD (k / 8).toNat 0).fdiv (2 ^ (7 - k % 8).toNat)) 1 == 1
/-- A set's bytes are bytes. -/
def CatsOK (c : List Int) : Prop := c.length = 30 ∧ ∀ x ∈ c, 0 ≤ x ∧ x < 256

theorem CatsOK.get {c : List Int} (h : CatsOK c) (i : Nat) : ∃ X : Nat, c.getD i 0 = X ∧ X < 256 := by
  rcases Nat.lt_or_ge i c.length with k | k
  · have := h.2 _ (List.getElem_mem k)
    refine ⟨(c.getD i 0).toNat, ?_, ?_⟩ <;> simp only [List.getD, List.getElem?_eq_getElem k, Option.getD_some] <;> omega
  · exact ⟨0, by simp [List.getD, List.getElem?_eq_none k], by decide⟩
theorem bv8 {n : Nat} (h : n < 256) : (BitVec.ofInt 8 (n : Int)).toNat = n := by
  rw [BitVec.toNat_ofInt]; omega
theorem and8N {X Y : Nat} (hX : X < 256) (hY : Y < 256) : and8 X Y = ((X &&& Y : Nat) : Int) := by
  unfold and8
  rw [BitVec.toNat_and, bv8 hX, bv8 hY, IntKind.wrap_u8]
  have : X &&& Y ≤ X := Nat.and_le_left
  omega
theorem bit8N {X : Nat} (hX : X < 256) (m : Nat) : (and8 ((X : Int).fdiv (2 ^ m)) 1 == 1) = X.testBit m := by
  have e : (X : Int).fdiv (2 ^ m) = ((X / 2 ^ m : Nat) : Int) := by
    rw [Int.fdiv_eq_ediv_of_nonneg _ (Int.le_of_lt (Int.pow_pos (by decide)))]; simp
  have hl : X / 2 ^ m < 256 := Nat.lt_of_le_of_lt (Nat.div_le_self _ _) hX
  rw [e, show (1 : Int) = ((1 : Nat) : Int) from rfl, and8N hl (by decide), Nat.and_one_is_mod, Nat.testBit_eq_decide_div_mod_eq]
  apply Bool.eq_iff_iff.2
  simp only [beq_iff_eq, decide_eq_true_eq]
  omega
theorem and_self_iff {X Y : Nat} (hX : X < 256) : X &&& Y = X ↔ ∀ m, m < 8 → X.testBit m = true → Y.testBit m = true := by
  constructor
  · intro h m _ hm
    rw [← h, Nat.testBit_and, Bool.and_eq_true] at hm
    exact hm.2
  · intro h
    apply Nat.eq_of_testBit_eq
    intro m
    rw [Nat.testBit_and]
    rcases Nat.lt_or_ge m 8 with k | k
    · cases hb : X.testBit m with
      | false => rfl
      | true => rw [h m k hb]; rfl
    · rw [Nat.testBit_lt_two_pow (Nat.lt_of_lt_of_le hX (show 2 ^ 8 ≤ 2 ^ m from Nat.pow_le_pow_right (by decide) k))]; rfl
theorem hasC_bit {c : List Int} (h : CatsOK c) {k : Int} (h0 : 0 ≤ k) (h1 : k < 240) : ∃ X : Nat, c.getD (k / 8).toNat 0 = X ∧ X < 256 ∧ hasC c k = X.testBit (7 - k % 8).toNat := by
  obtain ⟨X, e, hX⟩ := h.get (k / 8).toNat
  refine ⟨X, e, hX, ?_⟩
  unfold hasC
  rw [decide_eq_true h0, decide_eq_true h1, e, bit8N hX]; rfl
/-- One set lies within another one just if all that is in it is in the other one. -/
theorem withinC_iff {a b : List Int} (ha : CatsOK a) (hb : CatsOK b) : withinC a b = true ↔ ∀ k, 0 ≤ k → k < 240 → hasC a k = true → hasC b k = true := by
  unfold withinC
  rw [List.all_eq_true]
  constructor
  · intro h k h0 h1 hk
    obtain ⟨X, e1, e2, e3⟩ := hasC_bit ha h0 h1
    obtain ⟨Y, f1, f2, f3⟩ := hasC_bit hb h0 h1
    have := h (k / 8).toNat (by rw [List.mem_range]; omega)
    rw [e1, f1, beq_iff_eq, and8N e2 f2] at this
    rw [e3] at hk; rw [f3]
    exact (and_self_iff e2).1 (by exact_mod_cast this) _ (by omega) hk
  · intro h i hi
    rw [List.mem_range] at hi
    obtain ⟨X, e1, e2⟩ := ha.get i
    obtain ⟨Y, f1, f2⟩ := hb.get i
    rw [e1, f1, beq_iff_eq, and8N e2 f2]
    have : X &&& Y = X := (and_self_iff e2).2 fun m hm hx => by
      have hk : ((8 * i + (7 - m) : Nat) : Int) / 8 = i := by omega
      have hk2 : (7 - ((8 * i + (7 - m) : Nat) : Int) % 8).toNat = m := by omega
      obtain ⟨X', g1, g2, g3⟩ := hasC_bit ha (k := ((8 * i + (7 - m) : Nat) : Int)) (by omega) (by omega)
      obtain ⟨Y', k1, k2, k3⟩ := hasC_bit hb (k := ((8 * i + (7 - m) : Nat) : Int)) (by omega) (by omega)
      rw [hk, Int.toNat_natCast] at g1 k1
      rw [hk2] at g3 k3
      obtain rfl : X = X' := by exact_mod_cast e1.symm.trans g1
      obtain rfl : Y = Y' := by exact_mod_cast f1.symm.trans k1
      rw [← k3]; exact h _ (by omega) (by omega) (by rw [g3]; exact hx)
    exact_mod_cast this
end Go.Proofs.YtidlganponfccaaDoor

end
section
/- What a law is handed of sets and labels, read as plain data. -/
set_option linter.unusedVariables false
set_option maxRecDepth 100000
set_option linter.unusedVariables false
set_option linter.unusedSimpArgs false
namespace Go.Proofs.YtidlganponfccaaDoor
open Go Go.Ideal Go.RowKit
theorem readsW {H : Type} {enc : TypeId × Value → H} {P : Program} {W : World} {base : Nat} {spare : Nat → Bool} {held : Bool} {t : TypeId} {α β : Type} {f : α → List Value} {wf : α → Prop} {f' : β → List Value} {wf' : β → Prop} (h : ReadsAs enc P W base spare held t f wf) (g : α → β) (hf : ∀ a, wf a → f' (g a) = f a) (hw : ∀ a, wf a → wf' (g a)) : ReadsAs enc P W base spare held t f' wf' := fun fuel cs x k => by
  obtain ⟨a, a1, a2⟩ := h fuel cs x k
  exact ⟨g a, hw a a1, by rw [hf a a1]; exact a2⟩
theorem cellsOf_map {α : Type} (f : α → Value) : ∀ l : List α, cellsOf (fun a => [f a]) l = l.map f
  | [] => rfl
  | a :: l => by simp only [cellsOf, List.map_cons, cellsOf_map f l]; rfl
theorem catsL_cells {l : List Int} (h : l.length = 30) : catsL l = cellsOf (fun n : Int => [.int .u8 n]) l := by
  rw [cellsOf_map]
  have e : catsL l = (List.range 30).map fun i => Value.int .u8 (l.getD i 0) := rfl
  rw [e]
  refine List.ext_getElem (by simp [h]) fun i h1 h2 => ?_
  have hi : i < l.length := by simpa using h2
  simp [List.getD, List.getElem?_eq_getElem hi]
theorem okWide_slice {P : Program} {w : World} {r : Reach} {b : Nat} {t e : TypeId} {v : Value} (ht : P.underlying t = some (.slice e)) (h : Value.okWide P w r b t v) : ∀ a, v ≠ .agg a := fun a k => by
  subst k; simp [Value.okWide, Cell.okWide, Cell.ok, ht] at h
section
variable {H : Type} {enc : TypeId × Value → H} {W : World} {base : Nat} {spare : Nat → Bool} {held : Bool}
theorem rd_i64 : ReadsAs enc Tryd.prog W base spare held 3 (fun n : Int => [.int .i64 n]) (fun _ => True) := readsW (ReadsAs.int Tryd.underlying3) id (fun _ _ => rfl) fun _ _ => trivial
theorem rd_u8 : ReadsAs enc Tryd.prog W base spare held 5 (fun n : Int => [.int .u8 n]) (fun n => 0 ≤ n ∧ n < 256) := readsW (ReadsAs.int Tryd.underlying5) id (fun _ _ => rfl) fun n h => by
  simp only [Lit.wf, Bool.and_eq_true, decide_eq_true_eq] at h
  have h1 : (0 : Int) ≤ n := h.1
  have h2 : n ≤ 255 := h.2
  exact ⟨h1, show n < 256 by omega⟩
theorem rd_Cats : ReadsAs enc Tryd.prog W base spare held 23 catsL CatsOK := readsW (ReadsAs.array Tryd.underlying23 (m := 1) (by kernel_rfl) (by kernel_rfl) rd_u8) id (fun _ h => catsL_cells h.1) fun _ h => h
end
end Go.Proofs.YtidlganponfccaaDoor

end
