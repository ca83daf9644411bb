/- Texts packed together: CAddrLaw CCatsLaw CReadsD CComF CCats CCats2 CEq0 CEqR IShelf CList CCatsLaw5. -/
import Derived.WalkArith
import Derived.Test.YtidlganponfccaaDoorZ16
section
/- The plain law of addresses and prefixes: no program in sight. -/
set_option linter.unusedVariables false
set_option linter.unusedSimpArgs false
set_option linter.unusedVariables false
set_option linter.unusedSimpArgs false
namespace Go.Proofs.YtidlganponfccaaDoor
open Go Go.Ideal

def clampI (k : Int) : Int := if (32 : Int) < (if (0 : Int) > k then 0 else k) then 32 else (if (0 : Int) > k then 0 else k)
theorem clamp_lo (k : Int) : 0 ≤ clampI k := by unfold clampI; split <;> split <;> omega
theorem clamp_hi (k : Int) : clampI k ≤ 32 := by unfold clampI; split <;> split <;> omega
theorem clamp_id {k : Int} (h0 : 0 ≤ k) (h1 : k ≤ 32) : clampI k = k := by unfold clampI; split <;> split <;> omega
def maskI (k : Int) : Int := IntKind.u32.wrap (4294967295 * 2 ^ (min (32 - clampI k).toNat 32))
def andI (a b : Int) : Int := IntKind.u32.wrap (BitVec.ofInt 32 a &&& BitVec.ofInt 32 b).toNat
def bitI (a k : Int) : Int := IntKind.i64.wrap (IntKind.u32.wrap (BitVec.ofInt 32 (a.fdiv (2 ^ min (31 - k).toNat 32)) &&& BitVec.ofInt 32 1).toNat)
def cutV (a k : Int) : Value := .agg #[.int .u32 (andI a (maskI (clampI k))), .int .i64 (clampI k)]
def pfx2 (a b : Int) : Value := .agg #[.int .u32 a, .int .i64 b]
theorem wrap_in {n : Int} (h0 : -9223372036854775808 ≤ n) (h1 : n ≤ 9223372036854775807) : IntKind.i64.wrap n = n := by rw [IntKind.wrap_i64]; omega
def rightB (a b : Int) : Bool := decide (0 ≤ b) && decide (b ≤ 32) && a == andI a (maskI b)
def holdsB (a b x : Int) : Bool := rightB a b && andI x (maskI b) == a
def withinB (a b c d : Int) : Bool := rightB a b && decide (d ≤ b) && holdsB c d a

open Classical in
noncomputable def refRightB (a b : Int) : Bool := decide (0 ≤ b ∧ b ≤ 32 ∧ ∀ k, b ≤ k → k < 32 → bitI a k ≠ 1)
open Classical in
noncomputable def refHoldsB (a b x : Int) : Bool := refRightB a b && decide (∀ k, 0 ≤ k → k < b → bitI a k = bitI x k)
noncomputable def refWithinB (a b c d : Int) : Bool := refRightB a b && refRightB c d && decide (d ≤ b) && refHoldsB c d a
def orI (a b : Int) : Int := IntKind.u32.wrap (BitVec.ofInt 32 a ||| BitVec.ofInt 32 b).toNat

def cutN (A n : Nat) : Nat := A / 2 ^ n * 2 ^ n

theorem u32_wrap {n : Nat} (h : n < 2 ^ 32) : IntKind.u32.wrap (n : Int) = n := by
  have h' : n < 4294967296 := h
  rw [IntKind.wrap_u32]; omega

theorem bv_toNat {n : Nat} (h : n < 2 ^ 32) : (BitVec.ofInt 32 (n : Int)).toNat = n := by
  rw [BitVec.toNat_ofInt]
  have h' : n < 4294967296 := h
  omega

theorem andN (A M : Nat) (hA : A < 2 ^ 32) (hM : M < 2 ^ 32) : andI A M = ((A &&& M : Nat) : Int) := by
  unfold andI
  rw [BitVec.toNat_and, bv_toNat hA, bv_toNat hM]
  exact u32_wrap (Nat.lt_of_le_of_lt Nat.and_le_left hA)
theorem orN (A M : Nat) (hA : A < 2 ^ 32) (hM : M < 2 ^ 32) : orI A M = ((A ||| M : Nat) : Int) := by
  unfold orI
  rw [BitVec.toNat_or, bv_toNat hA, bv_toNat hM]
  exact u32_wrap (Nat.or_lt_two_pow hA hM)

theorem maskN (c : Nat) (hc : c ≤ 32) : maskI (c : Int) = ((2 ^ 32 - 2 ^ (32 - c) : Nat) : Int) := by
  unfold maskI
  rw [clamp_id (by omega) (by omega), show ((32 : Int) - (c : Int)).toNat = 32 - c by omega, Nat.min_eq_left (by omega)]
  have : ∀ n : Nat, n ≤ 32 → IntKind.u32.wrap (4294967295 * 2 ^ n) = ((2 ^ 32 - 2 ^ n : Nat) : Int) := by decide
  exact this _ (by omega)

theorem and_mask (A n : Nat) (hA : A < 2 ^ 32) (hn : n ≤ 32) : A &&& (2 ^ 32 - 2 ^ n) = cutN A n := by
  have e : 2 ^ 32 - 2 ^ n = (2 ^ (32 - n) - 1) <<< n := by
    rw [Nat.shiftLeft_eq, Nat.sub_mul, ← Nat.pow_add, Nat.one_mul, show 32 - n + n = 32 by omega]
  rw [e, cutN, ← Nat.shiftRight_eq_div_pow, ← Nat.shiftLeft_eq]
  apply Nat.eq_of_testBit_eq
  intro i
  rw [Nat.testBit_and, Nat.testBit_shiftLeft, Nat.testBit_shiftLeft, Nat.testBit_two_pow_sub_one, Nat.testBit_shiftRight]
  by_cases h : i ≥ n
  · rw [show n + (i - n) = i by omega]
    simp only [h, decide_true, Bool.true_and]
    by_cases h2 : i - n < 32 - n
    · simp [h2]
    · rw [Nat.testBit_lt_two_pow (Nat.lt_of_lt_of_le hA (Nat.pow_le_pow_right (by omega) (by omega)))]
      simp
  · simp [h]

theorem cut_lt (A n : Nat) (hA : A < 2 ^ 32) : cutN A n < 2 ^ 32 := Nat.lt_of_le_of_lt (Nat.div_mul_le_self _ _) hA

theorem and_maskI (A : Nat) (c : Nat) (hA : A < 2 ^ 32) (hc : c ≤ 32) : andI A (maskI c) = ((cutN A (32 - c) : Nat) : Int) := by
  rw [maskN c hc, andN A _ hA (by have := Nat.two_pow_pos (32 - c); omega), and_mask A _ hA (by omega)]

theorem maskI_and (A : Nat) (c : Nat) (hA : A < 2 ^ 32) (hc : c ≤ 32) : IntKind.u32.wrap (BitVec.ofInt 32 (maskI c) &&& BitVec.ofInt 32 (A : Int)).toNat = ((cutN A (32 - c) : Nat) : Int) := by
  rw [maskN c hc, BitVec.toNat_and, bv_toNat hA, bv_toNat (by have := Nat.two_pow_pos (32 - c); omega), Nat.and_comm, and_mask A _ hA (by omega)]
  exact u32_wrap (cut_lt A _ hA)

theorem bitN (A : Nat) (k : Nat) (hA : A < 2 ^ 32) (hk : k ≤ 31) : bitI A k = ((A / 2 ^ (31 - k) % 2 : Nat) : Int) := by
  unfold bitI
  rw [show ((31 : Int) - (k : Int)).toNat = 31 - k by omega, Nat.min_eq_left (by omega)]
  have e : (A : Int).fdiv (2 ^ (31 - k)) = ((A / 2 ^ (31 - k) : Nat) : Int) := by
    rw [Int.fdiv_eq_ediv_of_nonneg _ (by exact_mod_cast Nat.zero_le _)]; push_cast; rfl
  rw [e, BitVec.toNat_and, bv_toNat (Nat.lt_of_le_of_lt (Nat.div_le_self _ _) hA)]
  have e1 : (BitVec.ofInt 32 1).toNat = 1 := rfl
  rw [e1, Nat.and_one_is_mod]
  have h2 : A / 2 ^ (31 - k) % 2 < 2 := Nat.mod_lt _ (by omega)
  rw [u32_wrap (by omega)]
  exact wrap_in (by omega) (by omega)

theorem bits_zero (A : Nat) : ∀ n, (∀ i, i < n → A / 2 ^ i % 2 = 0) ↔ A % 2 ^ n = 0
  | 0 => by simp [Nat.mod_one]
  | n + 1 => by
    have ih := bits_zero A n
    rw [Nat.mod_pow_succ]
    constructor
    · intro h
      rw [ih.1 fun i hi => h i (by omega), h n (by omega)]; rfl
    · intro h i hi
      have h1 : A % 2 ^ n = 0 := by omega
      have h2 : 2 ^ n * (A / 2 ^ n % 2) = 0 := by omega
      rcases Nat.lt_or_ge i n with k | k
      · exact ih.2 h1 i k
      · rw [show i = n by omega]
        rcases Nat.mul_eq_zero.1 h2 with k2 | k2
        · have := Nat.two_pow_pos n; omega
        · exact k2

theorem cut_right (A n : Nat) : A = cutN A n ↔ A % 2 ^ n = 0 := by
  have := Nat.div_add_mod A (2 ^ n)
  rw [Nat.mul_comm] at this
  unfold cutN
  omega

theorem eq_bits (x y m : Nat) (hx : x < 2 ^ m) (hy : y < 2 ^ m) (h : ∀ i, i < m → x / 2 ^ i % 2 = y / 2 ^ i % 2) : x = y := by
  apply Nat.eq_of_testBit_eq
  intro i
  rcases Nat.lt_or_ge i m with k | k
  · rw [Nat.testBit_eq_decide_div_mod_eq, Nat.testBit_eq_decide_div_mod_eq, h i k]
  · rw [Nat.testBit_lt_two_pow (Nat.lt_of_lt_of_le hx (Nat.pow_le_pow_right (by omega) k)), Nat.testBit_lt_two_pow (Nat.lt_of_lt_of_le hy (Nat.pow_le_pow_right (by omega) k))]

theorem right_iff (A : Nat) (b : Int) (hA : A < 2 ^ 32) : rightB A b = true ↔ ∃ c : Nat, b = c ∧ c ≤ 32 ∧ A % 2 ^ (32 - c) = 0 := by
  unfold rightB
  simp only [Bool.and_eq_true, decide_eq_true_eq, beq_iff_eq]
  constructor
  · rintro ⟨⟨h0, h1⟩, h2⟩
    refine ⟨b.toNat, by omega, by omega, ?_⟩
    have hb : b = ((b.toNat : Nat) : Int) := by omega
    rw [hb, and_maskI A _ hA (by omega)] at h2
    exact (cut_right A _).1 (by exact_mod_cast h2)
  · rintro ⟨c, rfl, hc, h⟩
    refine ⟨⟨by omega, by omega⟩, ?_⟩
    rw [and_maskI A _ hA hc]
    exact_mod_cast (cut_right A _).2 h

theorem refRight_iff (A : Nat) (b : Int) (hA : A < 2 ^ 32) : refRightB A b = true ↔ ∃ c : Nat, b = c ∧ c ≤ 32 ∧ A % 2 ^ (32 - c) = 0 := by
  classical
  unfold refRightB
  rw [decide_eq_true_iff]
  constructor
  · rintro ⟨h0, h1, h2⟩
    refine ⟨b.toNat, by omega, by omega, (bits_zero A _).1 fun i hi => ?_⟩
    have := h2 ((31 - i : Nat) : Int) (by omega) (by omega)
    rw [bitN A _ hA (by omega), show 31 - (31 - i) = i by omega] at this
    have h3 : ¬ A / 2 ^ i % 2 = 1 := fun e => this (by exact_mod_cast e)
    have h2 : A / 2 ^ i % 2 < 2 := Nat.mod_lt _ (by omega)
    omega
  · rintro ⟨c, rfl, hc, h⟩
    refine ⟨by omega, by omega, fun k h1 h2 he => ?_⟩
    have hk : k = ((k.toNat : Nat) : Int) := by omega
    rw [hk, bitN A _ hA (by omega)] at he
    have := (bits_zero A _).2 h (31 - k.toNat) (by omega)
    rw [this] at he; cases he

theorem right_eq (A : Nat) (b : Int) (hA : A < 2 ^ 32) : rightB A b = refRightB A b := Bool.eq_iff_iff.2 ((right_iff A b hA).trans (refRight_iff A b hA).symm)

theorem holds_iff (A : Nat) (b : Int) (X : Nat) (hA : A < 2 ^ 32) (hX : X < 2 ^ 32) : holdsB A b X = true ↔ ∃ c : Nat, b = c ∧ c ≤ 32 ∧ A % 2 ^ (32 - c) = 0 ∧ cutN X (32 - c) = A := by
  unfold holdsB
  rw [Bool.and_eq_true, right_iff A b hA, beq_iff_eq]
  constructor
  · rintro ⟨⟨c, rfl, hc, h⟩, h2⟩
    rw [and_maskI X _ hX hc] at h2
    exact ⟨c, rfl, hc, h, by exact_mod_cast h2⟩
  · rintro ⟨c, rfl, hc, h, h2⟩
    exact ⟨⟨c, rfl, hc, h⟩, by rw [and_maskI X _ hX hc]; exact_mod_cast h2⟩

theorem holds_eq (A : Nat) (b : Int) (X : Nat) (hA : A < 2 ^ 32) (hX : X < 2 ^ 32) : holdsB A b X = refHoldsB A b X := by
  classical
  refine Bool.eq_iff_iff.2 ((holds_iff A b X hA hX).trans ?_)
  unfold refHoldsB
  rw [Bool.and_eq_true, refRight_iff A b hA, decide_eq_true_iff]
  constructor
  · rintro ⟨c, rfl, hc, h, h2⟩
    refine ⟨⟨c, rfl, hc, h⟩, fun k h0 h1 => ?_⟩
    have hk : k = ((k.toNat : Nat) : Int) := by omega
    rw [hk, bitN A _ hA (by omega), bitN X _ hX (by omega), ← h2]
    have e : cutN X (32 - c) / 2 ^ (31 - k.toNat) = X / 2 ^ (31 - k.toNat) := by
      have hs : 31 - k.toNat = (32 - c) + (c - 1 - k.toNat) := by omega
      unfold cutN
      rw [hs, Nat.pow_add, ← Nat.div_div_eq_div_mul, ← Nat.div_div_eq_div_mul, Nat.mul_div_cancel _ (Nat.two_pow_pos _)]
    rw [e]
  · rintro ⟨⟨c, rfl, hc, h⟩, h2⟩
    refine ⟨c, rfl, hc, h, ?_⟩
    have hd : X / 2 ^ (32 - c) = A / 2 ^ (32 - c) := by
      have lt : ∀ {Y : Nat}, Y < 2 ^ 32 → Y / 2 ^ (32 - c) < 2 ^ c := fun {Y} hY => by
        rw [Nat.div_lt_iff_lt_mul (Nat.two_pow_pos _), ← Nat.pow_add, show c + (32 - c) = 32 by omega]; exact hY
      refine eq_bits _ _ c (lt hX) (lt hA) fun i hi => ?_
      have := h2 ((c - 1 - i : Nat) : Int) (by omega) (by omega)
      rw [bitN A _ hA (by omega), bitN X _ hX (by omega), show 31 - (c - 1 - i) = (32 - c) + i by omega] at this
      rw [Nat.div_div_eq_div_mul, Nat.div_div_eq_div_mul, ← Nat.pow_add]
      exact_mod_cast this.symm
    unfold cutN
    rw [hd]
    exact ((cut_right A _).2 h).symm

theorem within_eq (A : Nat) (b : Int) (C : Nat) (d : Int) (hA : A < 2 ^ 32) (hC : C < 2 ^ 32) : withinB A b C d = refWithinB A b C d := by
  unfold withinB refWithinB
  rw [right_eq A b hA, holds_eq C d A hC hA]
  cases refRightB A b <;> cases h : decide (d ≤ b) <;> simp [refHoldsB]
end Go.Proofs.YtidlganponfccaaDoor

end
section
/- The plain law of sets: no program in sight. -/
set_option linter.unusedVariables false
set_option linter.unusedSimpArgs false
set_option linter.unusedVariables false
set_option linter.unusedSimpArgs false
namespace Go.Proofs.YtidlganponfccaaDoor
open Go Go.Ideal

def byteL (x : Int) : List Value := [.int .u8 x]
def and8 (x y : Int) : Int := IntKind.u8.wrap (BitVec.ofInt 8 x &&& BitVec.ofInt 8 y).toNat
def withinC (a b : List Int) : Bool := (List.range 30).all fun i => and8 (a.getD i 0) (b.getD i 0) == a.getD i 0
def hasC (c : List Int) (k : Int) : Bool := decide (0 ≤ k) && decide (k < 240) && and8 ((c.getD (k / 8).toNat 0).fdiv (2 ^ (7 - k % 8).toNat)) 1 == 1
/-- A set's bytes are bytes. -/
def CatsOK (c : List Int) : Prop := c.length = 30 ∧ ∀ x ∈ c, 0 ≤ x ∧ x < 256

theorem CatsOK.get {c : List Int} (h : CatsOK c) (i : Nat) : ∃ X : Nat, c.getD i 0 = X ∧ X < 256 := by
  rcases Nat.lt_or_ge i c.length with k | k
  · have := h.2 _ (List.getElem_mem k)
    refine ⟨(c.getD i 0).toNat, ?_, ?_⟩ <;> simp only [List.getD, List.getElem?_eq_getElem k, Option.getD_some] <;> omega
  · exact ⟨0, by simp [List.getD, List.getElem?_eq_none k], by decide⟩
theorem bv8 {n : Nat} (h : n < 256) : (BitVec.ofInt 8 (n : Int)).toNat = n := by
  rw [BitVec.toNat_ofInt]; omega
theorem and8N {X Y : Nat} (hX : X < 256) (hY : Y < 256) : and8 X Y = ((X &&& Y : Nat) : Int) := by
  unfold and8
  rw [BitVec.toNat_and, bv8 hX, bv8 hY, IntKind.wrap_u8]
  have : X &&& Y ≤ X := Nat.and_le_left
  omega
theorem bit8N {X : Nat} (hX : X < 256) (m : Nat) : (and8 ((X : Int).fdiv (2 ^ m)) 1 == 1) = X.testBit m := by
  have e : (X : Int).fdiv (2 ^ m) = ((X / 2 ^ m : Nat) : Int) := by
    rw [Int.fdiv_eq_ediv_of_nonneg _ (Int.le_of_lt (Int.pow_pos (by decide)))]; simp
  have hl : X / 2 ^ m < 256 := Nat.lt_of_le_of_lt (Nat.div_le_self _ _) hX
  rw [e, show (1 : Int) = ((1 : Nat) : Int) from rfl, and8N hl (by decide), Nat.and_one_is_mod, Nat.testBit_eq_decide_div_mod_eq]
  apply Bool.eq_iff_iff.2
  simp only [beq_iff_eq, decide_eq_true_eq]
  omega
theorem and_self_iff {X Y : Nat} (hX : X < 256) : X &&& Y = X ↔ ∀ m, m < 8 → X.testBit m = true → Y.testBit m = true := by
  constructor
  · intro h m _ hm
    rw [← h, Nat.testBit_and, Bool.and_eq_true] at hm
    exact hm.2
  · intro h
    apply Nat.eq_of_testBit_eq
    intro m
    rw [Nat.testBit_and]
    rcases Nat.lt_or_ge m 8 with k | k
    · cases hb : X.testBit m with
      | false => rfl
      | true => rw [h m k hb]; rfl
    · rw [Nat.testBit_lt_two_pow (Nat.lt_of_lt_of_le hX (show 2 ^ 8 ≤ 2 ^ m from Nat.pow_le_pow_right (by decide) k))]; rfl
theorem hasC_bit {c : List Int} (h : CatsOK c) {k : Int} (h0 : 0 ≤ k) (h1 : k < 240) : ∃ X : Nat, c.getD (k / 8).toNat 0 = X ∧ X < 256 ∧ hasC c k = X.testBit (7 - k % 8).toNat := by
  obtain ⟨X, e, hX⟩ := h.get (k / 8).toNat
  refine ⟨X, e, hX, ?_⟩
  unfold hasC
  rw [decide_eq_true h0, decide_eq_true h1, e, bit8N hX]; rfl
/-- One set lies within another one just if all that is in it is in the other one. -/
theorem withinC_iff {a b : List Int} (ha : CatsOK a) (hb : CatsOK b) : withinC a b = true ↔ ∀ k, 0 ≤ k → k < 240 → hasC a k = true → hasC b k = true := by
  unfold withinC
  rw [List.all_eq_true]
  constructor
  · intro h k h0 h1 hk
    obtain ⟨X, e1, e2, e3⟩ := hasC_bit ha h0 h1
    obtain ⟨Y, f1, f2, f3⟩ := hasC_bit hb h0 h1
    have := h (k / 8).toNat (by rw [List.mem_range]; omega)
    rw [e1, f1, beq_iff_eq, and8N e2 f2] at this
    rw [e3] at hk; rw [f3]
    exact (and_self_iff e2).1 (by exact_mod_cast this) _ (by omega) hk
  · intro h i hi
    rw [List.mem_range] at hi
    obtain ⟨X, e1, e2⟩ := ha.get i
    obtain ⟨Y, f1, f2⟩ := hb.get i
    rw [e1, f1, beq_iff_eq, and8N e2 f2]
    have : X &&& Y = X := (and_self_iff e2).2 fun m hm hx => by
      have hk : ((8 * i + (7 - m) : Nat) : Int) / 8 = i := by omega
      have hk2 : (7 - ((8 * i + (7 - m) : Nat) : Int) % 8).toNat = m := by omega
      obtain ⟨X', g1, g2, g3⟩ := hasC_bit ha (k := ((8 * i + (7 - m) : Nat) : Int)) (by omega) (by omega)
      obtain ⟨Y', k1, k2, k3⟩ := hasC_bit hb (k := ((8 * i + (7 - m) : Nat) : Int)) (by omega) (by omega)
      rw [hk, Int.toNat_natCast] at g1 k1
      rw [hk2] at g3 k3
      obtain rfl : X = X' := by exact_mod_cast e1.symm.trans g1
      obtain rfl : Y = Y' := by exact_mod_cast f1.symm.trans k1
      rw [← k3]; exact h _ (by omega) (by omega) (by rw [g3]; exact hx)
    exact_mod_cast this
end Go.Proofs.YtidlganponfccaaDoor

end
section
/- What a law is handed of sets and labels, read as plain data. -/
set_option linter.unusedVariables false
set_option maxRecDepth 100000
set_option linter.unusedVariables false
set_option linter.unusedSimpArgs false
namespace Go.Proofs.YtidlganponfccaaDoor
open Go Go.Ideal Go.RowKit
theorem readsW {H : Type} {enc : TypeId × Value → H} {P : Program} {W : World} {base : Nat} {spare : Nat → Bool} {held : Bool} {t : TypeId} {α β : Type} {f : α → List Value} {wf : α → Prop} {f' : β → List Value} {wf' : β → Prop} (h : ReadsAs enc P W base spare held t f wf) (g : α → β) (hf : ∀ a, wf a → f' (g a) = f a) (hw : ∀ a, wf a → wf' (g a)) : ReadsAs enc P W base spare held t f' wf' := fun fuel cs x k => by
  obtain ⟨a, a1, a2⟩ := h fuel cs x k
  exact ⟨g a, hw a a1, by rw [hf a a1]; exact a2⟩
theorem cellsOf_map {α : Type} (f : α → Value) : ∀ l : List α, cellsOf (fun a => [f a]) l = l.map f
  | [] => rfl
  | a :: l => by simp only [cellsOf, List.map_cons, cellsOf_map f l]; rfl
theorem catsL_cells {l : List Int} (h : l.length = 30) : catsL l = cellsOf (fun n : Int => [.int .u8 n]) l := by
  rw [cellsOf_map]
  have e : catsL l = (List.range 30).map fun i => Value.int .u8 (l.getD i 0) := rfl
  rw [e]
  refine List.ext_getElem (by simp [h]) fun i h1 h2 => ?_
  have hi : i < l.length := by simpa using h2
  simp [List.getD, List.getElem?_eq_getElem hi]
theorem okWide_slice {P : Program} {w : World} {r : Reach} {b : Nat} {t e : TypeId} {v : Value} (ht : P.underlying t = some (.slice e)) (h : Value.okWide P w r b t v) : ∀ a, v ≠ .agg a := fun a k => by
  subst k; simp [Value.okWide, Cell.okWide, Cell.ok, ht] at h
section
variable {H : Type} {enc : TypeId × Value → H} {W : World} {base : Nat} {spare : Nat → Bool} {held : Bool}
theorem rd_i64 : ReadsAs enc Tryd.prog W base spare held 3 (fun n : Int => [.int .i64 n]) (fun _ => True) := readsW (ReadsAs.int Tryd.underlying3) id (fun _ _ => rfl) fun _ _ => trivial
theorem rd_u8 : ReadsAs enc Tryd.prog W base spare held 5 (fun n : Int => [.int .u8 n]) (fun n => 0 ≤ n ∧ n < 256) := readsW (ReadsAs.int Tryd.underlying5) id (fun _ _ => rfl) fun n h => by
  simp only [Lit.wf, Bool.and_eq_true, decide_eq_true_eq] at h
  have h1 : (0 : Int) ≤ n := h.1
  have h2 : n ≤ 255 := h.2
  exact ⟨h1, show n < 256 by omega⟩
theorem rd_Cats : ReadsAs enc Tryd.prog W base spare held 23 catsL CatsOK := readsW (ReadsAs.array Tryd.underlying23 (m := 1) (by kernel_rfl) (by kernel_rfl) rd_u8) id (fun _ h => catsL_cells h.1) fun _ h => h
end
end Go.Proofs.YtidlganponfccaaDoor

end
section
/- A world for the witness: what the door's run leaves, Go's own table laid beside it. -/
set_option linter.unusedVariables false
set_option linter.unusedSimpArgs false
namespace Go.Proofs.YtidlganponfccaaDoor
open Go
def litValue : DataW Unit → Value
  | .lit (.int k n) => .int k n
  | _ => Go.undef
def tabCells : DataW Unit → Array Value
  | .agg l => (l.map litValue).toArray
  | _ => #[]
noncomputable def laidWorldF (os : Os) : World :=
  { World.doorLaid Tryd.prog 100 os with heap := (World.doorLaid Tryd.prog 100 os).heap.modify 4 fun
      | .cells _ t frozen => .cells (tabCells Go.Pinned.utf8First) t frozen
      | o => o }
end Go.Proofs.YtidlganponfccaaDoor

end
section
/- What the functions of sets answer. -/
set_option linter.unusedVariables false
set_option linter.unusedSimpArgs false
set_option maxRecDepth 100000
namespace Go.Proofs.YtidlganponfccaaDoor
open Go Go.Ideal
theorem catsL_part (c : List Int) (i : Nat) (h : i < 30) : (Ask.part (catsL c) (0 + i * 1) 1 [.int .u8 (c.getD i 0)]).holds Tryd.prog := by
  rw [Nat.zero_add, Nat.mul_one]
  refine ⟨h, ?_⟩
  have e : catsL c = (List.range 30).map fun i => Value.int .u8 (c.getD i 0) := rfl
  rw [e, List.drop_eq_getElem_cons (by simpa using h)]
  simp
theorem has_w (c : List Int) (k : Int) : CallK Tryd.prog 21 [catsV c, .int .i64 k] (.bool (hasC c k)) := CallK.via progOK (pfs []) [] 100 (Adv.split (5 : Nat) (Adv.split (8 : Nat) (Adv.chk (13 : Nat) none (Adv.chk (14 : Nat) (some (Value.int IntKind.u8 (List.getD c (Int.toNat (IntKind.wrap IntKind.i64 (Int.tdiv k (8 : Int)))) (0 : Int)))) (Adv.chk (18 : Nat) none (Adv.split (20 : Nat) Adv.nil Adv.nil)))) Adv.nil) Adv.nil) (by kernel_rfl) (by kernel_rfl) (p := (decide (k ≥ (0 : Int)) = true → (decide (k < (240 : Int)) = true → ((0 : Int) ≤ IntKind.wrap IntKind.i64 (Int.tdiv k (8 : Int)) ∧ IntKind.wrap IntKind.i64 (Int.tdiv k (8 : Int)) < (30 : Int)) ∧ Ask.holds Tryd.prog (Ask.part (catsL c) (nat_lit 0 + Int.toNat (IntKind.wrap IntKind.i64 (Int.tdiv k (8 : Int))) * nat_lit 1) (nat_lit 1) [Value.int IntKind.u8 (List.getD c (Int.toNat (IntKind.wrap IntKind.i64 (Int.tdiv k (8 : Int)))) (0 : Int))]) ∧ (0 : Int) ≤ IntKind.wrap IntKind.i64 ((7 : Int) - Int.tmod k (8 : Int)) ∧ ((IntKind.wrap IntKind.u8 (↑(BitVec.toNat (BitVec.ofInt (IntKind.bits IntKind.u8) (Int.fdiv (List.getD c (Int.toNat (IntKind.wrap IntKind.i64 (Int.tdiv k (8 : Int)))) (0 : Int)) ((2 : Int) ^ min (Int.toNat (IntKind.wrap IntKind.i64 ((7 : Int) - Int.tmod k (8 : Int)))) (IntKind.bits IntKind.u8))) &&& BitVec.ofInt (IntKind.bits IntKind.u8) (1 : Int))) : Int) == (1 : Int)) = true → Value.bool true = Value.bool (hasC c k)) ∧ ((IntKind.wrap IntKind.u8 (↑(BitVec.toNat (BitVec.ofInt (IntKind.bits IntKind.u8) (Int.fdiv (List.getD c (Int.toNat (IntKind.wrap IntKind.i64 (Int.tdiv k (8 : Int)))) (0 : Int)) ((2 : Int) ^ min (Int.toNat (IntKind.wrap IntKind.i64 ((7 : Int) - Int.tmod k (8 : Int)))) (IntKind.bits IntKind.u8))) &&& BitVec.ofInt (IntKind.bits IntKind.u8) (1 : Int))) : Int) == (1 : Int)) = false → Value.bool false = Value.bool (hasC c k))) ∧ (decide (k < (240 : Int)) = false → Value.bool false = Value.bool (hasC c k))) ∧ (decide (k ≥ (0 : Int)) = false → Value.bool false = Value.bool (hasC c k))) (by kernel_rfl) (by
    simp only [decide_eq_true_eq, decide_eq_false_iff_not, ge_iff_le]
    refine ⟨fun h0 => ⟨fun h1 => ?_, fun h1 => ?_⟩, fun h0 => ?_⟩
    · have e1 : IntKind.i64.wrap (k.tdiv 8) = k / 8 := by rw [Int.tdiv_eq_ediv_of_nonneg h0, wrap_in (by omega) (by omega)]
      have e2 : IntKind.i64.wrap (7 - k.tmod 8) = 7 - k % 8 := by rw [Int.tmod_eq_emod_of_nonneg h0, wrap_in (by omega) (by omega)]
      have e3 : min (7 - k % 8).toNat IntKind.u8.bits = (7 - k % 8).toNat := Nat.min_eq_left (by show _ ≤ 8; omega)
      rw [e1, e2, e3]
      refine ⟨⟨by omega, by omega⟩, catsL_part c _ (by omega), by omega, fun h2 => ?_, fun h2 => ?_⟩
      · unfold hasC; rw [decide_eq_true h0, decide_eq_true h1]; exact congrArg Value.bool h2.symm
      · unfold hasC; rw [decide_eq_true h0, decide_eq_true h1]; exact congrArg Value.bool h2.symm
    · unfold hasC; rw [decide_eq_true h0, decide_eq_false h1]; rfl
    · unfold hasC; rw [decide_eq_false h0]; rfl)
theorem refWithin_w (a b : List Int) (ha : CatsOK a) (hb : CatsOK b) : CallK Tryd.prog 29 [catsV a, catsV b] (.bool (withinC a b)) := CallK.via progOK (pfs []) [] 100 (Adv.loop (7 : Nat) (fun (k : Int) => [((5 : Nat), Value.int IntKind.i64 k)]) ((fun (h : Heap) (x : Int) => h) (Heap.mk (nat_lit 10) (Trie.node none (Trie.node none Trie.leaf (Trie.node none (Trie.node (some (Blk.cells (catsL b) (nat_lit 23) Mode.fix)) Trie.leaf Trie.leaf) Trie.leaf)) (Trie.node none (Trie.node none (Trie.node (some (Blk.cells (catsL a) (nat_lit 23) Mode.fix)) Trie.leaf Trie.leaf) Trie.leaf) Trie.leaf)))) (fun (i : Nat) (k : Int) => (↑i : Int) + k = (240 : Int) ∧ (0 : Int) ≤ k ∧ k ≤ (240 : Int) ∧ ∀ (j : Int), (0 : Int) ≤ j → j < k → hasC a j = true → hasC b j = true) (240 : Nat) (0 : Int) fun (i7 : Nat) (s7 : Int) (j7 : Nat → Value) => Adv.split (11 : Nat) (Adv.purs (17 : Nat) (hasC a s7) (Adv.purs (21 : Nat) (hasC b s7) Adv.nil Adv.nil) Adv.nil) Adv.nil) (by kernel_rfl) (by kernel_rfl) (p := (((↑(240 : Nat) : Int) + (0 : Int) = (240 : Int) ∧ (0 : Int) ≤ (0 : Int) ∧ (0 : Int) ≤ (240 : Int) ∧ ∀ (j : Int), (0 : Int) ≤ j → j < (0 : Int) → hasC a j = true → hasC b j = true) ∧ Value.int IntKind.i64 (0 : Int) = Value.int IntKind.i64 (0 : Int) ∧ Heap.mk (nat_lit 10) (Trie.node none (Trie.node none Trie.leaf (Trie.node none (Trie.node (some (Blk.cells (catsL b) (nat_lit 23) Mode.fix)) Trie.leaf Trie.leaf) Trie.leaf)) (Trie.node none (Trie.node none (Trie.node (some (Blk.cells (catsL a) (nat_lit 23) Mode.fix)) Trie.leaf Trie.leaf) Trie.leaf) Trie.leaf)) = Heap.mk (nat_lit 10) (Trie.node none (Trie.node none Trie.leaf (Trie.node none (Trie.node (some (Blk.cells (catsL b) (nat_lit 23) Mode.fix)) Trie.leaf Trie.leaf) Trie.leaf)) (Trie.node none (Trie.node none (Trie.node (some (Blk.cells (catsL a) (nat_lit 23) Mode.fix)) Trie.leaf Trie.leaf) Trie.leaf) Trie.leaf))) ∧ ∀ (i7 : Nat) (s7 : Int) (j7 : Nat → Value), ((↑i7 : Int) + s7 = (240 : Int) ∧ (0 : Int) ≤ s7 ∧ s7 ≤ (240 : Int) ∧ ∀ (j : Int), (0 : Int) ≤ j → j < s7 → hasC a j = true → hasC b j = true) → (decide (s7 < (240 : Int)) = true → CallK Tryd.prog (nat_lit 21) [Value.agg (Array.mk (catsL a)), Value.int IntKind.i64 s7] (Value.bool (hasC a s7)) ∧ (hasC a s7 = true → CallK Tryd.prog (nat_lit 21) [Value.agg (Array.mk (catsL b)), Value.int IntKind.i64 s7] (Value.bool (hasC b s7)) ∧ (hasC b s7 = true → ∃ (i7' : Nat), ∃ (s7' : Int), i7' < i7 ∧ ((↑i7' : Int) + s7' = (240 : Int) ∧ (0 : Int) ≤ s7' ∧ s7' ≤ (240 : Int) ∧ ∀ (j : Int), (0 : Int) ≤ j → j < s7' → hasC a j = true → hasC b j = true) ∧ Value.int IntKind.i64 (IntKind.wrap IntKind.i64 (s7 + (1 : Int))) = Value.int IntKind.i64 s7' ∧ (some (Blk.cells (catsL b) (nat_lit 23) Mode.fix) = some (Blk.cells (catsL b) (nat_lit 23) Mode.fix) ∧ some (Blk.cells (catsL a) (nat_lit 23) Mode.fix) = some (Blk.cells (catsL a) (nat_lit 23) Mode.fix) ∧ True) ∧ true = true ∧ true = true ∧ true = true ∧ True) ∧ (hasC b s7 = false → Value.bool false = Value.bool (withinC a b))) ∧ (hasC a s7 = false → ∃ (i7' : Nat), ∃ (s7' : Int), i7' < i7 ∧ ((↑i7' : Int) + s7' = (240 : Int) ∧ (0 : Int) ≤ s7' ∧ s7' ≤ (240 : Int) ∧ ∀ (j : Int), (0 : Int) ≤ j → j < s7' → hasC a j = true → hasC b j = true) ∧ Value.int IntKind.i64 (IntKind.wrap IntKind.i64 (s7 + (1 : Int))) = Value.int IntKind.i64 s7' ∧ (some (Blk.cells (catsL b) (nat_lit 23) Mode.fix) = some (Blk.cells (catsL b) (nat_lit 23) Mode.fix) ∧ some (Blk.cells (catsL a) (nat_lit 23) Mode.fix) = some (Blk.cells (catsL a) (nat_lit 23) Mode.fix) ∧ True) ∧ true = true ∧ true = true ∧ true = true ∧ True)) ∧ (decide (s7 < (240 : Int)) = false → Value.bool true = Value.bool (withinC a b))) (by kernel_rfl) (by
    have no : ∀ k, 0 ≤ k → k < 240 → hasC a k = true → hasC b k = false → Value.bool false = Value.bool (withinC a b) := fun k h0 h1 h2 h3 => by
      refine congrArg Value.bool (Bool.eq_false_iff.2 fun e => ?_).symm
      rw [(withinC_iff ha hb).1 e k h0 h1 h2] at h3; cases h3
    simp only [decide_eq_true_eq, decide_eq_false_iff_not, and_true, true_and, Value.int.injEq]
    refine ⟨⟨by omega, by omega, by omega, fun j h0 h1 => by omega⟩, fun i k j ⟨q1, q2, q3, q4⟩ => ⟨fun k1 => ⟨has_w a k, fun k2 => ⟨has_w b k, fun k3 => ?_, fun k3 => no k q2 k1 k2 k3⟩, fun k2 => ?_⟩, fun k1 => ?_⟩⟩
    · refine ⟨i - 1, k + 1, by omega, ⟨by omega, by omega, by omega, fun j h1 h2 h3 => ?_⟩, wrap_in (by omega) (by omega)⟩
      rcases Int.lt_or_le j k with h | h
      · exact q4 j h1 h h3
      · obtain rfl : j = k := by omega
        exact k3
    · refine ⟨i - 1, k + 1, by omega, ⟨by omega, by omega, by omega, fun j h1 h2 h3 => ?_⟩, wrap_in (by omega) (by omega)⟩
      rcases Int.lt_or_le j k with h | h
      · exact q4 j h1 h h3
      · obtain rfl : j = k := by omega
        rw [k2] at h3; cases h3
    · exact congrArg Value.bool ((withinC_iff ha hb).2 fun j h0 h1 => q4 j h0 (by omega)).symm)
end Go.Proofs.YtidlganponfccaaDoor

end
section
/- What the functions of sets answer: within. -/
set_option linter.unusedVariables false
set_option linter.unusedSimpArgs false
set_option maxRecDepth 100000
namespace Go.Proofs.YtidlganponfccaaDoor
open Go Go.Ideal
theorem within_w (a b : List Int) : CallK Tryd.prog 28 [catsV a, catsV b] (.bool (withinC a b)) := CallK.via progOK (pfs []) [] 100 (Adv.chks (10 : Nat) none Adv.nil Adv.nil) (by kernel_rfl) (by kernel_rfl) (p := True ∧ ((IntKind.wrap IntKind.u8 (↑(BitVec.toNat (BitVec.ofInt (IntKind.bits IntKind.u8) (List.getD a (0 : Nat) (0 : Int)) &&& BitVec.ofInt (IntKind.bits IntKind.u8) (List.getD b (0 : Nat) (0 : Int)))) : Int) == List.getD a (0 : Nat) (0 : Int) && (IntKind.wrap IntKind.u8 (↑(BitVec.toNat (BitVec.ofInt (IntKind.bits IntKind.u8) (List.getD a (1 : Nat) (0 : Int)) &&& BitVec.ofInt (IntKind.bits IntKind.u8) (List.getD b (1 : Nat) (0 : Int)))) : Int) == List.getD a (1 : Nat) (0 : Int) && (IntKind.wrap IntKind.u8 (↑(BitVec.toNat (BitVec.ofInt (IntKind.bits IntKind.u8) (List.getD a (2 : Nat) (0 : Int)) &&& BitVec.ofInt (IntKind.bits IntKind.u8) (List.getD b (2 : Nat) (0 : Int)))) : Int) == List.getD a (2 : Nat) (0 : Int) && (IntKind.wrap IntKind.u8 (↑(BitVec.toNat (BitVec.ofInt (IntKind.bits IntKind.u8) (List.getD a (3 : Nat) (0 : Int)) &&& BitVec.ofInt (IntKind.bits IntKind.u8) (List.getD b (3 : Nat) (0 : Int)))) : Int) == List.getD a (3 : Nat) (0 : Int) && (IntKind.wrap IntKind.u8 (↑(BitVec.toNat (BitVec.ofInt (IntKind.bits IntKind.u8) (List.getD a (4 : Nat) (0 : Int)) &&& BitVec.ofInt (IntKind.bits IntKind.u8) (List.getD b (4 : Nat) (0 : Int)))) : Int) == List.getD a (4 : Nat) (0 : Int) && (IntKind.wrap IntKind.u8 (↑(BitVec.toNat (BitVec.ofInt (IntKind.bits IntKind.u8) (List.getD a (5 : Nat) (0 : Int)) &&& BitVec.ofInt (IntKind.bits IntKind.u8) (List.getD b (5 : Nat) (0 : Int)))) : Int) == List.getD a (5 : Nat) (0 : Int) && (IntKind.wrap IntKind.u8 (↑(BitVec.toNat (BitVec.ofInt (IntKind.bits IntKind.u8) (List.getD a (6 : Nat) (0 : Int)) &&& BitVec.ofInt (IntKind.bits IntKind.u8) (List.getD b (6 : Nat) (0 : Int)))) : Int) == List.getD a (6 : Nat) (0 : Int) && (IntKind.wrap IntKind.u8 (↑(BitVec.toNat (BitVec.ofInt (IntKind.bits IntKind.u8) (List.getD a (7 : Nat) (0 : Int)) &&& BitVec.ofInt (IntKind.bits IntKind.u8) (List.getD b (7 : Nat) (0 : Int)))) : Int) == List.getD a (7 : Nat) (0 : Int) && (IntKind.wrap IntKind.u8 (↑(BitVec.toNat (BitVec.ofInt (IntKind.bits IntKind.u8) (List.getD a (8 : Nat) (0 : Int)) &&& BitVec.ofInt (IntKind.bits IntKind.u8) (List.getD b (8 : Nat) (0 : Int)))) : Int) == List.getD a (8 : Nat) (0 : Int) && (IntKind.wrap IntKind.u8 (↑(BitVec.toNat (BitVec.ofInt (IntKind.bits IntKind.u8) (List.getD a (9 : Nat) (0 : Int)) &&& BitVec.ofInt (IntKind.bits IntKind.u8) (List.getD b (9 : Nat) (0 : Int)))) : Int) == List.getD a (9 : Nat) (0 : Int) && (IntKind.wrap IntKind.u8 (↑(BitVec.toNat (BitVec.ofInt (IntKind.bits IntKind.u8) (List.getD a (10 : Nat) (0 : Int)) &&& BitVec.ofInt (IntKind.bits IntKind.u8) (List.getD b (10 : Nat) (0 : Int)))) : Int) == List.getD a (10 : Nat) (0 : Int) && (IntKind.wrap IntKind.u8 (↑(BitVec.toNat (BitVec.ofInt (IntKind.bits IntKind.u8) (List.getD a (11 : Nat) (0 : Int)) &&& BitVec.ofInt (IntKind.bits IntKind.u8) (List.getD b (11 : Nat) (0 : Int)))) : Int) == List.getD a (11 : Nat) (0 : Int) && (IntKind.wrap IntKind.u8 (↑(BitVec.toNat (BitVec.ofInt (IntKind.bits IntKind.u8) (List.getD a (12 : Nat) (0 : Int)) &&& BitVec.ofInt (IntKind.bits IntKind.u8) (List.getD b (12 : Nat) (0 : Int)))) : Int) == List.getD a (12 : Nat) (0 : Int) && (IntKind.wrap IntKind.u8 (↑(BitVec.toNat (BitVec.ofInt (IntKind.bits IntKind.u8) (List.getD a (13 : Nat) (0 : Int)) &&& BitVec.ofInt (IntKind.bits IntKind.u8) (List.getD b (13 : Nat) (0 : Int)))) : Int) == List.getD a (13 : Nat) (0 : Int) && (IntKind.wrap IntKind.u8 (↑(BitVec.toNat (BitVec.ofInt (IntKind.bits IntKind.u8) (List.getD a (14 : Nat) (0 : Int)) &&& BitVec.ofInt (IntKind.bits IntKind.u8) (List.getD b (14 : Nat) (0 : Int)))) : Int) == List.getD a (14 : Nat) (0 : Int) && (IntKind.wrap IntKind.u8 (↑(BitVec.toNat (BitVec.ofInt (IntKind.bits IntKind.u8) (List.getD a (15 : Nat) (0 : Int)) &&& BitVec.ofInt (IntKind.bits IntKind.u8) (List.getD b (15 : Nat) (0 : Int)))) : Int) == List.getD a (15 : Nat) (0 : Int) && (IntKind.wrap IntKind.u8 (↑(BitVec.toNat (BitVec.ofInt (IntKind.bits IntKind.u8) (List.getD a (16 : Nat) (0 : Int)) &&& BitVec.ofInt (IntKind.bits IntKind.u8) (List.getD b (16 : Nat) (0 : Int)))) : Int) == List.getD a (16 : Nat) (0 : Int) && (IntKind.wrap IntKind.u8 (↑(BitVec.toNat (BitVec.ofInt (IntKind.bits IntKind.u8) (List.getD a (17 : Nat) (0 : Int)) &&& BitVec.ofInt (IntKind.bits IntKind.u8) (List.getD b (17 : Nat) (0 : Int)))) : Int) == List.getD a (17 : Nat) (0 : Int) && (IntKind.wrap IntKind.u8 (↑(BitVec.toNat (BitVec.ofInt (IntKind.bits IntKind.u8) (List.getD a (18 : Nat) (0 : Int)) &&& BitVec.ofInt (IntKind.bits IntKind.u8) (List.getD b (18 : Nat) (0 : Int)))) : Int) == List.getD a (18 : Nat) (0 : Int) && (IntKind.wrap IntKind.u8 (↑(BitVec.toNat (BitVec.ofInt (IntKind.bits IntKind.u8) (List.getD a (19 : Nat) (0 : Int)) &&& BitVec.ofInt (IntKind.bits IntKind.u8) (List.getD b (19 : Nat) (0 : Int)))) : Int) == List.getD a (19 : Nat) (0 : Int) && (IntKind.wrap IntKind.u8 (↑(BitVec.toNat (BitVec.ofInt (IntKind.bits IntKind.u8) (List.getD a (20 : Nat) (0 : Int)) &&& BitVec.ofInt (IntKind.bits IntKind.u8) (List.getD b (20 : Nat) (0 : Int)))) : Int) == List.getD a (20 : Nat) (0 : Int) && (IntKind.wrap IntKind.u8 (↑(BitVec.toNat (BitVec.ofInt (IntKind.bits IntKind.u8) (List.getD a (21 : Nat) (0 : Int)) &&& BitVec.ofInt (IntKind.bits IntKind.u8) (List.getD b (21 : Nat) (0 : Int)))) : Int) == List.getD a (21 : Nat) (0 : Int) && (IntKind.wrap IntKind.u8 (↑(BitVec.toNat (BitVec.ofInt (IntKind.bits IntKind.u8) (List.getD a (22 : Nat) (0 : Int)) &&& BitVec.ofInt (IntKind.bits IntKind.u8) (List.getD b (22 : Nat) (0 : Int)))) : Int) == List.getD a (22 : Nat) (0 : Int) && (IntKind.wrap IntKind.u8 (↑(BitVec.toNat (BitVec.ofInt (IntKind.bits IntKind.u8) (List.getD a (23 : Nat) (0 : Int)) &&& BitVec.ofInt (IntKind.bits IntKind.u8) (List.getD b (23 : Nat) (0 : Int)))) : Int) == List.getD a (23 : Nat) (0 : Int) && (IntKind.wrap IntKind.u8 (↑(BitVec.toNat (BitVec.ofInt (IntKind.bits IntKind.u8) (List.getD a (24 : Nat) (0 : Int)) &&& BitVec.ofInt (IntKind.bits IntKind.u8) (List.getD b (24 : Nat) (0 : Int)))) : Int) == List.getD a (24 : Nat) (0 : Int) && (IntKind.wrap IntKind.u8 (↑(BitVec.toNat (BitVec.ofInt (IntKind.bits IntKind.u8) (List.getD a (25 : Nat) (0 : Int)) &&& BitVec.ofInt (IntKind.bits IntKind.u8) (List.getD b (25 : Nat) (0 : Int)))) : Int) == List.getD a (25 : Nat) (0 : Int) && (IntKind.wrap IntKind.u8 (↑(BitVec.toNat (BitVec.ofInt (IntKind.bits IntKind.u8) (List.getD a (26 : Nat) (0 : Int)) &&& BitVec.ofInt (IntKind.bits IntKind.u8) (List.getD b (26 : Nat) (0 : Int)))) : Int) == List.getD a (26 : Nat) (0 : Int) && (IntKind.wrap IntKind.u8 (↑(BitVec.toNat (BitVec.ofInt (IntKind.bits IntKind.u8) (List.getD a (27 : Nat) (0 : Int)) &&& BitVec.ofInt (IntKind.bits IntKind.u8) (List.getD b (27 : Nat) (0 : Int)))) : Int) == List.getD a (27 : Nat) (0 : Int) && (IntKind.wrap IntKind.u8 (↑(BitVec.toNat (BitVec.ofInt (IntKind.bits IntKind.u8) (List.getD a (28 : Nat) (0 : Int)) &&& BitVec.ofInt (IntKind.bits IntKind.u8) (List.getD b (28 : Nat) (0 : Int)))) : Int) == List.getD a (28 : Nat) (0 : Int) && IntKind.wrap IntKind.u8 (↑(BitVec.toNat (BitVec.ofInt (IntKind.bits IntKind.u8) (List.getD a (29 : Nat) (0 : Int)) &&& BitVec.ofInt (IntKind.bits IntKind.u8) (List.getD b (29 : Nat) (0 : Int)))) : Int) == List.getD a (29 : Nat) (0 : Int)))))))))))))))))))))))))))))) = true → (Value.agg (Array.mk (catsL a)) = Value.agg (Array.mk (catsL a)) ∧ Value.agg (Array.mk (catsL a)) = Value.agg (Array.mk (catsL a)) ∧ Value.agg (Array.mk (catsL a)) = Value.agg (Array.mk (catsL a)) ∧ Value.agg (Array.mk (catsL a)) = Value.agg (Array.mk (catsL a)) ∧ Value.agg (Array.mk (catsL a)) = Value.agg (Array.mk (catsL a))) ∧ Value.bool true = Value.bool (withinC a b)) ∧ ((IntKind.wrap IntKind.u8 (↑(BitVec.toNat (BitVec.ofInt (IntKind.bits IntKind.u8) (List.getD a (0 : Nat) (0 : Int)) &&& BitVec.ofInt (IntKind.bits IntKind.u8) (List.getD b (0 : Nat) (0 : Int)))) : Int) == List.getD a (0 : Nat) (0 : Int) && (IntKind.wrap IntKind.u8 (↑(BitVec.toNat (BitVec.ofInt (IntKind.bits IntKind.u8) (List.getD a (1 : Nat) (0 : Int)) &&& BitVec.ofInt (IntKind.bits IntKind.u8) (List.getD b (1 : Nat) (0 : Int)))) : Int) == List.getD a (1 : Nat) (0 : Int) && (IntKind.wrap IntKind.u8 (↑(BitVec.toNat (BitVec.ofInt (IntKind.bits IntKind.u8) (List.getD a (2 : Nat) (0 : Int)) &&& BitVec.ofInt (IntKind.bits IntKind.u8) (List.getD b (2 : Nat) (0 : Int)))) : Int) == List.getD a (2 : Nat) (0 : Int) && (IntKind.wrap IntKind.u8 (↑(BitVec.toNat (BitVec.ofInt (IntKind.bits IntKind.u8) (List.getD a (3 : Nat) (0 : Int)) &&& BitVec.ofInt (IntKind.bits IntKind.u8) (List.getD b (3 : Nat) (0 : Int)))) : Int) == List.getD a (3 : Nat) (0 : Int) && (IntKind.wrap IntKind.u8 (↑(BitVec.toNat (BitVec.ofInt (IntKind.bits IntKind.u8) (List.getD a (4 : Nat) (0 : Int)) &&& BitVec.ofInt (IntKind.bits IntKind.u8) (List.getD b (4 : Nat) (0 : Int)))) : Int) == List.getD a (4 : Nat) (0 : Int) && (IntKind.wrap IntKind.u8 (↑(BitVec.toNat (BitVec.ofInt (IntKind.bits IntKind.u8) (List.getD a (5 : Nat) (0 : Int)) &&& BitVec.ofInt (IntKind.bits IntKind.u8) (List.getD b (5 : Nat) (0 : Int)))) : Int) == List.getD a (5 : Nat) (0 : Int) && (IntKind.wrap IntKind.u8 (↑(BitVec.toNat (BitVec.ofInt (IntKind.bits IntKind.u8) (List.getD a (6 : Nat) (0 : Int)) &&& BitVec.ofInt (IntKind.bits IntKind.u8) (List.getD b (6 : Nat) (0 : Int)))) : Int) == List.getD a (6 : Nat) (0 : Int) && (IntKind.wrap IntKind.u8 (↑(BitVec.toNat (BitVec.ofInt (IntKind.bits IntKind.u8) (List.getD a (7 : Nat) (0 : Int)) &&& BitVec.ofInt (IntKind.bits IntKind.u8) (List.getD b (7 : Nat) (0 : Int)))) : Int) == List.getD a (7 : Nat) (0 : Int) && (IntKind.wrap IntKind.u8 (↑(BitVec.toNat (BitVec.ofInt (IntKind.bits IntKind.u8) (List.getD a (8 : Nat) (0 : Int)) &&& BitVec.ofInt (IntKind.bits IntKind.u8) (List.getD b (8 : Nat) (0 : Int)))) : Int) == List.getD a (8 : Nat) (0 : Int) && (IntKind.wrap IntKind.u8 (↑(BitVec.toNat (BitVec.ofInt (IntKind.bits IntKind.u8) (List.getD a (9 : Nat) (0 : Int)) &&& BitVec.ofInt (IntKind.bits IntKind.u8) (List.getD b (9 : Nat) (0 : Int)))) : Int) == List.getD a (9 : Nat) (0 : Int) && (IntKind.wrap IntKind.u8 (↑(BitVec.toNat (BitVec.ofInt (IntKind.bits IntKind.u8) (List.getD a (10 : Nat) (0 : Int)) &&& BitVec.ofInt (IntKind.bits IntKind.u8) (List.getD b (10 : Nat) (0 : Int)))) : Int) == List.getD a (10 : Nat) (0 : Int) && (IntKind.wrap IntKind.u8 (↑(BitVec.toNat (BitVec.ofInt (IntKind.bits IntKind.u8) (List.getD a (11 : Nat) (0 : Int)) &&& BitVec.ofInt (IntKind.bits IntKind.u8) (List.getD b (11 : Nat) (0 : Int)))) : Int) == List.getD a (11 : Nat) (0 : Int) && (IntKind.wrap IntKind.u8 (↑(BitVec.toNat (BitVec.ofInt (IntKind.bits IntKind.u8) (List.getD a (12 : Nat) (0 : Int)) &&& BitVec.ofInt (IntKind.bits IntKind.u8) (List.getD b (12 : Nat) (0 : Int)))) : Int) == List.getD a (12 : Nat) (0 : Int) && (IntKind.wrap IntKind.u8 (↑(BitVec.toNat (BitVec.ofInt (IntKind.bits IntKind.u8) (List.getD a (13 : Nat) (0 : Int)) &&& BitVec.ofInt (IntKind.bits IntKind.u8) (List.getD b (13 : Nat) (0 : Int)))) : Int) == List.getD a (13 : Nat) (0 : Int) && (IntKind.wrap IntKind.u8 (↑(BitVec.toNat (BitVec.ofInt (IntKind.bits IntKind.u8) (List.getD a (14 : Nat) (0 : Int)) &&& BitVec.ofInt (IntKind.bits IntKind.u8) (List.getD b (14 : Nat) (0 : Int)))) : Int) == List.getD a (14 : Nat) (0 : Int) && (IntKind.wrap IntKind.u8 (↑(BitVec.toNat (BitVec.ofInt (IntKind.bits IntKind.u8) (List.getD a (15 : Nat) (0 : Int)) &&& BitVec.ofInt (IntKind.bits IntKind.u8) (List.getD b (15 : Nat) (0 : Int)))) : Int) == List.getD a (15 : Nat) (0 : Int) && (IntKind.wrap IntKind.u8 (↑(BitVec.toNat (BitVec.ofInt (IntKind.bits IntKind.u8) (List.getD a (16 : Nat) (0 : Int)) &&& BitVec.ofInt (IntKind.bits IntKind.u8) (List.getD b (16 : Nat) (0 : Int)))) : Int) == List.getD a (16 : Nat) (0 : Int) && (IntKind.wrap IntKind.u8 (↑(BitVec.toNat (BitVec.ofInt (IntKind.bits IntKind.u8) (List.getD a (17 : Nat) (0 : Int)) &&& BitVec.ofInt (IntKind.bits IntKind.u8) (List.getD b (17 : Nat) (0 : Int)))) : Int) == List.getD a (17 : Nat) (0 : Int) && (IntKind.wrap IntKind.u8 (↑(BitVec.toNat (BitVec.ofInt (IntKind.bits IntKind.u8) (List.getD a (18 : Nat) (0 : Int)) &&& BitVec.ofInt (IntKind.bits IntKind.u8) (List.getD b (18 : Nat) (0 : Int)))) : Int) == List.getD a (18 : Nat) (0 : Int) && (IntKind.wrap IntKind.u8 (↑(BitVec.toNat (BitVec.ofInt (IntKind.bits IntKind.u8) (List.getD a (19 : Nat) (0 : Int)) &&& BitVec.ofInt (IntKind.bits IntKind.u8) (List.getD b (19 : Nat) (0 : Int)))) : Int) == List.getD a (19 : Nat) (0 : Int) && (IntKind.wrap IntKind.u8 (↑(BitVec.toNat (BitVec.ofInt (IntKind.bits IntKind.u8) (List.getD a (20 : Nat) (0 : Int)) &&& BitVec.ofInt (IntKind.bits IntKind.u8) (List.getD b (20 : Nat) (0 : Int)))) : Int) == List.getD a (20 : Nat) (0 : Int) && (IntKind.wrap IntKind.u8 (↑(BitVec.toNat (BitVec.ofInt (IntKind.bits IntKind.u8) (List.getD a (21 : Nat) (0 : Int)) &&& BitVec.ofInt (IntKind.bits IntKind.u8) (List.getD b (21 : Nat) (0 : Int)))) : Int) == List.getD a (21 : Nat) (0 : Int) && (IntKind.wrap IntKind.u8 (↑(BitVec.toNat (BitVec.ofInt (IntKind.bits IntKind.u8) (List.getD a (22 : Nat) (0 : Int)) &&& BitVec.ofInt (IntKind.bits IntKind.u8) (List.getD b (22 : Nat) (0 : Int)))) : Int) == List.getD a (22 : Nat) (0 : Int) && (IntKind.wrap IntKind.u8 (↑(BitVec.toNat (BitVec.ofInt (IntKind.bits IntKind.u8) (List.getD a (23 : Nat) (0 : Int)) &&& BitVec.ofInt (IntKind.bits IntKind.u8) (List.getD b (23 : Nat) (0 : Int)))) : Int) == List.getD a (23 : Nat) (0 : Int) && (IntKind.wrap IntKind.u8 (↑(BitVec.toNat (BitVec.ofInt (IntKind.bits IntKind.u8) (List.getD a (24 : Nat) (0 : Int)) &&& BitVec.ofInt (IntKind.bits IntKind.u8) (List.getD b (24 : Nat) (0 : Int)))) : Int) == List.getD a (24 : Nat) (0 : Int) && (IntKind.wrap IntKind.u8 (↑(BitVec.toNat (BitVec.ofInt (IntKind.bits IntKind.u8) (List.getD a (25 : Nat) (0 : Int)) &&& BitVec.ofInt (IntKind.bits IntKind.u8) (List.getD b (25 : Nat) (0 : Int)))) : Int) == List.getD a (25 : Nat) (0 : Int) && (IntKind.wrap IntKind.u8 (↑(BitVec.toNat (BitVec.ofInt (IntKind.bits IntKind.u8) (List.getD a (26 : Nat) (0 : Int)) &&& BitVec.ofInt (IntKind.bits IntKind.u8) (List.getD b (26 : Nat) (0 : Int)))) : Int) == List.getD a (26 : Nat) (0 : Int) && (IntKind.wrap IntKind.u8 (↑(BitVec.toNat (BitVec.ofInt (IntKind.bits IntKind.u8) (List.getD a (27 : Nat) (0 : Int)) &&& BitVec.ofInt (IntKind.bits IntKind.u8) (List.getD b (27 : Nat) (0 : Int)))) : Int) == List.getD a (27 : Nat) (0 : Int) && (IntKind.wrap IntKind.u8 (↑(BitVec.toNat (BitVec.ofInt (IntKind.bits IntKind.u8) (List.getD a (28 : Nat) (0 : Int)) &&& BitVec.ofInt (IntKind.bits IntKind.u8) (List.getD b (28 : Nat) (0 : Int)))) : Int) == List.getD a (28 : Nat) (0 : Int) && IntKind.wrap IntKind.u8 (↑(BitVec.toNat (BitVec.ofInt (IntKind.bits IntKind.u8) (List.getD a (29 : Nat) (0 : Int)) &&& BitVec.ofInt (IntKind.bits IntKind.u8) (List.getD b (29 : Nat) (0 : Int)))) : Int) == List.getD a (29 : Nat) (0 : Int)))))))))))))))))))))))))))))) = false → (Value.agg (Array.mk (catsL a)) = Value.agg (Array.mk (catsL a)) ∧ Value.agg (Array.mk (catsL a)) = Value.agg (Array.mk (catsL a)) ∧ Value.agg (Array.mk (catsL a)) = Value.agg (Array.mk (catsL a)) ∧ Value.agg (Array.mk (catsL a)) = Value.agg (Array.mk (catsL a)) ∧ Value.agg (Array.mk (catsL a)) = Value.agg (Array.mk (catsL a))) ∧ Value.bool false = Value.bool (withinC a b))) (by kernel_rfl) (by
    have e : List.range 30 = [0, 1, 2, 3, 4, 5, 6, 7, 8, 9, 10, 11, 12, 13, 14, 15, 16, 17, 18, 19, 20, 21, 22, 23, 24, 25, 26, 27, 28, 29] := rfl
    refine ⟨trivial, fun h => ⟨by simp only [and_self], congrArg Value.bool (h.symm.trans ?_)⟩, fun h => ⟨by simp only [and_self], congrArg Value.bool (h.symm.trans ?_)⟩⟩
    all_goals (rw [withinC, e]; simp only [List.all_cons, List.all_nil, Bool.and_true]; rfl))
end Go.Proofs.YtidlganponfccaaDoor

end
section
/- Labels and prefixes, compared. -/
set_option linter.unusedVariables false
set_option linter.unusedSimpArgs false
set_option maxRecDepth 100000
set_option linter.unusedVariables false
set_option linter.unusedSimpArgs false
namespace Go.Proofs.YtidlganponfccaaDoor
open Go Go.Ideal

def catsEq (a b : List Int) : Bool := a.getD 0 0 == b.getD 0 0 && (a.getD 1 0 == b.getD 1 0 && (a.getD 2 0 == b.getD 2 0 && (a.getD 3 0 == b.getD 3 0 && (a.getD 4 0 == b.getD 4 0 && (a.getD 5 0 == b.getD 5 0 && (a.getD 6 0 == b.getD 6 0 && (a.getD 7 0 == b.getD 7 0 && (a.getD 8 0 == b.getD 8 0 && (a.getD 9 0 == b.getD 9 0 && (a.getD 10 0 == b.getD 10 0 && (a.getD 11 0 == b.getD 11 0 && (a.getD 12 0 == b.getD 12 0 && (a.getD 13 0 == b.getD 13 0 && (a.getD 14 0 == b.getD 14 0 && (a.getD 15 0 == b.getD 15 0 && (a.getD 16 0 == b.getD 16 0 && (a.getD 17 0 == b.getD 17 0 && (a.getD 18 0 == b.getD 18 0 && (a.getD 19 0 == b.getD 19 0 && (a.getD 20 0 == b.getD 20 0 && (a.getD 21 0 == b.getD 21 0 && (a.getD 22 0 == b.getD 22 0 && (a.getD 23 0 == b.getD 23 0 && (a.getD 24 0 == b.getD 24 0 && (a.getD 25 0 == b.getD 25 0 && (a.getD 26 0 == b.getD 26 0 && (a.getD 27 0 == b.getD 27 0 && (a.getD 28 0 == b.getD 28 0 && (a.getD 29 0 == b.getD 29 0)))))))))))))))))))))))))))))
def lblEq (x y : Lbl) : Bool := x.level == y.level && catsEq x.cats y.cats
def pfxEq (x y : Pfx) : Bool := x.addr == y.addr && x.bits == y.bits
theorem catsEq_all (a b : List Int) : catsEq a b = (List.range 30).all fun i => a.getD i 0 == b.getD i 0 := by
  have e : List.range 30 = [0, 1, 2, 3, 4, 5, 6, 7, 8, 9, 10, 11, 12, 13, 14, 15, 16, 17, 18, 19, 20, 21, 22, 23, 24, 25, 26, 27, 28, 29] := rfl
  rw [e]
  simp only [List.all_cons, List.all_nil, Bool.and_true]
  rfl
theorem catsEq_iff {a b : List Int} (ha : a.length = 30) (hb : b.length = 30) : catsEq a b = true ↔ a = b := by
  rw [catsEq_all, List.all_eq_true]
  constructor
  · intro h
    refine List.ext_getElem (ha.trans hb.symm) fun i h1 h2 => ?_
    have := h i (by rw [List.mem_range]; omega)
    simpa [List.getD, List.getElem?_eq_getElem h1, List.getElem?_eq_getElem h2] using this
  · intro h i _; subst h; simp
theorem lblEq_iff {x y : Lbl} (hx : x.cats.length = 30) (hy : y.cats.length = 30) : lblEq x y = true ↔ x = y := by
  unfold lblEq
  rw [Bool.and_eq_true, catsEq_iff hx hy, beq_iff_eq]
  cases x; cases y; simp
theorem pfxEq_iff {x y : Pfx} : pfxEq x y = true ↔ x = y := by
  unfold pfxEq
  rw [Bool.and_eq_true, beq_iff_eq, beq_iff_eq]
  cases x; cases y; simp
theorem getD_mem {α : Type} {l : List α} {d : α} {i : Nat} (h : i < l.length) : l.getD i d ∈ l := by
  simp only [List.getD, List.getElem?_eq_getElem h, Option.getD_some]; exact List.getElem_mem h

/-- A part of a list's cells. -/
theorem cellsOf_drop {α : Type} {f : α → List Value} {n : Nat} (hf : ∀ a, (f a).length = n) : ∀ (l : List α) (k : Nat), k ≤ l.length → (cellsOf f l).drop (k * n) = cellsOf f (l.drop k)
  | l, 0, _ => by simp
  | [], k + 1, h => by simp at h
  | a :: l, k + 1, h => by
    simp only [cellsOf, List.drop_succ_cons]
    rw [show (k + 1) * n = (f a).length + k * n by rw [hf, Nat.succ_mul, Nat.add_comm], ← List.drop_drop, List.drop_left]
    exact cellsOf_drop hf l k (by simpa using h)
theorem cellsOf_part {α : Type} {f : α → List Value} {n : Nat} (hf : ∀ a, (f a).length = n) {l : List α} {k : Nat} (d : α) (hk : k < l.length) (r m : Nat) (hr : r + m ≤ n) (out : List Value) (ho : ((f (l.getD k d)).drop r).take m = out) {P : Program} :
    (Ask.part (cellsOf f l) (k * n + r) m out).holds P := by
  refine ⟨?_, ?_⟩
  · rw [cellsOf_length hf]
    have : (k + 1) * n ≤ l.length * n := Nat.mul_le_mul_right n hk
    rw [Nat.succ_mul] at this; omega
  · rw [← List.drop_drop, cellsOf_drop hf l k (Nat.le_of_lt hk)]
    have e : l.drop k = l.getD k d :: l.drop (k + 1) := by
      simp only [List.getD, List.getElem?_eq_getElem hk, Option.getD_some]; exact List.drop_eq_getElem_cons hk
    rw [e]; simp only [cellsOf]
    rw [List.drop_append_of_le_length (by rw [hf]; omega), List.take_append_of_le_length (by rw [List.length_drop, hf]; omega)]
    exact ho
end Go.Proofs.YtidlganponfccaaDoor

end
section
/- Sets and labels, compared: by the program's types. -/
set_option maxRecDepth 100000
set_option linter.unusedVariables false
set_option linter.unusedSimpArgs false
namespace Go.Proofs.YtidlganponfccaaDoor
open Go Go.Ideal
theorem catsEq_eqD (x y : List Int) : eqD Tryd.prog 10000 23 (catsV x) (catsV y) = some (catsEq x y) := by kernel_rfl
theorem lblEq_eqD (x y : Lbl) : eqD Tryd.prog 10000 43 (lblV x) (lblV y) = some (lblEq x y) := by kernel_rfl
end Go.Proofs.YtidlganponfccaaDoor

end
section
/- What the library's functions answer, as told by contracts over any world. Over any program. -/
set_option linter.unusedVariables false
set_option linter.unusedSimpArgs false
namespace Go.Ideal
open Go.RowKit
variable {P : Program}
/-- The world goes on: nothing that was there is another. -/
theorem HRel.goes {B : Nat} {w0 : Org} {σ : Sg} {h : Heap} {w w' : World} (H : HRel P B w0 σ h w) (hb' : Below w.heap.size w w') : HRel P B w0 σ h w' := by
  have hs := H.size
  refine ⟨H.below.trans (hb'.mono hs), Nat.le_trans hs hb'.size, H.dom, fun i x hx => Nat.lt_of_lt_of_le (H.codom i x hx) hb'.size, H.glob, fun i b hg => ?_, H.inj, ?_, H.old, H.tdom⟩
  · exact (H.blk i b hg).same fun _ b' hl => hb'.block _ (H.blk_lt hg hl)
  · refine ⟨fun b o v hv => ?_, fun b es he => ?_⟩
    · obtain ⟨cc, t, fz, q1, q2⟩ := H.frz.c b o v hv
      exact ⟨cc, t, fz, by rw [hb'.block _ (Array.getElem?_eq_some_iff.1 q1).1]; exact q1, q2⟩
    · obtain ⟨cl, q⟩ := H.frz.m b es he
      exact ⟨cl, by rw [hb'.block _ (Array.getElem?_eq_some_iff.1 q).1]; exact q⟩
theorem CallK.ofBelow {f : FuncId} {args : List Value} {v : Value} (hv : flat v = true) (hc : ∀ (σ : Sg) (w : World) (args' : Array Value), FzOK σ.f w → LRel σ args args'.toList → Calls P f args' w fun e w' => e = .returned v ∧ Below w.heap.size w w') : CallK P f args v :=
  fun h B w0 σ w args' H ha => (hc σ w args' H.frz ha).mono fun e w' ⟨k1, k2⟩ => ⟨v, v, h, k1, ⟨rfl, rfl⟩, σ, Sg.le_refl σ, flat_rel hv σ, H.goes k2⟩
theorem CallK.ofGoes {f : FuncId} {args : List Value} {v : Value} (hc : ∀ (σ : Sg) (w : World) (args' : Array Value), SentAt P w.heap.size w → FzOK σ.f w → LRel σ args args'.toList → Calls P f args' w fun e w' => ∃ v', e = .returned v' ∧ (∀ τ : Sg, VRel τ v v') ∧ Below w.heap.size w w') : CallK P f args v :=
  fun h B w0 σ w args' H ha => (hc σ w args' (H.old.2.goes H.below H.size) H.frz ha).mono fun e w' ⟨v', k1, k2, k3⟩ => ⟨v, v', h, k1, ⟨rfl, rfl⟩, σ, Sg.le_refl σ, k2 σ, H.goes k3⟩
theorem CallK.ofSame {f : FuncId} {args : List Value} {v : Value} (hv : flat v = true) (ha : args.all flat = true) (hc : ∀ (w : World), Calls P f args.toArray w fun e w' => e = .returned v ∧ w' = w) : CallK P f args v :=
  CallK.ofBelow hv fun σ w args' _ hr => by
    have : ∀ {l l' : List Value}, LRel σ l l' → l.all flat = true → l = l' := fun {l l'} h => by
      induction h with
      | nil => intro _; rfl
      | cons k _ ih => intro hh; simp only [List.all_cons, Bool.and_eq_true] at hh; rw [flat_eq hh.1 k, ih hh.2]
    have e : args.toArray = args' := by rw [this hr ha]
    subst e
    exact (hc w).mono fun e w' ⟨k1, k2⟩ => ⟨k1, by rw [k2]; exact Below.refl _ _⟩
/-- A slice of flat cells that stay: where they lie. -/
theorem vsl_cells {σ : Sg} {w : World} (hF : FzOK σ.f w) {n : Nat} (hn : 0 < n) {cs : List Value} (hl : cs.length = n) (hf : cs.all flat = true) {v : Value} (h : VRel σ (vsl n cs.toArray) v) :
    ∃ b o c, v = .slice (some ⟨b, o, none⟩) n c ∧ n ≤ c ∧ b < w.heap.size ∧ ∀ j x, cs[j]? = some x → w.cell? ⟨b, o + j, none⟩ = some x := by
  have hs : asSl (vsl n cs.toArray) = some ((n : Int), cs.toArray) := rfl
  obtain ⟨m, e, ⟨a', c', rfl, hm, hcs⟩ | ⟨b, o, c', rfl, hc, ms, h1, h2, h3⟩⟩ := asSl_rel hs h
  · exfalso; omega
  · obtain rfl : n = m := by exact Int.ofNat.inj e
    have hms : ms.size = n := by rw [← h1]; simpa using hl
    have key : ∀ j x, cs[j]? = some x → ∃ cc t fz, w.heap[b]? = some (.cells cc t fz) ∧ cc[o + j]? = some x := fun j x hx => by
      obtain ⟨hj, hx2⟩ := List.getElem?_eq_some_iff.1 hx
      have hr := h3 j
      have e1 : cs.toArray.getD j Go.undef = x := by simp [Array.getD, hj, hx2]
      rw [e1] at hr
      have hfx : flat x = true := List.all_eq_true.1 hf x (hx2 ▸ List.getElem_mem hj)
      have e2 := flat_eq hfx (FRel.vrel (σ := σ) hr)
      obtain ⟨cc, t, fz, q1, q2⟩ := hF.c b (o + j) _ (h2 j (by omega))
      exact ⟨cc, t, fz, q1, by rw [q2, e2]⟩
    refine ⟨b, o, c', rfl, hc, ?_, fun j x hx => ?_⟩
    · obtain ⟨cc, t, fz, q1, _⟩ := key 0 _ (List.getElem?_eq_getElem (by omega))
      exact (Array.getElem?_eq_some_iff.1 q1).1
    · obtain ⟨cc, t, fz, q1, q2⟩ := key j x hx
      simp [World.cell?, q1, q2]
end Go.Ideal

end
section
/- Lists: the first element of which something holds; what is wrong first. -/
set_option linter.unusedVariables false
set_option linter.unusedSimpArgs false
namespace Go.Proofs.YtidlganponfccaaDoor
open Go Go.Ideal

/-- The first place; -1: there is none. -/
def idxB {α : Type} (xs : List α) (p : α → Bool) : Int := match xs.findIdx? p with
  | some i => i
  | none => -1
theorem idxB_some {α : Type} {xs : List α} {p : α → Bool} {d : α} {k : Nat} (hk : k < xs.length) (h : p (xs.getD k d) = true) (no : ∀ j, j < k → p (xs.getD j d) = false) : idxB xs p = k := by
  have : xs.findIdx? p = some k := by
    rw [List.findIdx?_eq_some_iff_getElem]
    refine ⟨hk, by simpa [List.getD, List.getElem?_eq_getElem hk] using h, fun j hj => ?_⟩
    have := no j hj
    have hj2 : j < xs.length := by omega
    simpa [List.getD, List.getElem?_eq_getElem hj2] using this
  unfold idxB; rw [this]
theorem idxB_none {α : Type} {xs : List α} {p : α → Bool} {d : α} (no : ∀ j, j < xs.length → p (xs.getD j d) = false) : idxB xs p = -1 := by
  have : xs.findIdx? p = none := by
    rw [List.findIdx?_eq_none_iff]
    intro y hy
    obtain ⟨j, hj, e⟩ := List.getElem_of_mem hy
    have := no j hj
    simpa [List.getD, List.getElem?_eq_getElem hj, e] using this
  unfold idxB; rw [this]
/-- What is known of it. -/
theorem idxB_cases {α : Type} (xs : List α) (p : α → Bool) (d : α) : (∃ k : Nat, k < xs.length ∧ idxB xs p = k ∧ p (xs.getD k d) = true ∧ ∀ j, j < k → p (xs.getD j d) = false) ∨ (idxB xs p = -1 ∧ ∀ j, j < xs.length → p (xs.getD j d) = false) := by
  cases h : xs.findIdx? p with
  | none =>
    right
    refine ⟨by unfold idxB; rw [h], fun j hj => ?_⟩
    have := List.findIdx?_eq_none_iff.1 h (xs.getD j d) (getD_mem hj)
    simpa using this
  | some k =>
    left
    obtain ⟨h1, h2, h3⟩ := List.findIdx?_eq_some_iff_getElem.1 h
    refine ⟨k, h1, by unfold idxB; rw [h], by simpa [List.getD, List.getElem?_eq_getElem h1] using h2, fun j hj => ?_⟩
    have hj2 : j < xs.length := by omega
    simpa [List.getD, List.getElem?_eq_getElem hj2] using h3 j hj
theorem anyB_true {α : Type} {xs : List α} {p : α → Bool} {d : α} {k : Nat} (hk : k < xs.length) (h : p (xs.getD k d) = true) : xs.any p = true := List.any_eq_true.2 ⟨_, getD_mem hk, h⟩
theorem anyB_false {α : Type} {xs : List α} {p : α → Bool} {d : α} (no : ∀ j, j < xs.length → p (xs.getD j d) = false) : xs.any p = false := by
  rw [List.any_eq_false]
  intro y hy
  obtain ⟨j, hj, e⟩ := List.getElem_of_mem hy
  have := no j hj
  simpa [List.getD, List.getElem?_eq_getElem hj, e] using this
theorem anyB_idx {α : Type} [Inhabited α] (xs : List α) (p : α → Bool) : decide (0 ≤ idxB xs p) = xs.any p := by
  rcases idxB_cases xs p default with ⟨k, h1, h2, h3, _⟩ | ⟨h1, h2⟩
  · rw [h2, anyB_true h1 h3]; exact decide_eq_true (by omega)
  · rw [h1, anyB_false h2]; rfl

/-- The first place at which something is wrong, and what. -/
def firstBad (n : Nat) (bad : Nat → Int) : Int × Int := match (List.range n).find? (fun k => bad k != 0) with
  | some k => (k, bad k)
  | none => (n, 0)
theorem firstBad_at {n : Nat} {bad : Nat → Int} {k : Nat} (hk : k < n) (h : bad k ≠ 0) (no : ∀ j, j < k → bad j = 0) : firstBad n bad = ((k : Int), bad k) := by
  have : (List.range n).find? (fun k => bad k != 0) = some k := by
    rw [List.find?_range_eq_some]
    exact ⟨by simpa using h, by simpa using hk, fun j hj => by simpa using no j hj⟩
  unfold firstBad; rw [this]
theorem firstBad_none {n : Nat} {bad : Nat → Int} (no : ∀ j, j < n → bad j = 0) : firstBad n bad = ((n : Int), 0) := by
  have : (List.range n).find? (fun k => bad k != 0) = none := by
    rw [List.find?_eq_none]
    intro k hk
    simpa using no k (by simpa using hk)
  unfold firstBad; rw [this]
theorem firstBad_cases (n : Nat) (bad : Nat → Int) : (∃ k, k < n ∧ firstBad n bad = ((k : Int), bad k) ∧ bad k ≠ 0 ∧ ∀ j, j < k → bad j = 0) ∨ (firstBad n bad = ((n : Int), 0) ∧ ∀ j, j < n → bad j = 0) := by
  by_cases h : ∃ k, k < n ∧ bad k ≠ 0
  · left
    have hex : ∃ k, k < n ∧ bad k ≠ 0 ∧ ∀ j, j < k → bad j = 0 := by
      obtain ⟨k, hk, hb⟩ := h
      induction k using Nat.strongRecOn with
      | _ k ih =>
        by_cases hn : ∃ j, j < k ∧ bad j ≠ 0
        · obtain ⟨j, hj, hjb⟩ := hn; exact ih j hj (by omega) hjb
        · exact ⟨k, hk, hb, fun j hj => Classical.byContradiction fun e => hn ⟨j, hj, e⟩⟩
    obtain ⟨k, h1, h2, h3⟩ := hex
    exact ⟨k, h1, firstBad_at h1 h2 h3, h2, h3⟩
  · right
    have no : ∀ j, j < n → bad j = 0 := fun j hj => Classical.byContradiction fun e => h ⟨j, hj, e⟩
    exact ⟨firstBad_none no, no⟩

theorem cellsOf_snoc {α : Type} (f : α → List Value) (l : List α) (a : α) : cellsOf f (l ++ [a]) = cellsOf f l ++ f a := by
  rw [cellsOf_append]; simp [cellsOf]
theorem take_snoc {α : Type} {l : List α} {k : Nat} (d : α) (hk : k < l.length) : l.take (k + 1) = l.take k ++ [l.getD k d] := by
  rw [List.take_add_one]
  simp [List.getD, List.getElem?_eq_getElem hk]
/-- A key's place in a map. -/
theorem findI_map {P : Program} {kt : TypeId} {α : Type} {f : α → Value} {eq : α → α → Bool} (h : ∀ a b, eqD P 10000 kt (f a) (f b) = some (eq a b)) (x : α) : ∀ (ys : List α) (i : Nat), findI P kt (f x) (ys.map f) i = some ((ys.findIdx? (eq x)).map (· + i))
  | [], i => rfl
  | y :: ys, i => by
    simp only [List.map_cons, findI, h, List.findIdx?_cons]
    cases eq x y with
    | true => simp
    | false =>
      simp only [findI_map h x ys (i + 1)]
      cases ys.findIdx? (eq x) with
      | none => rfl
      | some j => simp [Nat.add_assoc, Nat.add_comm 1 i]
theorem findIdx_of_any {α : Type} {ys : List α} {p : α → Bool} (h : ys.any p = true) : ys.findIdx? p = some (ys.findIdx p) ∧ ys.findIdx p < ys.length := by
  rw [List.findIdx?_eq_some_iff_findIdx_eq]
  have : ys.findIdx p < ys.length := List.findIdx_lt_length.2 (List.any_eq_true.1 h)
  exact ⟨⟨this, rfl⟩, this⟩
theorem findIdx_of_not_any {α : Type} {ys : List α} {p : α → Bool} (h : ys.any p = false) : ys.findIdx? p = none := by
  rw [List.findIdx?_eq_none_iff]
  intro x hx
  have := List.any_eq_false.1 h x hx
  simpa using this
theorem mul_room {a b : Int} (A B : Int) (ha : a ≤ A) (h0 : 0 ≤ b) (hb : b ≤ B) (hA : 0 ≤ A) (h : A * B ≤ 1099511627776) : a * b ≤ 1099511627776 :=
  Int.le_trans (Int.mul_le_mul ha hb h0 hA) h
theorem lt_next {p : Nat → Prop} {k : Nat} (h : ∀ j, j < k → p j) (hk : p k) : ∀ j, j < k + 1 → p j := fun j hj => by
  rcases Nat.lt_or_ge j k with q | q
  · exact h j q
  · obtain rfl : j = k := by omega
    exact hk
/-- A key's place in a map, by what it is compared with. -/
theorem findI_mapK {P : Program} {kt : TypeId} {α : Type} {f : α → Value} {x : Value} {eq : α → Bool} (h : ∀ a, eqD P 10000 kt x (f a) = some (eq a)) : ∀ (ys : List α) (i : Nat), findI P kt x (ys.map f) i = some ((ys.findIdx? eq).map (· + i))
  | [], i => rfl
  | y :: ys, i => by
    simp only [List.map_cons, findI, h, List.findIdx?_cons]
    cases eq y with
    | true => simp
    | false =>
      simp only [findI_mapK h ys (i + 1)]
      cases ys.findIdx? eq with
      | none => rfl
      | some j => simp [Nat.add_assoc, Nat.add_comm 1 i]
theorem allB_iff {n : Nat} {p : Nat → Bool} : (List.range n).all p = true ↔ ∀ k, k < n → p k = true := by
  rw [List.all_eq_true]; exact ⟨fun h k hk => h k (by simpa using hk), fun h k hk => h k (by simpa using hk)⟩
theorem allB_no {n : Nat} {p : Nat → Bool} {k : Nat} (hk : k < n) (h : p k = false) : (List.range n).all p = false := by
  cases e : (List.range n).all p with
  | false => rfl
  | true => rw [allB_iff.1 e k hk] at h; cases h
theorem wrap_next (k : Nat) (h : k < 9223372036854775807) : Value.int IntKind.i64 (IntKind.wrap IntKind.i64 ((k : Int) + 1)) = Value.int IntKind.i64 ((k + 1 : Nat) : Int) := congrArg _ (wrap_in (by omega) (by omega))
theorem cellsOf_take {α : Type} {f : α → List Value} {n : Nat} (hf : ∀ a, (f a).length = n) : ∀ (l : List α) (k : Nat), (cellsOf f l).take (k * n) = cellsOf f (l.take k)
  | _, 0 => by simp [cellsOf]
  | [], k + 1 => by simp [cellsOf]
  | a :: l, k + 1 => by
    simp only [cellsOf, List.take_succ_cons]
    rw [show (k + 1) * n = (f a).length + k * n by rw [hf, Nat.succ_mul, Nat.add_comm], List.take_length_add_append, cellsOf_take hf l k]
/-- The first k elements. -/
theorem slice_take {P : Program} {α : Type} {f : α → List Value} {n : Nat} (hf : ∀ a, (f a).length = n) {l : List α} {k : Nat} (hk : k ≤ l.length) :
    (Ask.get [vsl ((k : Int) - 0) (Array.mk (List.take (Int.toNat ((k : Int) - 0) * n) (List.drop (Int.toNat 0 * n) (cellsOf f l))))] 0 (vsl ((l.take k).length : Nat) (Array.mk (cellsOf f (l.take k))))).holds P := by
  show some _ = some _
  rw [List.length_take_of_le hk, show (k : Int) - 0 = k by omega, Int.toNat_natCast, show Int.toNat 0 * n = 0 by rw [Int.toNat_zero, Nat.zero_mul], List.drop_zero, cellsOf_take hf]
theorem any_take {α : Type} {xs : List α} {p : α → Bool} (d : α) {k : Nat} (hk : k ≤ xs.length) : (xs.take k).any p = true ↔ ∃ j, j < k ∧ p (xs.getD j d) = true := by
  rw [List.any_eq_true]
  constructor
  · rintro ⟨q, hq, e⟩
    obtain ⟨j, hj, rfl⟩ := List.getElem_of_mem hq
    rw [List.length_take] at hj
    refine ⟨j, by omega, ?_⟩
    rw [List.getElem_take] at e
    simpa [List.getD, List.getElem?_eq_getElem (show j < xs.length by omega)] using e
  · rintro ⟨j, hj, e⟩
    refine ⟨(xs.take k)[j]'(by rw [List.length_take]; omega), List.getElem_mem _, ?_⟩
    rw [List.getElem_take]
    simpa [List.getD, List.getElem?_eq_getElem (show j < xs.length by omega)] using e
theorem any_take_false {α : Type} {xs : List α} {p : α → Bool} (d : α) {k : Nat} (hk : k ≤ xs.length) (h : ∀ j, j < k → p (xs.getD j d) = false) : (xs.take k).any p = false := by
  cases e : (xs.take k).any p with
  | false => rfl
  | true => obtain ⟨j, h1, h2⟩ := (any_take d hk).1 e; rw [h j h1] at h2; cases h2
end Go.Proofs.YtidlganponfccaaDoor

end
section
/- The plain law of sets: with and without some, how many, which; two sets of the same are the same. -/
set_option linter.unusedVariables false
set_option linter.unusedSimpArgs false
set_option linter.unusedVariables false
set_option linter.unusedSimpArgs false
namespace Go.Proofs.YtidlganponfccaaDoor
open Go Go.Ideal

def rightI (k : Int) : Bool := decide (0 ≤ k) && decide (k ≤ 239)
def catBit (k : Int) : Int := (128 : Int).fdiv (2 ^ (k % 8).toNat)
def setC (c : List Int) (i : Nat) (x : Int) : List Int := (List.range 30).map fun j => if j = i then x else c.getD j 0
def orC (x y : Int) : Int := IntKind.u8.wrap (BitVec.ofInt 8 x ||| BitVec.ofInt 8 y).toNat
def offI (x y : Int) : Int := IntKind.u8.wrap (BitVec.ofInt 8 x &&& ~~~ BitVec.ofInt 8 y).toNat
def add1 (c : List Int) (k : Int) : List Int := match rightI k with
  | true => setC c (k / 8).toNat (orC (c.getD (k / 8).toNat 0) (catBit k))
  | false => c
def sub1 (c : List Int) (k : Int) : List Int := match rightI k with
  | true => setC c (k / 8).toNat (offI (c.getD (k / 8).toNat 0) (catBit k))
  | false => c
def withC (c : List Int) (l : List Int) : List Int := l.foldl add1 c
def withoutC (c : List Int) (l : List Int) : List Int := l.foldl sub1 c

theorem rightI_iff {k : Int} : rightI k = true ↔ 0 ≤ k ∧ k ≤ 239 := by unfold rightI; simp
theorem q8 {k : Int} (h : rightI k = true) : IntKind.i64.wrap (k.tdiv 8) = k / 8 ∧ 0 ≤ k / 8 ∧ k / 8 < 30 ∧ (k / 8).toNat < 30 := by
  obtain ⟨h0, h1⟩ := rightI_iff.1 h
  refine ⟨by rw [Int.tdiv_eq_ediv_of_nonneg h0, wrap_in (by omega) (by omega)], by omega, by omega, by omega⟩
theorem catBitN {k : Int} (h0 : 0 ≤ k) : catBit k = ((2 ^ (7 - k % 8).toNat : Nat) : Int) := by
  unfold catBit
  have h8 : k % 8 < 8 := Int.emod_lt_of_pos _ (by decide)
  have h9 : 0 ≤ k % 8 := Int.emod_nonneg _ (by decide)
  obtain ⟨m, hm⟩ := Int.eq_ofNat_of_zero_le h9
  rw [hm] at h8 ⊢
  have : m < 8 := by omega
  have e : ∀ m : Fin 8, Int.fdiv 128 (2 ^ ((m.val : Nat) : Int).toNat) = ((2 ^ (7 - ((m.val : Nat) : Int)).toNat : Nat) : Int) := by decide
  exact e ⟨m, this⟩
theorem pow_lt {m : Nat} (h : m < 8) : 2 ^ m < 256 := Nat.pow_lt_pow_right (by decide) (show m < 8 from h)
theorem orC_nat {X Y : Nat} (hX : X < 256) (hY : Y < 256) : orC X Y = ((X ||| Y : Nat) : Int) := by
  unfold orC
  rw [BitVec.toNat_or, bv8 hX, bv8 hY, IntKind.wrap_u8]
  have : X ||| Y < 256 := Nat.or_lt_two_pow (n := 8) hX hY
  omega
def offN (X Y : Nat) : Nat := X &&& (255 - Y)
theorem offI_nat {X Y : Nat} (hX : X < 256) (hY : Y < 256) : offI X Y = ((X &&& (255 - Y) : Nat) : Int) := by
  unfold offI
  rw [BitVec.toNat_and, BitVec.toNat_not, bv8 hX, bv8 hY, IntKind.wrap_u8]
  have : X &&& (2 ^ 8 - 1 - Y) ≤ X := Nat.and_le_left
  have e : 2 ^ 8 - 1 - Y = 255 - Y := by rfl
  rw [e] at this ⊢
  omega
theorem catsL_map (c : List Int) : catsL c = (List.range 30).map fun i => Value.int .u8 (c.getD i 0) := rfl
theorem setC_get {c : List Int} {i j : Nat} (hj : j < 30) (x : Int) : (setC c i x).getD j 0 = if j = i then x else c.getD j 0 := by
  simp [setC, List.getD, hj]
theorem splice_set (c : List Int) {i : Nat} (hi : i < 30) (x : Int) : splice (catsL c) (0 + i * 1) (Value.cellList (.int .u8 x)) = catsL (setC c i x) := by
  rw [Nat.zero_add, Nat.mul_one]
  have e : Value.cellList (.int .u8 x) = [.int .u8 x] := rfl
  rw [e, catsL_map, catsL_map]
  apply List.ext_getElem?
  intro j
  have hl : ((List.range 30).map fun i => Value.int .u8 (c.getD i 0)).length = 30 := by simp
  simp only [splice, List.length_cons, List.length_nil]
  rcases Nat.lt_trichotomy j i with h | h | h
  · rw [List.append_assoc, List.getElem?_append_left (by simp; omega), List.getElem?_take, if_pos h, List.getElem?_map, List.getElem?_map, List.getElem?_range (by omega), Option.map_some, Option.map_some, setC_get (by omega), if_neg (by omega)]
  · subst h
    rw [List.append_assoc, List.getElem?_append_right (by simp; omega), List.getElem?_map, List.getElem?_range (by omega), Option.map_some, setC_get (by omega), if_pos rfl]
    have : j - (List.take j ((List.range 30).map fun i => Value.int .u8 (c.getD i 0))).length = 0 := by simp; omega
    rw [this]; rfl
  · rw [List.getElem?_append_right (by simp; omega)]
    have : j - (List.take i ((List.range 30).map fun i => Value.int .u8 (c.getD i 0)) ++ [Value.int .u8 x]).length = j - (i + 1) := by simp; omega
    rw [this, List.getElem?_drop, show i + (0 + 1) + (j - (i + 1)) = j by omega, List.getElem?_map, List.getElem?_map]
    rcases Nat.lt_or_ge j 30 with k | k
    · rw [List.getElem?_range k, Option.map_some, Option.map_some, setC_get k, if_neg (by omega)]
    · rw [List.getElem?_eq_none (by simpa using k)]; rfl

theorem hasC_fun {f : Nat → Int} (hf : ∀ i, i < 30 → ∃ X : Nat, f i = X ∧ X < 256) {k : Int} (h0 : 0 ≤ k) (h1 : k < 240) {X : Nat} (e : f (k / 8).toNat = X) : hasC ((List.range 30).map f) k = X.testBit (7 - k % 8).toNat := by
  have hi : (k / 8).toNat < 30 := by omega
  have hok : CatsOK ((List.range 30).map f) := by
    refine ⟨by simp, fun x hx => ?_⟩
    obtain ⟨i, hi, rfl⟩ := List.mem_map.1 hx
    obtain ⟨X, e, h⟩ := hf i (List.mem_range.1 hi)
    omega
  obtain ⟨Y, e2, hY, h⟩ := hasC_bit hok h0 h1
  rw [h]
  have : ((List.range 30).map f).getD (k / 8).toNat 0 = f (k / 8).toNat := by simp [List.getD, hi]
  rw [this, e] at e2
  rw [show X = Y by omega]
theorem cats_fun {f : Nat → Int} (hf : ∀ i, i < 30 → ∃ X : Nat, f i = X ∧ X < 256) : CatsOK ((List.range 30).map f) := by
  refine ⟨by simp, fun x hx => ?_⟩
  obtain ⟨i, hi, rfl⟩ := List.mem_map.1 hx
  obtain ⟨X, e, h⟩ := hf i (List.mem_range.1 hi)
  omega
theorem add1_ok {c : List Int} (h : CatsOK c) (k : Int) : CatsOK (add1 c k) := by
  unfold add1
  split
  · rename_i hr
    obtain ⟨X, e, hX⟩ := h.get (k / 8).toNat
    obtain ⟨h0, h1⟩ := rightI_iff.1 hr
    refine cats_fun fun i _ => ?_
    split
    · rw [e, catBitN h0]
      exact ⟨_, orC_nat hX (pow_lt (by omega)), Nat.or_lt_two_pow (n := 8) hX (pow_lt (by omega))⟩
    · exact h.get i
  · exact h
theorem sub1_ok {c : List Int} (h : CatsOK c) (k : Int) : CatsOK (sub1 c k) := by
  unfold sub1
  split
  · rename_i hr
    obtain ⟨X, e, hX⟩ := h.get (k / 8).toNat
    obtain ⟨h0, h1⟩ := rightI_iff.1 hr
    refine cats_fun fun i _ => ?_
    split
    · rw [e, catBitN h0]
      exact ⟨_, offI_nat hX (pow_lt (by omega)), Nat.lt_of_le_of_lt Nat.and_le_left hX⟩
    · exact h.get i
  · exact h
theorem same_bit {j k : Int} (j0 : 0 ≤ j) (k0 : 0 ≤ k) : ((j / 8).toNat = (k / 8).toNat ∧ (7 - k % 8).toNat = (7 - j % 8).toNat) ↔ j = k := by omega
theorem has_add1 {c : List Int} (h : CatsOK c) (k : Int) {j : Int} (j0 : 0 ≤ j) (j1 : j < 240) : hasC (add1 c k) j = (hasC c j || j == k) := by
  unfold add1
  split
  · rename_i hr
    obtain ⟨X, e, hX⟩ := h.get (k / 8).toNat
    obtain ⟨Y, e2, hY, hb⟩ := hasC_bit h j0 j1
    obtain ⟨h0, h1⟩ := rightI_iff.1 hr
    have hf : ∀ i, i < 30 → ∃ Z : Nat, (if i = (k / 8).toNat then orC (c.getD (k / 8).toNat 0) (catBit k) else c.getD i 0) = Z ∧ Z < 256 := fun i _ => by
      split
      · rw [e, catBitN h0]
        exact ⟨_, orC_nat hX (pow_lt (by omega)), Nat.or_lt_two_pow (n := 8) hX (pow_lt (by omega))⟩
      · exact h.get i
    by_cases hjk : (j / 8).toNat = (k / 8).toNat
    · have eXY : X = Y := by rw [hjk] at e2; omega
      subst eXY
      unfold setC
      rw [hasC_fun hf j0 j1 (X := X ||| 2 ^ (7 - k % 8).toNat) (by rw [if_pos hjk, e, catBitN h0]; exact orC_nat hX (pow_lt (by omega))), hb, Nat.testBit_or, Nat.testBit_two_pow]
      congr 1
      rw [Bool.eq_iff_iff]
      simp only [decide_eq_true_eq, beq_iff_eq]
      omega
    · unfold setC
      rw [hasC_fun hf j0 j1 (X := Y) (by rw [if_neg hjk]; exact e2), hb]
      have : (j == k) = false := by
        rw [beq_eq_false_iff_ne]; intro hh; subst hh; exact hjk rfl
      rw [this, Bool.or_false]
  · rename_i hr
    have : (j == k) = false := by
      rw [beq_eq_false_iff_ne]; intro hh; subst hh
      rw [rightI_iff.2 ⟨j0, by omega⟩] at hr; cases hr
    rw [this, Bool.or_false]
theorem bit_off {X m n : Nat} (hX : X < 256) (hm : m < 8) (hn : n < 8) : (X &&& (255 - 2 ^ m)).testBit n = (X.testBit n && !decide (m = n)) := by
  rw [Nat.testBit_and]
  congr 1
  have e : ∀ m n : Fin 8, (255 - 2 ^ m.val).testBit n.val = !decide (m.val = n.val) := by decide
  exact e ⟨m, hm⟩ ⟨n, hn⟩
theorem has_sub1 {c : List Int} (h : CatsOK c) (k : Int) {j : Int} (j0 : 0 ≤ j) (j1 : j < 240) : hasC (sub1 c k) j = (hasC c j && !(j == k)) := by
  unfold sub1
  split
  · rename_i hr
    obtain ⟨X, e, hX⟩ := h.get (k / 8).toNat
    obtain ⟨Y, e2, hY, hb⟩ := hasC_bit h j0 j1
    obtain ⟨h0, h1⟩ := rightI_iff.1 hr
    have hf : ∀ i, i < 30 → ∃ Z : Nat, (if i = (k / 8).toNat then offI (c.getD (k / 8).toNat 0) (catBit k) else c.getD i 0) = Z ∧ Z < 256 := fun i _ => by
      split
      · rw [e, catBitN h0]
        exact ⟨_, offI_nat hX (pow_lt (by omega)), Nat.lt_of_le_of_lt Nat.and_le_left hX⟩
      · exact h.get i
    by_cases hjk : (j / 8).toNat = (k / 8).toNat
    · have eXY : X = Y := by rw [hjk] at e2; omega
      subst eXY
      unfold setC
      rw [hasC_fun hf j0 j1 (X := X &&& (255 - 2 ^ (7 - k % 8).toNat)) (by rw [if_pos hjk, e, catBitN h0]; exact offI_nat hX (pow_lt (by omega))), hb, bit_off hX (by omega) (by omega)]
      congr 2
      rw [Bool.eq_iff_iff]
      simp only [decide_eq_true_eq, beq_iff_eq]
      omega
    · unfold setC
      rw [hasC_fun hf j0 j1 (X := Y) (by rw [if_neg hjk]; exact e2), hb]
      have : (j == k) = false := by
        rw [beq_eq_false_iff_ne]; intro hh; subst hh; exact hjk rfl
      rw [this, Bool.not_false, Bool.and_true]
  · rename_i hr
    have : (j == k) = false := by
      rw [beq_eq_false_iff_ne]; intro hh; subst hh
      rw [rightI_iff.2 ⟨j0, by omega⟩] at hr; cases hr
    rw [this, Bool.not_false, Bool.and_true]
theorem with_ok : ∀ (l : List Int) {c : List Int}, CatsOK c → CatsOK (withC c l)
  | [], _, h => h
  | k :: l, _, h => with_ok l (add1_ok h k)
theorem without_ok : ∀ (l : List Int) {c : List Int}, CatsOK c → CatsOK (withoutC c l)
  | [], _, h => h
  | k :: l, _, h => without_ok l (sub1_ok h k)
theorem has_with : ∀ (l : List Int) {c : List Int}, CatsOK c → ∀ {j : Int}, 0 ≤ j → j < 240 → hasC (withC c l) j = (hasC c j || l.any (j == ·))
  | [], c, h, j, _, _ => by simp [withC]
  | k :: l, c, h, j, j0, j1 => by
    have := has_with l (add1_ok h k) j0 j1
    rw [show withC c (k :: l) = withC (add1 c k) l from rfl, this, has_add1 h k j0 j1, List.any_cons, Bool.or_assoc]
theorem has_without : ∀ (l : List Int) {c : List Int}, CatsOK c → ∀ {j : Int}, 0 ≤ j → j < 240 → hasC (withoutC c l) j = (hasC c j && !l.any (j == ·))
  | [], c, h, j, _, _ => by simp [withoutC]
  | k :: l, c, h, j, j0, j1 => by
    have := has_without l (sub1_ok h k) j0 j1
    rw [show withoutC c (k :: l) = withoutC (sub1 c k) l from rfl, this, has_sub1 h k j0 j1, List.any_cons, Bool.not_or, Bool.and_assoc]
/-- Two sets of the same are the same. -/
theorem cats_ext {a b : List Int} (ha : CatsOK a) (hb : CatsOK b) (h : ∀ k, 0 ≤ k → k < 240 → hasC a k = hasC b k) : a = b := by
  refine List.ext_getElem (ha.1.trans hb.1.symm) fun i h1 h2 => ?_
  have hi : i < 30 := by rw [← ha.1]; exact h1
  obtain ⟨X, e1, hX⟩ := ha.get i
  obtain ⟨Y, e2, hY⟩ := hb.get i
  have key : X = Y := by
    apply Nat.eq_of_testBit_eq
    intro m
    rcases Nat.lt_or_ge m 8 with hm | hm
    · have k0 : (0 : Int) ≤ 8 * (i : Int) + (7 - (m : Int)) := by omega
      have k1 : 8 * (i : Int) + (7 - (m : Int)) < 240 := by omega
      obtain ⟨X', e1', _, b1⟩ := hasC_bit ha k0 k1
      obtain ⟨Y', e2', _, b2⟩ := hasC_bit hb k0 k1
      have q := h _ k0 k1
      rw [b1, b2] at q
      rw [show ((8 * (i : Int) + (7 - (m : Int))) / 8).toNat = i by omega] at e1' e2'
      rw [show (7 - (8 * (i : Int) + (7 - (m : Int))) % 8).toNat = m by omega] at q
      rw [show X = X' by omega, show Y = Y' by omega, q]
    · rw [Nat.testBit_lt_two_pow (Nat.lt_of_lt_of_le hX (show 2 ^ 8 ≤ 2 ^ m from Nat.pow_le_pow_right (by decide) hm)), Nat.testBit_lt_two_pow (Nat.lt_of_lt_of_le hY (show 2 ^ 8 ≤ 2 ^ m from Nat.pow_le_pow_right (by decide) hm))]
  simp only [List.getD, List.getElem?_eq_getElem h1, List.getElem?_eq_getElem h2, Option.getD_some] at e1 e2
  omega

/-- A set's categories. -/
def listN (c : List Int) (n : Nat) : List Int := ((List.range n).filter fun (k : Nat) => hasC c k).map fun (k : Nat) => (k : Int)
def listC (c : List Int) : List Int := listN c 240
theorem listN_succ (c : List Int) (n : Nat) : listN c (n + 1) = listN c n ++ (if hasC c n = true then [(n : Int)] else []) := by
  unfold listN
  rw [List.range_succ, List.filter_append, List.map_append]
  refine congrArg _ ?_
  rw [List.filter_cons, List.filter_nil]
  by_cases h : hasC c n = true
  · rw [if_pos h, if_pos h]; rfl
  · rw [if_neg h, if_neg h]; rfl
theorem listN_length (c : List Int) (n : Nat) : (listN c n).length ≤ n := by
  unfold listN
  rw [List.length_map]
  exact Nat.le_trans (List.length_filter_le _ _) (by simp)
theorem mem_listC {c : List Int} {j : Int} (j0 : 0 ≤ j) (j1 : j < 240) : (listC c).any (j == ·) = hasC c j := by
  rw [Bool.eq_iff_iff, List.any_eq_true]
  unfold listC listN
  constructor
  · rintro ⟨x, hx, e⟩
    obtain ⟨k, hk, rfl⟩ := List.mem_map.1 hx
    have := (List.mem_filter.1 hk).2
    rw [beq_iff_eq] at e
    rw [e]; exact this
  · intro h
    refine ⟨j, List.mem_map.2 ⟨j.toNat, List.mem_filter.2 ⟨List.mem_range.2 (by omega), ?_⟩, by omega⟩, by simp⟩
    rw [show ((j.toNat : Nat) : Int) = j by omega]; exact h

/-! ### how many -/
def tbN (X m : Nat) : Nat := (X.testBit m).toNat
def popN (X : Nat) : Nat := tbN X 0 + tbN X 1 + tbN X 2 + tbN X 3 + tbN X 4 + tbN X 5 + tbN X 6 + tbN X 7
theorem popN_le (X : Nat) : popN X ≤ 8 := by
  have : ∀ m, tbN X m ≤ 1 := fun m => Bool.toNat_le _
  have h0 := this 0; have h1 := this 1; have h2 := this 2; have h3 := this 3; have h4 := this 4; have h5 := this 5; have h6 := this 6; have h7 := this 7
  unfold popN; omega
theorem pop_or_and (X Y : Nat) : popN (X ||| Y) + popN (X &&& Y) = popN X + popN Y := by
  have : ∀ m, tbN (X ||| Y) m + tbN (X &&& Y) m = tbN X m + tbN Y m := fun m => by
    unfold tbN
    rw [Nat.testBit_or, Nat.testBit_and]
    cases X.testBit m <;> cases Y.testBit m <;> rfl
  have h0 := this 0; have h1 := this 1; have h2 := this 2; have h3 := this 3; have h4 := this 4; have h5 := this 5; have h6 := this 6; have h7 := this 7
  unfold popN; omega
def cntN (c : List Int) : Nat → Nat
  | 0 => 0
  | n + 1 => cntN c n + popN (c.getD n 0).toNat
def countC (c : List Int) : Nat := cntN c 30
theorem cntN_le (c : List Int) : ∀ n, cntN c n ≤ 8 * n
  | 0 => Nat.le_refl _
  | n + 1 => by have := cntN_le c n; have := popN_le (c.getD n 0).toNat; simp only [cntN]; omega
theorem cnt_list {c : List Int} (h : CatsOK c) : ∀ n, n ≤ 30 → cntN c n = (listN c (8 * n)).length
  | 0, _ => rfl
  | n + 1, hn => by
    have ih := cnt_list h n (by omega)
    obtain ⟨X, e, hX⟩ := h.get n
    have one : ∀ m, m < 8 → hasC c ((8 * n + m : Nat) : Int) = X.testBit (7 - m) := fun m hm => by
      obtain ⟨X', e', _, b⟩ := hasC_bit h (k := ((8 * n + m : Nat) : Int)) (by omega) (by omega)
      rw [show (((8 * n + m : Nat) : Int) / 8).toNat = n by omega] at e'
      rw [b, show X = X' by omega, show (7 - ((8 * n + m : Nat) : Int) % 8).toNat = 7 - m by omega]
    have step : ∀ m r, m + r = 7 → (listN c (8 * n + (m + 1))).length = (listN c (8 * n + m)).length + tbN X r := fun m r hm => by
      rw [show 8 * n + (m + 1) = 8 * n + m + 1 by omega, listN_succ, List.length_append, one m (by omega), show 7 - m = r by omega]
      unfold tbN
      cases X.testBit r <;> rfl
    have h0 := step 0 7 rfl; have h1 := step 1 6 rfl; have h2 := step 2 5 rfl; have h3 := step 3 4 rfl; have h4 := step 4 3 rfl; have h5 := step 5 2 rfl; have h6 := step 6 1 rfl; have h7 := step 7 0 rfl
    simp only [cntN, e, Int.toNat_natCast]
    rw [show 8 * (n + 1) = 8 * n + (7 + 1) by omega]
    unfold popN
    simp only [Nat.add_zero, Nat.zero_add, Nat.reduceAdd] at h0 h1 h2 h3 h4 h5 h6 h7 ⊢
    omega
theorem count_list {c : List Int} (h : CatsOK c) : countC c = (listC c).length := cnt_list h 30 (by omega)
end Go.Proofs.YtidlganponfccaaDoor

end
