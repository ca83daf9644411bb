/- The law of halves holds of what the code computes. -/
import Derived.Test.YtmaajceeaggocaaDoorALaw2
import Derived.Test.YtmaajceeaggocaaDoorAWalks3
set_option linter.unusedVariables false
set_option linter.unusedSimpArgs false
namespace Go.Proofs.YtmaajceeaggocaaDoor
open Go Go.Ideal

theorem halves_law (A B : Nat) (k : Int) (hA : A < 2 ^ 32) (hB : B < 2 ^ 32) : CallW Tryd.prog O9 5 [.int .u32 A, .int .u32 B, .int .i64 k] E0 fun v _ => v = .bool true := by
  by_cases h0 : 0 ≤ k
  case neg => exact halves_out_w _ _ _ (by omega)
  by_cases h1 : k ≤ 31
  case neg => exact halves_out_w _ _ _ (by omega)
  obtain ⟨c, rfl⟩ : ∃ c : Nat, k = c := ⟨k.toNat, by omega⟩
  have hc : c ≤ 31 := by omega
  have hP := cut_lt A (32 - c) hA
  have hM : 2 ^ (31 - c) < 2 ^ 32 := Nat.pow_lt_pow_right (by omega) (by omega)
  have hpow : 2 ^ (32 - c) = 2 ^ (31 - c) * 2 := by rw [show 32 - c = (31 - c) + 1 by omega, Nat.pow_succ]
  have hMp := Nat.two_pow_pos (31 - c)
  have hone : oneI (c : Int) = ((2 ^ (31 - c) : Nat) : Int) := by
    unfold oneI
    rw [show ((31 : Int) - (c : Int)).toNat = 31 - c by omega, Nat.min_eq_left (by omega), Int.one_mul]
    have := u32_wrap hM
    rwa [Int.natCast_pow] at this ⊢
  have hcs : ((c : Int) + 1) = ((c + 1 : Nat) : Int) := by omega
  have hs : 32 - (c + 1) = 31 - c := by omega
  have hPm : andI (A : Int) (maskI (c : Int)) = ((cutN A (32 - c) : Nat) : Int) := and_maskI A c hA (by omega)
  have hPe : cutN A (32 - c) = A / 2 ^ (32 - c) * 2 * 2 ^ (31 - c) := by rw [cutN, hpow, Nat.mul_assoc, Nat.mul_comm 2]
  have hlow : lowI A c = ((cutN A (32 - c) : Nat) : Int) := by
    unfold lowI
    rw [hPm, hcs, and_maskI _ _ hP (by omega), hs, hPe, cutN, Nat.mul_div_cancel _ hMp]
  have hor : cutN A (32 - c) ||| 2 ^ (31 - c) = (A / 2 ^ (32 - c) * 2 + 1) * 2 ^ (31 - c) := by
    have := Nat.two_pow_add_eq_or_of_lt (i := 32 - c) (b := 2 ^ (31 - c)) (by omega) (A / 2 ^ (32 - c))
    rw [cutN, Nat.mul_comm, ← this, hpow, Nat.add_mul, Nat.one_mul, Nat.mul_comm, Nat.mul_comm (2 ^ (31 - c)) 2, Nat.mul_assoc]
  have hH : (A / 2 ^ (32 - c) * 2 + 1) * 2 ^ (31 - c) < 2 ^ 32 := hor ▸ Nat.or_lt_two_pow hP hM
  have hhigh : highI A c = (((A / 2 ^ (32 - c) * 2 + 1) * 2 ^ (31 - c) : Nat) : Int) := by
    unfold highI
    rw [hPm, hone, orN _ _ hP hM, hor, hcs, and_maskI _ _ hH (by omega), hs, cutN, Nat.mul_div_cancel _ hMp]
  generalize hp : A / 2 ^ (32 - c) = p at *
  have hdiv : ∀ q, q * 2 ^ (31 - c) / 2 ^ (32 - c) = q / 2 := fun q => by
    rw [hpow, ← Nat.div_div_eq_div_mul, Nat.mul_div_cancel _ hMp]
  have inj : ∀ x y, x * 2 ^ (31 - c) = y * 2 ^ (31 - c) ↔ x = y := fun x y => ⟨fun h => Nat.eq_of_mul_eq_mul_right hMp h, fun h => h ▸ rfl⟩
  have holdsP : ∀ X : Nat, X < 2 ^ 32 → (holdsB ((cutN A (32 - c) : Nat) : Int) c X = true ↔ X / 2 ^ (31 - c) / 2 = p) := fun X hX => by
    rw [holds_iff _ _ _ hP hX]
    have key : cutN X (32 - c) = cutN A (32 - c) ↔ X / 2 ^ (31 - c) / 2 = p := by
      rw [hPe, cutN, hpow, ← Nat.div_div_eq_div_mul, Nat.mul_comm (2 ^ (31 - c)) 2, ← Nat.mul_assoc, inj]; omega
    rw [← key]
    constructor
    · rintro ⟨c', e, _, _, h⟩; obtain rfl : c = c' := (by omega); exact h
    · exact fun h => ⟨c, rfl, by omega, cut_mod _ _, h⟩
  have holdsL : ∀ X : Nat, X < 2 ^ 32 → (holdsB ((cutN A (32 - c) : Nat) : Int) (c + 1) X = true ↔ X / 2 ^ (31 - c) = p * 2) := fun X hX => by
    rw [holds_iff _ _ _ hP hX]
    have key : cutN X (31 - c) = cutN A (32 - c) ↔ X / 2 ^ (31 - c) = p * 2 := by rw [hPe, cutN, inj]
    rw [← key]
    constructor
    · rintro ⟨c', e, _, _, h⟩; obtain rfl : c + 1 = c' := (by omega); rwa [hs] at h
    · exact fun h => ⟨c + 1, by omega, by omega, by rw [hs, hPe]; exact Nat.mul_mod_left _ _, by rw [hs]; exact h⟩
  have holdsH : ∀ X : Nat, X < 2 ^ 32 → (holdsB (((p * 2 + 1) * 2 ^ (31 - c) : Nat) : Int) (c + 1) X = true ↔ X / 2 ^ (31 - c) = p * 2 + 1) := fun X hX => by
    rw [holds_iff _ _ _ hH hX]
    have key : cutN X (31 - c) = (p * 2 + 1) * 2 ^ (31 - c) ↔ X / 2 ^ (31 - c) = p * 2 + 1 := by rw [cutN, inj]
    rw [← key]
    constructor
    · rintro ⟨c', e, _, _, h⟩; obtain rfl : c + 1 = c' := (by omega); rwa [hs] at h
    · exact fun h => ⟨c + 1, by omega, by omega, by rw [hs]; exact Nat.mul_mod_left _ _, by rw [hs]; exact h⟩
  refine halves_w A B c h0 h1 ?_ ?_ ?_ ?_ ?_ ?_
  · rw [hlow, hhigh, hPe]
    intro h
    have := (inj _ _).1 (by exact_mod_cast h)
    omega
  · rw [hlow, hPm]
    unfold withinB
    rw [Bool.and_eq_true, Bool.and_eq_true]
    refine ⟨⟨(right_iff _ _ hP).2 ⟨c + 1, by omega, by omega, by rw [hs, hPe]; exact Nat.mul_mod_left _ _⟩, decide_eq_true (by omega)⟩, (holdsP _ hP).2 ?_⟩
    rw [hPe, Nat.mul_div_cancel _ hMp]; omega
  · rw [hhigh, hPm]
    unfold withinB
    rw [Bool.and_eq_true, Bool.and_eq_true]
    refine ⟨⟨(right_iff _ _ hH).2 ⟨c + 1, by omega, by omega, by rw [hs]; exact Nat.mul_mod_left _ _⟩, decide_eq_true (by omega)⟩, (holdsP _ hH).2 ?_⟩
    rw [Nat.mul_div_cancel _ hMp]; omega
  · unfold withinB
    rw [show decide ((c : Int) + 1 ≤ c) = false from decide_eq_false (by omega), Bool.and_false, Bool.false_and]
  · rw [hPm, hlow, hhigh, Bool.eq_iff_iff, Bool.or_eq_true, holdsP _ hB, holdsL _ hB, holdsH _ hB]; omega
  · rw [hlow, hhigh, Bool.eq_false_iff, ne_eq, Bool.and_eq_true, holdsL _ hB, holdsH _ hB]; omega


end Go.Proofs.YtmaajceeaggocaaDoor
