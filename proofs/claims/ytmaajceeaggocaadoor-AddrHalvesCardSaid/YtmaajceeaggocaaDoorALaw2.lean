/- The three laws hold of what the code computes. -/
import Derived.Test.YtmaajceeaggocaaDoorALaw
set_option linter.unusedVariables false
set_option linter.unusedSimpArgs false
namespace Go.Proofs.YtmaajceeaggocaaDoor
open Go Go.Ideal

theorem cut_cut (A n : Nat) : cutN (cutN A n) n = cutN A n := by
  unfold cutN
  rw [Nat.mul_div_cancel _ (Nat.two_pow_pos _)]
theorem cut_mod (A n : Nat) : cutN A n % 2 ^ n = 0 := by unfold cutN; exact Nat.mul_mod_left _ _
theorem cut_zero (A : Nat) : cutN A 0 = A := by simp [cutN]

theorem right_cut (A c : Nat) (hA : A < 2 ^ 32) (hc : c ≤ 32) : rightB (cutN A (32 - c) : Nat) c = true := (right_iff _ _ (cut_lt A _ hA)).2 ⟨c, rfl, hc, cut_mod _ _⟩

theorem cuts_law (A : Nat) (k : Int) (hA : A < 2 ^ 32) : CallW Tryd.prog O9 4 [.int .u32 A, .int .i64 k] E0 fun v _ => v = .bool true := by
  have hc : clampI k = (((clampI k).toNat : Nat) : Int) := by have := clamp_lo k; omega
  have hc2 : (clampI k).toNat ≤ 32 := by have := clamp_hi k; omega
  have hcc : maskI k = maskI (clampI k) := by unfold maskI; rw [clamp_id (clamp_lo k) (clamp_hi k)]
  have hP := cut_lt A (32 - (clampI k).toNat) hA
  refine cuts_w A k ?_ ?_ ?_ ?_
  · rw [hc, and_maskI A _ hA hc2]; exact right_cut A _ hA hc2
  · rw [hc, and_maskI A _ hA hc2]; exact (holds_iff _ _ _ hP hA).2 ⟨_, rfl, hc2, cut_mod _ _, rfl⟩
  · rw [hcc, hc, and_maskI A _ hA hc2]; exact maskI_and A _ hA hc2
  · have h32 : andI (A : Int) (maskI 32) = A := by
      have := and_maskI A 32 hA (by omega)
      rwa [Nat.sub_self, cut_zero] at this
    unfold withinB
    rw [h32, hc, and_maskI A _ hA hc2, Bool.and_eq_true, Bool.and_eq_true]
    refine ⟨⟨(right_iff A 32 hA).2 ⟨32, rfl, by omega, by simp [Nat.mod_one]⟩, decide_eq_true (by omega)⟩, (holds_iff _ _ _ hP hA).2 ⟨_, rfl, hc2, cut_mod _ _, rfl⟩⟩

theorem prefixes_law (A C X : Nat) (b d : Int) (hA : A < 2 ^ 32) (hC : C < 2 ^ 32) (hX : X < 2 ^ 32) : CallW Tryd.prog O9 3 [pfxV A b, pfxV C d, .int .u32 X] E0 fun v _ => v = .bool true :=
  prefixes_w _ _ _ _ _ (right_eq A b hA) (holds_eq A b X hA hX) (within_eq A b C d hA hC)

end Go.Proofs.YtmaajceeaggocaaDoor
