/- What the functions of addresses and prefixes answer. -/
import Derived.Test.YtepijhnfeafmaaaAPrg
import Derived.Test.YtepijhnfeafmaaaCAddrLaw
set_option linter.unusedVariables false
set_option linter.unusedSimpArgs false
set_option maxRecDepth 100000
namespace Go.Proofs.Ytepijhnfeafmaaa
open Go Go.Ideal
theorem mask_w (k : Int) : CallK Try.prog 155 [.int .i64 k] (.int .u32 (maskI k)) :=
  CallK.via progOK (pfs []) [] 100 (Adv.chk (7 : Nat) none Adv.nil) (by kernel_rfl) (by kernel_rfl) (p := (0 : Int) ≤ IntKind.wrap IntKind.i64 ((32 : Int) - if (32 : Int) < if (0 : Int) > k then (0 : Int) else k then (32 : Int) else if (0 : Int) > k then (0 : Int) else k) ∧
  Value.int IntKind.u32
      (IntKind.wrap IntKind.u32
        ((4294967295 : Int) *
          (2 : Int) ^
            min (Int.toNat (IntKind.wrap IntKind.i64 ((32 : Int) - if (32 : Int) < if (0 : Int) > k then (0 : Int) else k then (32 : Int) else if (0 : Int) > k then (0 : Int) else k)))
              (IntKind.bits IntKind.u32))) =
    Value.int IntKind.u32 (maskI k)) (by kernel_rfl) (by
    have h1 := clamp_lo k
    have h2 := clamp_hi k
    have hw : IntKind.i64.wrap (32 - clampI k) = 32 - clampI k := wrap_in (by omega) (by omega)
    exact ⟨by show 0 ≤ IntKind.i64.wrap (32 - clampI k); rw [hw]; omega, by show Value.int _ (IntKind.u32.wrap (4294967295 * 2 ^ min (IntKind.i64.wrap (32 - clampI k)).toNat 32)) = _; rw [hw]; rfl⟩)
theorem bit_w (a k : Int) (h0 : 0 ≤ k) (h1 : k ≤ 31) : CallK Try.prog 112 [.int .u32 a, .int .i64 k] (.int .i64 (bitI a k)) :=
  CallK.via progOK (pfs []) [] 100 (Adv.chk (4 : Nat) none Adv.nil) (by kernel_rfl) (by kernel_rfl) (p := (0 : Int) ≤ IntKind.wrap IntKind.i64 ((31 : Int) - k) ∧
  Value.int IntKind.i64
      (IntKind.wrap IntKind.i64
        (IntKind.wrap IntKind.u32
          (↑(BitVec.toNat
                (BitVec.ofInt (IntKind.bits IntKind.u32) (Int.fdiv a ((2 : Int) ^ min (Int.toNat (IntKind.wrap IntKind.i64 ((31 : Int) - k))) (IntKind.bits IntKind.u32))) &&&
                  BitVec.ofInt (IntKind.bits IntKind.u32) (1 : Int))) :
            Int))) =
    Value.int IntKind.i64 (bitI a k)) (by kernel_rfl) (by
    have hw : IntKind.i64.wrap (31 - k) = 31 - k := wrap_in (by omega) (by omega)
    rw [hw]
    exact ⟨by omega, rfl⟩)
theorem cut_w (a k : Int) : CallK Try.prog 140 [.int .u32 a, .int .i64 k] (cutV a k) :=
  CallK.via progOK (pfs []) [] 100 (Adv.pur (7 : Nat) (Value.int IntKind.u32 (maskI (if (32 : Int) < if (0 : Int) > k then (0 : Int) else k then (32 : Int) else if (0 : Int) > k then (0 : Int) else k))) Adv.nil) (by kernel_rfl) (by kernel_rfl) (p := CallK Try.prog (nat_lit 155) [Value.int IntKind.i64 (if (32 : Int) < if (0 : Int) > k then (0 : Int) else k then (32 : Int) else if (0 : Int) > k then (0 : Int) else k)]
    (Value.int IntKind.u32 (maskI (if (32 : Int) < if (0 : Int) > k then (0 : Int) else k then (32 : Int) else if (0 : Int) > k then (0 : Int) else k))) ∧
  Value.agg
      (Array.mk
        [Value.int IntKind.u32
            (IntKind.wrap IntKind.u32
              (↑(BitVec.toNat
                    (BitVec.ofInt (IntKind.bits IntKind.u32) a &&&
                      BitVec.ofInt (IntKind.bits IntKind.u32) (maskI (if (32 : Int) < if (0 : Int) > k then (0 : Int) else k then (32 : Int) else if (0 : Int) > k then (0 : Int) else k)))) :
                Int)),
          Value.int IntKind.i64 (if (32 : Int) < if (0 : Int) > k then (0 : Int) else k then (32 : Int) else if (0 : Int) > k then (0 : Int) else k)]) =
    cutV a k) (by kernel_rfl) (by
    exact ⟨mask_w _, rfl⟩)
theorem right_w (a b : Int) : CallK Try.prog 106 [pfx2 a b] (.bool (rightB a b)) :=
  CallK.via progOK (pfs [140]) [] 100 (Adv.split (4 : Nat)
  (Adv.split (8 : Nat) (Adv.pur (16 : Nat) (Value.agg (Array.mk [Value.int IntKind.u32 (andI a (maskI (clampI b))), Value.int IntKind.i64 (clampI b)])) (Adv.chks (17 : Nat) none Adv.nil Adv.nil))
    Adv.nil)
  Adv.nil) (by kernel_rfl) (by kernel_rfl) (p := (decide (b ≥ (0 : Int)) = true →
    (decide (b ≤ (32 : Int)) = true →
        CallK Try.prog (nat_lit 140) [Value.int IntKind.u32 a, Value.int IntKind.i64 b] (Value.agg (Array.mk [Value.int IntKind.u32 (andI a (maskI (clampI b))), Value.int IntKind.i64 (clampI b)])) ∧
          True ∧
            ((a == andI a (maskI (clampI b)) && b == clampI b) = true → Value.bool true = Value.bool (rightB a b)) ∧
              ((a == andI a (maskI (clampI b)) && b == clampI b) = false → Value.bool false = Value.bool (rightB a b))) ∧
      (decide (b ≤ (32 : Int)) = false → Value.bool false = Value.bool (rightB a b))) ∧
  (decide (b ≥ (0 : Int)) = false → Value.bool false = Value.bool (rightB a b))) (by kernel_rfl) (by
    simp only [decide_eq_true_eq, decide_eq_false_iff_not, ge_iff_le]
    refine ⟨fun h0 => ⟨fun h1 => ⟨cut_w a b, trivial, fun h2 => ?_, fun h2 => ?_⟩, fun h1 => ?_⟩, fun h0 => ?_⟩
    · rw [clamp_id h0 h1, beq_self_eq_true, Bool.and_true] at h2
      unfold rightB; rw [h2, decide_eq_true h0, decide_eq_true h1]; rfl
    · rw [clamp_id h0 h1, beq_self_eq_true, Bool.and_true] at h2
      unfold rightB; rw [h2, decide_eq_true h0, decide_eq_true h1]; rfl
    · unfold rightB; rw [decide_eq_true h0, decide_eq_false h1]; rfl
    · unfold rightB; rw [decide_eq_false h0]; rfl)
theorem refRightB_iff (a b : Int) : refRightB a b = true ↔ (0 ≤ b ∧ b ≤ 32 ∧ ∀ k, b ≤ k → k < 32 → bitI a k ≠ 1) := by
  classical
  unfold refRightB; exact decide_eq_true_iff
theorem refRightB_f {a b : Int} (h : ¬ (0 ≤ b ∧ b ≤ 32 ∧ ∀ k, b ≤ k → k < 32 → bitI a k ≠ 1)) : false = refRightB a b := (Bool.eq_false_iff.2 fun e => h ((refRightB_iff a b).1 e)).symm
theorem refRight_w (a b : Int) : CallK Try.prog 64 [pfx2 a b] (.bool (refRightB a b)) :=
  CallK.via progOK (pfs [112]) [] 100 (Adv.split (4 : Nat) Adv.nil
  (Adv.split (8 : Nat) Adv.nil
    (Adv.loop (13 : Nat) (fun (k : Int) => [((3 : Nat), Value.int IntKind.i64 k)])
      ((fun (h : Heap) (x : Int) => h) (Heap.mk (nat_lit 1) (Trie.node (some (Blk.cells [Value.int IntKind.u32 a, Value.int IntKind.i64 b] (nat_lit 48) Mode.fix)) Trie.leaf Trie.leaf)))
      (fun (i : Nat) (k : Int) => (↑i : Int) + k = (32 : Int) ∧ b ≤ k ∧ (0 : Int) ≤ k ∧ k ≤ (32 : Int) ∧ ∀ (j : Int), b ≤ j → j < k → bitI a j ≠ (1 : Int)) (Int.toNat ((32 : Int) - b)) b
      fun (i13 : Nat) (s13 : Int) (j13 : Nat → Value) => Adv.split (15 : Nat) (Adv.pur (19 : Nat) (Value.int IntKind.i64 (bitI a s13)) (Adv.split (20 : Nat) Adv.nil Adv.nil)) Adv.nil))) (by kernel_rfl) (by kernel_rfl) (p := (decide (b < (0 : Int)) = true → Value.bool false = Value.bool (refRightB a b)) ∧
  (decide (b < (0 : Int)) = false →
    (decide (b > (32 : Int)) = true → Value.bool false = Value.bool (refRightB a b)) ∧
      (decide (b > (32 : Int)) = false →
        (((↑(Int.toNat ((32 : Int) - b)) : Int) + b = (32 : Int) ∧ b ≤ b ∧ (0 : Int) ≤ b ∧ b ≤ (32 : Int) ∧ ∀ (j : Int), b ≤ j → j < b → bitI a j ≠ (1 : Int)) ∧
            Value.int IntKind.i64 b = Value.int IntKind.i64 b ∧
              Heap.mk (nat_lit 1) (Trie.node (some (Blk.cells [Value.int IntKind.u32 a, Value.int IntKind.i64 b] (nat_lit 48) Mode.fix)) Trie.leaf Trie.leaf) =
                Heap.mk (nat_lit 1) (Trie.node (some (Blk.cells [Value.int IntKind.u32 a, Value.int IntKind.i64 b] (nat_lit 48) Mode.fix)) Trie.leaf Trie.leaf)) ∧
          ∀ (i13 : Nat) (s13 : Int) (j13 : Nat → Value),
            ((↑i13 : Int) + s13 = (32 : Int) ∧ b ≤ s13 ∧ (0 : Int) ≤ s13 ∧ s13 ≤ (32 : Int) ∧ ∀ (j : Int), b ≤ j → j < s13 → bitI a j ≠ (1 : Int)) →
              (decide (s13 < (32 : Int)) = true →
                  CallK Try.prog (nat_lit 112) [Value.int IntKind.u32 a, Value.int IntKind.i64 s13] (Value.int IntKind.i64 (bitI a s13)) ∧
                    ((bitI a s13 == (1 : Int)) = true → Value.bool false = Value.bool (refRightB a b)) ∧
                      ((bitI a s13 == (1 : Int)) = false →
                        ∃ (i13' : Nat),
                          ∃ (s13' : Int),
                            i13' < i13 ∧
                              ((↑i13' : Int) + s13' = (32 : Int) ∧ b ≤ s13' ∧ (0 : Int) ≤ s13' ∧ s13' ≤ (32 : Int) ∧ ∀ (j : Int), b ≤ j → j < s13' → bitI a j ≠ (1 : Int)) ∧
                                Value.int IntKind.i64 (IntKind.wrap IntKind.i64 (s13 + (1 : Int))) = Value.int IntKind.i64 s13' ∧
                                  (some (Blk.cells [Value.int IntKind.u32 a, Value.int IntKind.i64 b] (nat_lit 48) Mode.fix) =
                                        some (Blk.cells [Value.int IntKind.u32 a, Value.int IntKind.i64 b] (nat_lit 48) Mode.fix) ∧
                                      True) ∧
                                    true = true ∧ true = true ∧ True)) ∧
                (decide (s13 < (32 : Int)) = false → Value.bool true = Value.bool (refRightB a b))))) (by kernel_rfl) (by
    simp only [decide_eq_true_eq, decide_eq_false_iff_not, beq_iff_eq, beq_eq_false_iff_ne, Value.bool.injEq, Value.int.injEq, true_and, and_true]
    refine ⟨fun h0 => ?_, fun h0 => ⟨fun h1 => ?_, fun h1 => ⟨⟨by omega, by omega, by omega, by omega, fun j k1 k2 => by omega⟩, fun i k j ⟨q1, q2, q3, q4, q5⟩ => ⟨fun k1 => ⟨bit_w a k q3 (by omega), fun k2 => ?_, fun k2 => ⟨i - 1, k + 1, by omega, ⟨by omega, by omega, by omega, by omega, fun j h1 h2 => ?_⟩, wrap_in (by omega) (by omega)⟩⟩, fun k1 => ?_⟩⟩⟩⟩
    · exact refRightB_f (by omega)
    · exact refRightB_f (by omega)
    · refine refRightB_f ?_; exact fun h => h.2.2 k q2 k1 k2
    · rcases Int.lt_or_le j k with h | h
      · exact q5 j h1 h
      · obtain rfl : j = k := by omega
        exact k2
    · exact ((refRightB_iff a b).2 ⟨by omega, by omega, fun j h1 h2 => q5 j h1 (by omega)⟩).symm)
def kindI (a : Int) : Int := if a < 16777216 then 0 else if a < 2130706432 then 4 else if a < 2147483648 then 1 else if a < 3758096384 then 4 else if a < 4026531840 then 2 else 3
theorem refKind_w (a : Int) : CallK Try.prog 109 [.int .u32 a] (.int .i64 (kindI a)) :=
  CallK.via progOK (pfs []) [] 100 (Adv.split (2 : Nat) Adv.nil
  (Adv.split (5 : Nat) (Adv.split (8 : Nat) Adv.nil (Adv.split (12 : Nat) (Adv.split (15 : Nat) Adv.nil (Adv.split (19 : Nat) Adv.nil Adv.nil)) (Adv.split (17 : Nat) Adv.nil Adv.nil)))
    (Adv.split (10 : Nat) (Adv.split (13 : Nat) Adv.nil (Adv.split (17 : Nat) Adv.nil Adv.nil)) (Adv.split (15 : Nat) Adv.nil Adv.nil)))) (by kernel_rfl) (by kernel_rfl) (p := (decide (a < (16777216 : Int)) = true → Value.int IntKind.i64 (0 : Int) = Value.int IntKind.i64 (kindI a)) ∧
  (decide (a < (16777216 : Int)) = false →
    (decide (a ≥ (2130706432 : Int)) = true →
        (decide (a < (2147483648 : Int)) = true → Value.int IntKind.i64 (1 : Int) = Value.int IntKind.i64 (kindI a)) ∧
          (decide (a < (2147483648 : Int)) = false →
            (decide (a ≥ (3758096384 : Int)) = true →
                (decide (a < (4026531840 : Int)) = true → Value.int IntKind.i64 (2 : Int) = Value.int IntKind.i64 (kindI a)) ∧
                  (decide (a < (4026531840 : Int)) = false →
                    (decide (a ≥ (4026531840 : Int)) = true → Value.int IntKind.i64 (3 : Int) = Value.int IntKind.i64 (kindI a)) ∧
                      (decide (a ≥ (4026531840 : Int)) = false → Value.int IntKind.i64 (4 : Int) = Value.int IntKind.i64 (kindI a)))) ∧
              (decide (a ≥ (3758096384 : Int)) = false →
                (decide (a ≥ (4026531840 : Int)) = true → Value.int IntKind.i64 (3 : Int) = Value.int IntKind.i64 (kindI a)) ∧
                  (decide (a ≥ (4026531840 : Int)) = false → Value.int IntKind.i64 (4 : Int) = Value.int IntKind.i64 (kindI a))))) ∧
      (decide (a ≥ (2130706432 : Int)) = false →
        (decide (a ≥ (3758096384 : Int)) = true →
            (decide (a < (4026531840 : Int)) = true → Value.int IntKind.i64 (2 : Int) = Value.int IntKind.i64 (kindI a)) ∧
              (decide (a < (4026531840 : Int)) = false →
                (decide (a ≥ (4026531840 : Int)) = true → Value.int IntKind.i64 (3 : Int) = Value.int IntKind.i64 (kindI a)) ∧
                  (decide (a ≥ (4026531840 : Int)) = false → Value.int IntKind.i64 (4 : Int) = Value.int IntKind.i64 (kindI a)))) ∧
          (decide (a ≥ (3758096384 : Int)) = false →
            (decide (a ≥ (4026531840 : Int)) = true → Value.int IntKind.i64 (3 : Int) = Value.int IntKind.i64 (kindI a)) ∧
              (decide (a ≥ (4026531840 : Int)) = false → Value.int IntKind.i64 (4 : Int) = Value.int IntKind.i64 (kindI a)))))) (by kernel_rfl) (by
    simp only [decide_eq_true_eq, decide_eq_false_iff_not, Value.int.injEq, true_and, kindI, ge_iff_le]
    omega)
def byteI (a : Int) (k : Nat) : Int := IntKind.u8.wrap (a.fdiv (2 ^ k))
theorem bytes_w (a : Int) : CallK Try.prog 149 [.int .u32 a] (.agg #[.int .u8 (byteI a 24), .int .u8 (byteI a 16), .int .u8 (byteI a 8), .int .u8 (IntKind.u8.wrap a)]) :=
  CallK.via progOK (pfs []) [] 100 (Adv.nil) (by kernel_rfl) (by kernel_rfl) (p := Value.agg
    (Array.mk
      [Value.int IntKind.u8 (IntKind.wrap IntKind.u8 (Int.fdiv a ((2 : Int) ^ min (Int.toNat (24 : Int)) (IntKind.bits IntKind.u32)))),
        Value.int IntKind.u8 (IntKind.wrap IntKind.u8 (Int.fdiv a ((2 : Int) ^ min (Int.toNat (16 : Int)) (IntKind.bits IntKind.u32)))),
        Value.int IntKind.u8 (IntKind.wrap IntKind.u8 (Int.fdiv a ((2 : Int) ^ min (Int.toNat (8 : Int)) (IntKind.bits IntKind.u32)))), Value.int IntKind.u8 (IntKind.wrap IntKind.u8 a)]) =
  Value.agg #[Value.int IntKind.u8 (byteI a (24 : Nat)), Value.int IntKind.u8 (byteI a (16 : Nat)), Value.int IntKind.u8 (byteI a (8 : Nat)), Value.int IntKind.u8 (IntKind.wrap IntKind.u8 a)]) (by kernel_rfl) (by
    simp only [byteI]
    rfl)
theorem kind_w (a : Int) (h0 : 0 ≤ a) (h1 : a < 4294967296) : CallK Try.prog 131 [.int .u32 a] (.int .i64 (kindI a)) :=
  CallK.via progOK (pfs [149]) [] 100 (Adv.pur (2 : Nat)
  (Value.agg
    (Array.mk [Value.int IntKind.u8 (byteI a (24 : Nat)), Value.int IntKind.u8 (byteI a (16 : Nat)), Value.int IntKind.u8 (byteI a (8 : Nat)), Value.int IntKind.u8 (IntKind.wrap IntKind.u8 a)]))
  (Adv.split (6 : Nat) Adv.nil (Adv.split (9 : Nat) Adv.nil (Adv.split (12 : Nat) Adv.nil (Adv.split (15 : Nat) Adv.nil Adv.nil))))) (by kernel_rfl) (by kernel_rfl) (p := CallK Try.prog (nat_lit 149) [Value.int IntKind.u32 a]
    (Value.agg
      (Array.mk [Value.int IntKind.u8 (byteI a (24 : Nat)), Value.int IntKind.u8 (byteI a (16 : Nat)), Value.int IntKind.u8 (byteI a (8 : Nat)), Value.int IntKind.u8 (IntKind.wrap IntKind.u8 a)])) ∧
  ((byteI a (24 : Nat) == (0 : Int)) = true → Value.int IntKind.i64 (0 : Int) = Value.int IntKind.i64 (kindI a)) ∧
    ((byteI a (24 : Nat) == (0 : Int)) = false →
      ((byteI a (24 : Nat) == (127 : Int)) = true → Value.int IntKind.i64 (1 : Int) = Value.int IntKind.i64 (kindI a)) ∧
        ((byteI a (24 : Nat) == (127 : Int)) = false →
          (decide (byteI a (24 : Nat) ≥ (240 : Int)) = true → Value.int IntKind.i64 (3 : Int) = Value.int IntKind.i64 (kindI a)) ∧
            (decide (byteI a (24 : Nat) ≥ (240 : Int)) = false →
              (decide (byteI a (24 : Nat) ≥ (224 : Int)) = true → Value.int IntKind.i64 (2 : Int) = Value.int IntKind.i64 (kindI a)) ∧
                (decide (byteI a (24 : Nat) ≥ (224 : Int)) = false → Value.int IntKind.i64 (4 : Int) = Value.int IntKind.i64 (kindI a)))))) (by kernel_rfl) (by
    have e : byteI a 24 = a / 16777216 := by
      unfold byteI
      rw [Int.fdiv_eq_ediv_of_nonneg _ (by decide), IntKind.wrap_u8]
      omega
    refine ⟨bytes_w a, ?_⟩
    rw [e]
    simp only [decide_eq_true_eq, decide_eq_false_iff_not, beq_iff_eq, beq_eq_false_iff_ne, Value.int.injEq, true_and, kindI, ge_iff_le]
    omega)
end Go.Proofs.Ytepijhnfeafmaaa
