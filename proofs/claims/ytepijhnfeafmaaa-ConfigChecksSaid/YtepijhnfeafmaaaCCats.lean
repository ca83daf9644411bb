/- What the functions of sets answer. -/
import Derived.Test.YtepijhnfeafmaaaAPrg
import Derived.Test.YtepijhnfeafmaaaCCatsLaw
set_option linter.unusedVariables false
set_option linter.unusedSimpArgs false
set_option maxRecDepth 100000
namespace Go.Proofs.Ytepijhnfeafmaaa
open Go Go.Ideal
theorem catsL_part (c : List Int) (i : Nat) (h : i < 30) : (Ask.part (catsL c) (0 + i * 1) 1 [.int .u8 (c.getD i 0)]).holds Try.prog := by
  rw [Nat.zero_add, Nat.mul_one]
  refine ⟨h, ?_⟩
  have e : catsL c = (List.range 30).map fun i => Value.int .u8 (c.getD i 0) := rfl
  rw [e, List.drop_eq_getElem_cons (by simpa using h)]
  simp
theorem has_w (c : List Int) (k : Int) : CallK Try.prog 143 [catsV c, .int .i64 k] (.bool (hasC c k)) :=
  CallK.via progOK (pfs []) [] 100 (Adv.split (3 : Nat)
  (Adv.split (6 : Nat)
    (Adv.chk (11 : Nat) none
      (Adv.chk (12 : Nat) (some (Value.int IntKind.u8 (List.getD c (Int.toNat (IntKind.wrap IntKind.i64 (Int.tdiv k (8 : Int)))) (0 : Int))))
        (Adv.chk (16 : Nat) none (Adv.split (18 : Nat) Adv.nil Adv.nil))))
    Adv.nil)
  Adv.nil) (by kernel_rfl) (by kernel_rfl) (p := (decide (k ≥ (0 : Int)) = true →
    (decide (k < (240 : Int)) = true →
        ((0 : Int) ≤ IntKind.wrap IntKind.i64 (Int.tdiv k (8 : Int)) ∧ IntKind.wrap IntKind.i64 (Int.tdiv k (8 : Int)) < (30 : Int)) ∧
          Ask.holds Try.prog
              (Ask.part (catsL c) (nat_lit 0 + Int.toNat (IntKind.wrap IntKind.i64 (Int.tdiv k (8 : Int))) * nat_lit 1) (nat_lit 1)
                [Value.int IntKind.u8 (List.getD c (Int.toNat (IntKind.wrap IntKind.i64 (Int.tdiv k (8 : Int)))) (0 : Int))]) ∧
            (0 : Int) ≤ IntKind.wrap IntKind.i64 ((7 : Int) - Int.tmod k (8 : Int)) ∧
              ((IntKind.wrap IntKind.u8
                        (↑(BitVec.toNat
                              (BitVec.ofInt (IntKind.bits IntKind.u8)
                                  (Int.fdiv (List.getD c (Int.toNat (IntKind.wrap IntKind.i64 (Int.tdiv k (8 : Int)))) (0 : Int))
                                    ((2 : Int) ^ min (Int.toNat (IntKind.wrap IntKind.i64 ((7 : Int) - Int.tmod k (8 : Int)))) (IntKind.bits IntKind.u8))) &&&
                                BitVec.ofInt (IntKind.bits IntKind.u8) (1 : Int))) :
                          Int) ==
                      (1 : Int)) =
                    true →
                  Value.bool true = Value.bool (hasC c k)) ∧
                ((IntKind.wrap IntKind.u8
                        (↑(BitVec.toNat
                              (BitVec.ofInt (IntKind.bits IntKind.u8)
                                  (Int.fdiv (List.getD c (Int.toNat (IntKind.wrap IntKind.i64 (Int.tdiv k (8 : Int)))) (0 : Int))
                                    ((2 : Int) ^ min (Int.toNat (IntKind.wrap IntKind.i64 ((7 : Int) - Int.tmod k (8 : Int)))) (IntKind.bits IntKind.u8))) &&&
                                BitVec.ofInt (IntKind.bits IntKind.u8) (1 : Int))) :
                          Int) ==
                      (1 : Int)) =
                    false →
                  Value.bool false = Value.bool (hasC c k))) ∧
      (decide (k < (240 : Int)) = false → Value.bool false = Value.bool (hasC c k))) ∧
  (decide (k ≥ (0 : Int)) = false → Value.bool false = Value.bool (hasC c k))) (by kernel_rfl) (by
    simp only [decide_eq_true_eq, decide_eq_false_iff_not, ge_iff_le]
    refine ⟨fun h0 => ⟨fun h1 => ?_, fun h1 => ?_⟩, fun h0 => ?_⟩
    · have e1 : IntKind.i64.wrap (k.tdiv 8) = k / 8 := by rw [Int.tdiv_eq_ediv_of_nonneg h0, wrap_in (by omega) (by omega)]
      have e2 : IntKind.i64.wrap (7 - k.tmod 8) = 7 - k % 8 := by rw [Int.tmod_eq_emod_of_nonneg h0, wrap_in (by omega) (by omega)]
      have e3 : min (7 - k % 8).toNat IntKind.u8.bits = (7 - k % 8).toNat := Nat.min_eq_left (by show _ ≤ 8; omega)
      rw [e1, e2, e3]
      refine ⟨⟨by omega, by omega⟩, catsL_part c _ (by omega), by omega, fun h2 => ?_, fun h2 => ?_⟩
      · unfold hasC; rw [decide_eq_true h0, decide_eq_true h1]; exact congrArg Value.bool h2.symm
      · unfold hasC; rw [decide_eq_true h0, decide_eq_true h1]; exact congrArg Value.bool h2.symm
    · unfold hasC; rw [decide_eq_true h0, decide_eq_false h1]; rfl
    · unfold hasC; rw [decide_eq_false h0]; rfl)
theorem refWithin_w (a b : List Int) (ha : CatsOK a) (hb : CatsOK b) : CallK Try.prog 118 [catsV a, catsV b] (.bool (withinC a b)) :=
  CallK.via progOK (pfs []) [] 100 (Adv.loop (4 : Nat) (fun (k : Int) => [((5 : Nat), Value.int IntKind.i64 k)])
  ((fun (h : Heap) (x : Int) => h)
    (Heap.mk (nat_lit 2) (Trie.node (some (Blk.cells (catsL a) (nat_lit 42) Mode.fix)) (Trie.node (some (Blk.cells (catsL b) (nat_lit 42) Mode.fix)) Trie.leaf Trie.leaf) Trie.leaf)))
  (fun (i : Nat) (k : Int) => (↑i : Int) + k = (240 : Int) ∧ (0 : Int) ≤ k ∧ k ≤ (240 : Int) ∧ ∀ (j : Int), (0 : Int) ≤ j → j < k → hasC a j = true → hasC b j = true) (240 : Nat) (0 : Int)
  fun (i4 : Nat) (s4 : Int) (j4 : Nat → Value) => Adv.split (6 : Nat) (Adv.purs (9 : Nat) (hasC a s4) (Adv.purs (13 : Nat) (hasC b s4) Adv.nil Adv.nil) Adv.nil) Adv.nil) (by kernel_rfl) (by kernel_rfl) (p := (((↑(240 : Nat) : Int) + (0 : Int) = (240 : Int) ∧ (0 : Int) ≤ (0 : Int) ∧ (0 : Int) ≤ (240 : Int) ∧ ∀ (j : Int), (0 : Int) ≤ j → j < (0 : Int) → hasC a j = true → hasC b j = true) ∧
    Value.int IntKind.i64 (0 : Int) = Value.int IntKind.i64 (0 : Int) ∧
      Heap.mk (nat_lit 2) (Trie.node (some (Blk.cells (catsL a) (nat_lit 42) Mode.fix)) (Trie.node (some (Blk.cells (catsL b) (nat_lit 42) Mode.fix)) Trie.leaf Trie.leaf) Trie.leaf) =
        Heap.mk (nat_lit 2) (Trie.node (some (Blk.cells (catsL a) (nat_lit 42) Mode.fix)) (Trie.node (some (Blk.cells (catsL b) (nat_lit 42) Mode.fix)) Trie.leaf Trie.leaf) Trie.leaf)) ∧
  ∀ (i4 : Nat) (s4 : Int) (j4 : Nat → Value),
    ((↑i4 : Int) + s4 = (240 : Int) ∧ (0 : Int) ≤ s4 ∧ s4 ≤ (240 : Int) ∧ ∀ (j : Int), (0 : Int) ≤ j → j < s4 → hasC a j = true → hasC b j = true) →
      (decide (s4 < (240 : Int)) = true →
          CallK Try.prog (nat_lit 143) [Value.agg (Array.mk (catsL a)), Value.int IntKind.i64 s4] (Value.bool (hasC a s4)) ∧
            (hasC a s4 = true →
                CallK Try.prog (nat_lit 143) [Value.agg (Array.mk (catsL b)), Value.int IntKind.i64 s4] (Value.bool (hasC b s4)) ∧
                  (hasC b s4 = true →
                      ∃ (i4' : Nat),
                        ∃ (s4' : Int),
                          i4' < i4 ∧
                            ((↑i4' : Int) + s4' = (240 : Int) ∧ (0 : Int) ≤ s4' ∧ s4' ≤ (240 : Int) ∧ ∀ (j : Int), (0 : Int) ≤ j → j < s4' → hasC a j = true → hasC b j = true) ∧
                              Value.int IntKind.i64 (IntKind.wrap IntKind.i64 (s4 + (1 : Int))) = Value.int IntKind.i64 s4' ∧
                                (some (Blk.cells (catsL b) (nat_lit 42) Mode.fix) = some (Blk.cells (catsL b) (nat_lit 42) Mode.fix) ∧
                                    some (Blk.cells (catsL a) (nat_lit 42) Mode.fix) = some (Blk.cells (catsL a) (nat_lit 42) Mode.fix) ∧ True) ∧
                                  true = true ∧ true = true ∧ true = true ∧ True) ∧
                    (hasC b s4 = false → Value.bool false = Value.bool (withinC a b))) ∧
              (hasC a s4 = false →
                ∃ (i4' : Nat),
                  ∃ (s4' : Int),
                    i4' < i4 ∧
                      ((↑i4' : Int) + s4' = (240 : Int) ∧ (0 : Int) ≤ s4' ∧ s4' ≤ (240 : Int) ∧ ∀ (j : Int), (0 : Int) ≤ j → j < s4' → hasC a j = true → hasC b j = true) ∧
                        Value.int IntKind.i64 (IntKind.wrap IntKind.i64 (s4 + (1 : Int))) = Value.int IntKind.i64 s4' ∧
                          (some (Blk.cells (catsL b) (nat_lit 42) Mode.fix) = some (Blk.cells (catsL b) (nat_lit 42) Mode.fix) ∧
                              some (Blk.cells (catsL a) (nat_lit 42) Mode.fix) = some (Blk.cells (catsL a) (nat_lit 42) Mode.fix) ∧ True) ∧
                            true = true ∧ true = true ∧ true = true ∧ True)) ∧
        (decide (s4 < (240 : Int)) = false → Value.bool true = Value.bool (withinC a b))) (by kernel_rfl) (by
    have no : ∀ k, 0 ≤ k → k < 240 → hasC a k = true → hasC b k = false → Value.bool false = Value.bool (withinC a b) := fun k h0 h1 h2 h3 => by
      refine congrArg Value.bool (Bool.eq_false_iff.2 fun e => ?_).symm
      rw [(withinC_iff ha hb).1 e k h0 h1 h2] at h3; cases h3
    simp only [decide_eq_true_eq, decide_eq_false_iff_not, and_true, true_and, Value.int.injEq]
    refine ⟨⟨by omega, by omega, by omega, fun j h0 h1 => by omega⟩, fun i k j ⟨q1, q2, q3, q4⟩ => ⟨fun k1 => ⟨has_w a k, fun k2 => ⟨has_w b k, fun k3 => ?_, fun k3 => no k q2 k1 k2 k3⟩, fun k2 => ?_⟩, fun k1 => ?_⟩⟩
    · refine ⟨i - 1, k + 1, by omega, ⟨by omega, by omega, by omega, fun j h1 h2 h3 => ?_⟩, wrap_in (by omega) (by omega)⟩
      rcases Int.lt_or_le j k with h | h
      · exact q4 j h1 h h3
      · obtain rfl : j = k := by omega
        exact k3
    · refine ⟨i - 1, k + 1, by omega, ⟨by omega, by omega, by omega, fun j h1 h2 h3 => ?_⟩, wrap_in (by omega) (by omega)⟩
      rcases Int.lt_or_le j k with h | h
      · exact q4 j h1 h h3
      · obtain rfl : j = k := by omega
        rw [k2] at h3; cases h3
    · exact congrArg Value.bool ((withinC_iff ha hb).2 fun j h0 h1 => q4 j h0 (by omega)).symm)
end Go.Proofs.Ytepijhnfeafmaaa
