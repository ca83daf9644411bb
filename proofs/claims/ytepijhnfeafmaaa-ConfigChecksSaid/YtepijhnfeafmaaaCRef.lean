/- What the document's answer says of configs. -/
import Derived.Test.YtepijhnfeafmaaaAPrg
import Derived.Test.YtepijhnfeafmaaaCSteps
set_option linter.unusedVariables false
set_option linter.unusedSimpArgs false
set_option maxRecDepth 100000
namespace Go.Proofs.Ytepijhnfeafmaaa
open Go Go.Ideal
theorem beq_flip (a b : Int) : (a == b) = (b == a) := Bool.eq_iff_iff.2 ⟨fun h => by simpa using (beq_iff_eq.1 h).symm, fun h => by simpa using (beq_iff_eq.1 h).symm⟩
theorem catsEq_comm (a b : List Int) : catsEq a b = catsEq b a := by
  rw [catsEq_all, catsEq_all]
  exact congrArg _ (funext fun i => beq_flip _ _)
theorem lblEq_comm (x y : Lbl) : lblEq x y = lblEq y x := by
  unfold lblEq; rw [catsEq_comm, beq_flip]
theorem pfxEq_comm (x y : Pfx) : pfxEq x y = pfxEq y x := by
  unfold pfxEq; rw [beq_flip x.addr, beq_flip x.bits]
theorem findL_key (xs : List Lbl) (x : Lbl) : (findL xs x < 0) = (keyHas xs x = false) := by
  have e : findL xs x = idxB xs fun y => lblEq y x := rfl
  have e2 : keyHas xs x = xs.any fun y => lblEq y x := by unfold keyHas; exact congrArg _ (funext fun y => lblEq_comm _ _)
  rw [e, e2, ← anyB_idx]
  exact propext ⟨fun h => decide_eq_false (by omega), fun h => by have := of_decide_eq_false h; omega⟩
theorem lbls_part1 {xs : List Lbl} {k : Nat} (hk : k < xs.length) (r m : Nat) (hr : r + m ≤ 31) {o : Nat} (ho : o = k * 31 + r) {out : List Value} (e : ((lblL (xs.getD k default)).drop r).take m = out) : (Ask.part (lblsL xs) o m out).holds Try.prog := by
  subst ho; exact cellsOf_part (P := Try.prog) (f := lblL) lblL_length default hk r m hr out e
theorem refChk_w (xs : List Lbl) (hl : xs.length ≤ 1099511627776) : CallK Try.prog 59 [lblsV xs] (twoV (lblsChk xs)) :=
  CallK.via progOK (pfs []) [] 100 (Adv.loop (3 : Nat) (fun (k : Nat) => [((4 : Nat), Value.int IntKind.i64 (↑k : Int))]) ((fun (h : Heap) (x : Nat) => h) (Heap.mk (nat_lit 0) Trie.leaf))
  (fun (i k : Nat) => i + k = List.length xs ∧ k ≤ (16 : Nat) ∧ ∀ (j : Nat), j < k → lblBad xs j = (0 : Int)) (List.length xs) (0 : Nat) fun (i3 s3 : Nat) (j3 : Nat → Value) =>
  Adv.split (7 : Nat)
    (Adv.chk (10 : Nat) none
      (Adv.chk (12 : Nat) (some (Value.int IntKind.i64 (Lbl.level (List.getD xs s3 default))))
        (Adv.split (13 : Nat) Adv.nil
          (Adv.chk (17 : Nat) none
            (Adv.chk (19 : Nat) (some (Value.int IntKind.i64 (Lbl.level (List.getD xs s3 default))))
              (Adv.split (20 : Nat) Adv.nil
                (Adv.split (23 : Nat) Adv.nil
                  (Adv.loop (25 : Nat) (fun (k : Nat) => [((5 : Nat), Value.int IntKind.i64 (↑k : Int))]) ((fun (h : Heap) (x : Nat) => h) (Heap.mk (nat_lit 0) Trie.leaf))
                    (fun (i k : Nat) => i + k = s3 ∧ ∀ (j : Nat), j < k → lblEq (List.getD xs j default) (List.getD xs s3 default) = false) s3 (0 : Nat) fun (i25 s25 : Nat) (j25 : Nat → Value) =>
                    Adv.split (28 : Nat)
                      (Adv.chk (31 : Nat) none
                        (Adv.chk (32 : Nat) (some (Value.agg (Array.mk (lblL (List.getD xs s25 default)))))
                          (Adv.chk (35 : Nat) none
                            (Adv.chk (36 : Nat) (some (Value.agg (Array.mk (lblL (List.getD xs s3 default)))))
                              (Adv.chks (37 : Nat) (some (Value.bool (lblEq (List.getD xs s25 default) (List.getD xs s3 default)))) Adv.nil Adv.nil)))))
                      Adv.nil))))))))
    Adv.nil) (by kernel_rfl) (by kernel_rfl) (p := ((List.length xs + (0 : Nat) = List.length xs ∧ (0 : Nat) ≤ (16 : Nat) ∧ ∀ (j : Nat), j < (0 : Nat) → lblBad xs j = (0 : Int)) ∧
    Value.int IntKind.i64 (0 : Int) = Value.int IntKind.i64 (0 : Int) ∧ Heap.mk (nat_lit 0) Trie.leaf = Heap.mk (nat_lit 0) Trie.leaf) ∧
  ∀ (i3 s3 : Nat) (j3 : Nat → Value),
    (i3 + s3 = List.length xs ∧ s3 ≤ (16 : Nat) ∧ ∀ (j : Nat), j < s3 → lblBad xs j = (0 : Int)) →
      (decide ((↑s3 : Int) < (↑(List.length xs) : Int)) = true →
          ((0 : Int) ≤ (↑s3 : Int) ∧ (↑s3 : Int) < (↑(List.length xs) : Int)) ∧
            Ask.holds Try.prog
                (Ask.part (Array.toList (Array.mk (lblsL xs))) (Int.toNat (↑(Int.toNat (↑(Int.toNat (↑s3 : Int) * nat_lit 31) : Int) + nat_lit 0) : Int)) (nat_lit 1)
                  [Value.int IntKind.i64 (Lbl.level (List.getD xs s3 default))]) ∧
              (decide (Lbl.level (List.getD xs s3 default) < (0 : Int)) = true → Value.tuple (Array.mk [Value.int IntKind.i64 (↑s3 : Int), Value.int IntKind.i64 (1 : Int)]) = twoV (lblsChk xs)) ∧
                (decide (Lbl.level (List.getD xs s3 default) < (0 : Int)) = false →
                  ((0 : Int) ≤ (↑s3 : Int) ∧ (↑s3 : Int) < (↑(List.length xs) : Int)) ∧
                    Ask.holds Try.prog
                        (Ask.part (Array.toList (Array.mk (lblsL xs))) (Int.toNat (↑(Int.toNat (↑(Int.toNat (↑s3 : Int) * nat_lit 31) : Int) + nat_lit 0) : Int)) (nat_lit 1)
                          [Value.int IntKind.i64 (Lbl.level (List.getD xs s3 default))]) ∧
                      (decide (Lbl.level (List.getD xs s3 default) > (255 : Int)) = true →
                          Value.tuple (Array.mk [Value.int IntKind.i64 (↑s3 : Int), Value.int IntKind.i64 (1 : Int)]) = twoV (lblsChk xs)) ∧
                        (decide (Lbl.level (List.getD xs s3 default) > (255 : Int)) = false →
                          (decide ((↑s3 : Int) ≥ (16 : Int)) = true → Value.tuple (Array.mk [Value.int IntKind.i64 (↑s3 : Int), Value.int IntKind.i64 (5 : Int)]) = twoV (lblsChk xs)) ∧
                            (decide ((↑s3 : Int) ≥ (16 : Int)) = false →
                              ((s3 + (0 : Nat) = s3 ∧ ∀ (j : Nat), j < (0 : Nat) → lblEq (List.getD xs j default) (List.getD xs s3 default) = false) ∧
                                  Value.int IntKind.i64 (0 : Int) = Value.int IntKind.i64 (0 : Int) ∧ Heap.mk (nat_lit 0) Trie.leaf = Heap.mk (nat_lit 0) Trie.leaf) ∧
                                ∀ (i25 s25 : Nat) (j25 : Nat → Value),
                                  (i25 + s25 = s3 ∧ ∀ (j : Nat), j < s25 → lblEq (List.getD xs j default) (List.getD xs s3 default) = false) →
                                    (decide ((↑s25 : Int) < (↑s3 : Int)) = true →
                                        ((0 : Int) ≤ (↑s25 : Int) ∧ (↑s25 : Int) < (↑(List.length xs) : Int)) ∧
                                          Ask.holds Try.prog
                                              (Ask.part (Array.toList (Array.mk (lblsL xs))) (Int.toNat (↑(Int.toNat (↑s25 : Int) * nat_lit 31) : Int)) (nat_lit 31)
                                                (lblL (List.getD xs s25 default))) ∧
                                            ((0 : Int) ≤ (↑s3 : Int) ∧ (↑s3 : Int) < (↑(List.length xs) : Int)) ∧
                                              Ask.holds Try.prog
                                                  (Ask.part (Array.toList (Array.mk (lblsL xs))) (Int.toNat (↑(Int.toNat (↑s3 : Int) * nat_lit 31) : Int)) (nat_lit 31)
                                                    (lblL (List.getD xs s3 default))) ∧
                                                Ask.holds Try.prog
                                                    (Ask.eqv (nat_lit 44) (Value.agg (Array.mk (lblL (List.getD xs s25 default)))) (Value.agg (Array.mk (lblL (List.getD xs s3 default))))
                                                      (lblEq (List.getD xs s25 default) (List.getD xs s3 default))) ∧
                                                  (lblEq (List.getD xs s25 default) (List.getD xs s3 default) = true →
                                                      Value.tuple (Array.mk [Value.int IntKind.i64 (↑s3 : Int), Value.int IntKind.i64 (7 : Int)]) = twoV (lblsChk xs)) ∧
                                                    (lblEq (List.getD xs s25 default) (List.getD xs s3 default) = false →
                                                      ∃ (i25' : Nat),
                                                        ∃ (s25' : Nat),
                                                          i25' < i25 ∧
                                                            (i25' + s25' = s3 ∧ ∀ (j : Nat), j < s25' → lblEq (List.getD xs j default) (List.getD xs s3 default) = false) ∧
                                                              Value.int IntKind.i64 (IntKind.wrap IntKind.i64 ((↑s25 : Int) + (1 : Int))) = Value.int IntKind.i64 (↑s25' : Int) ∧
                                                                True ∧ true = true ∧ True)) ∧
                                      (decide ((↑s25 : Int) < (↑s3 : Int)) = false →
                                        ∃ (i3' : Nat),
                                          ∃ (s3' : Nat),
                                            i3' < i3 ∧
                                              (i3' + s3' = List.length xs ∧ s3' ≤ (16 : Nat) ∧ ∀ (j : Nat), j < s3' → lblBad xs j = (0 : Int)) ∧
                                                Value.int IntKind.i64 (IntKind.wrap IntKind.i64 ((↑s3 : Int) + (1 : Int))) = Value.int IntKind.i64 (↑s3' : Int) ∧ True ∧ true = true ∧ True))))) ∧
        (decide ((↑s3 : Int) < (↑(List.length xs) : Int)) = false → Value.tuple (Array.mk [Value.int IntKind.i64 (↑(List.length xs) : Int), Value.int IntKind.i64 (0 : Int)]) = twoV (lblsChk xs))) (by kernel_rfl) (by
    have bad : ∀ {k : Nat} {e : Int}, k < xs.length → (∀ j, j < k → lblBad xs j = 0) → lblBad xs k = e → e ≠ 0 → Value.tuple (Array.mk [.int .i64 k, .int .i64 e]) = twoV (lblsChk xs) := fun hk no h hne => by
      rw [lblsChk_at hk (by rw [h]; exact hne) no, h]; rfl
    refine ⟨⟨⟨by omega, by omega, fun j hj => by omega⟩, rfl, rfl⟩, fun i k j ⟨q1, q2, q3⟩ => ⟨fun h1 => ?_, fun h1 => ?_⟩⟩
    · have hk : k < xs.length := by have := of_decide_eq_true h1; omega
      refine ⟨⟨by omega, by omega⟩, lbls_part1 hk 0 1 (by omega) rfl rfl, fun h2 => ?_, fun h2 => ⟨⟨by omega, by omega⟩, lbls_part1 hk 0 1 (by omega) rfl rfl, fun h3 => ?_, fun h3 => ⟨fun h4 => ?_, fun h4 => ⟨⟨⟨by omega, fun j hj => by omega⟩, rfl, rfl⟩, fun i2 m j2 ⟨r1, r2⟩ => ⟨fun h5 => ?_, fun h5 => ?_⟩⟩⟩⟩⟩
      · exact bad hk q3 (bad1 (by unfold rightL; rw [decide_eq_false (by have := of_decide_eq_true h2; omega)]; rfl)) (by decide)
      · exact bad hk q3 (bad1 (by unfold rightL; rw [decide_eq_false (p := _ ≤ 255) (by have := of_decide_eq_true h3; omega)]; simp)) (by decide)
      · exact bad hk q3 (bad5 (by unfold rightL; rw [decide_eq_true (by have := of_decide_eq_false h2; omega), decide_eq_true (by have := of_decide_eq_false h3; omega)]; rfl) (by have := of_decide_eq_true h4; omega)) (by decide)
      · have hm : m < k := by have := of_decide_eq_true h5; omega
        refine ⟨⟨by omega, by omega⟩, lbls_part1 (k := m) (by omega) 0 31 (by omega) rfl rfl, ⟨by omega, by omega⟩, lbls_part1 hk 0 31 (by omega) rfl rfl, lblEq_eqD _ _, fun h6 => ?_, fun h6 => ⟨i2 - 1, m + 1, by omega, ⟨by omega, lt_next r2 h6⟩, wrap_next m (by omega), trivial, rfl, trivial⟩⟩
        exact bad hk q3 (bad7 (by unfold rightL; rw [decide_eq_true (by have := of_decide_eq_false h2; omega), decide_eq_true (by have := of_decide_eq_false h3; omega)]; rfl) (by have := of_decide_eq_false h4; omega) ((any_take default (by omega)).2 ⟨m, hm, by rw [lblEq_comm]; exact h6⟩)) (by decide)
      · have hm : m = k := by have := of_decide_eq_false h5; omega
        subst hm
        have a4 := of_decide_eq_false h4
        refine ⟨i - 1, m + 1, by omega, ⟨by omega, by omega, lt_next q3 (bad0 ?_ (by omega) (any_take_false default (by omega) fun j hj => by rw [lblEq_comm]; exact r2 j hj))⟩, wrap_next m (by omega), trivial, rfl, trivial⟩
        unfold rightL; rw [decide_eq_true (by have := of_decide_eq_false h2; omega), decide_eq_true (by have := of_decide_eq_false h3; omega)]; rfl
    · have hk : k = xs.length := by have := of_decide_eq_false h1; omega
      subst hk
      unfold lblsChk; rw [firstBad_none q3]; rfl)
end Go.Proofs.Ytepijhnfeafmaaa
