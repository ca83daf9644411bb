/- What the functions of labels answer. -/
import Derived.Test.YtepijhnfeafmaaaAPrg
import Derived.Test.YtepijhnfeafmaaaCCats2
import Derived.Test.YtepijhnfeafmaaaCEq
set_option linter.unusedVariables false
set_option linter.unusedSimpArgs false
set_option maxRecDepth 100000
namespace Go.Proofs.Ytepijhnfeafmaaa
open Go Go.Ideal
def rightL (x : Lbl) : Bool := decide (0 ≤ x.level) && decide (x.level ≤ 255)
def domL (x y : Lbl) : Bool := decide (y.level ≤ x.level) && withinC y.cats x.cats
def inL (x lo hi : Lbl) : Bool := domL x lo && domL hi x
theorem lblRight_w (x : Lbl) : CallK Try.prog 142 [lblV x] (.bool (rightL x)) :=
  CallK.via progOK (pfs []) [] 100 (Adv.split (4 : Nat) (Adv.split (8 : Nat) Adv.nil Adv.nil) Adv.nil) (by kernel_rfl) (by kernel_rfl) (p := (decide (Lbl.level x ≥ (0 : Int)) = true →
    (decide (Lbl.level x ≤ (255 : Int)) = true → Value.bool true = Value.bool (rightL x)) ∧ (decide (Lbl.level x ≤ (255 : Int)) = false → Value.bool false = Value.bool (rightL x))) ∧
  (decide (Lbl.level x ≥ (0 : Int)) = false → Value.bool false = Value.bool (rightL x))) (by kernel_rfl) (by
    simp only [decide_eq_true_eq, decide_eq_false_iff_not, ge_iff_le]
    refine ⟨fun h0 => ⟨fun h1 => ?_, fun h1 => ?_⟩, fun h0 => ?_⟩
    · unfold rightL; rw [decide_eq_true h0, decide_eq_true h1]; rfl
    · unfold rightL; rw [decide_eq_true h0, decide_eq_false h1]; rfl
    · unfold rightL; rw [decide_eq_false h0]; rfl)
theorem dom_w (x y : Lbl) : CallK Try.prog 122 [lblV x, lblV y] (.bool (domL x y)) :=
  CallK.via progOK (pfs [145]) [] 100 (Adv.split (7 : Nat) (Adv.purs (13 : Nat) (withinC (Lbl.cats y) (Lbl.cats x)) Adv.nil Adv.nil) Adv.nil) (by kernel_rfl) (by kernel_rfl) (p := (decide (Lbl.level x ≥ Lbl.level y) = true →
    CallK Try.prog (nat_lit 145) [Value.agg (Array.mk (catsL (Lbl.cats y))), Value.agg (Array.mk (catsL (Lbl.cats x)))] (Value.bool (withinC (Lbl.cats y) (Lbl.cats x))) ∧
      (withinC (Lbl.cats y) (Lbl.cats x) = true → Value.bool true = Value.bool (domL x y)) ∧ (withinC (Lbl.cats y) (Lbl.cats x) = false → Value.bool false = Value.bool (domL x y))) ∧
  (decide (Lbl.level x ≥ Lbl.level y) = false → Value.bool false = Value.bool (domL x y))) (by kernel_rfl) (by
    simp only [decide_eq_true_eq, decide_eq_false_iff_not, ge_iff_le]
    refine ⟨fun h0 => ⟨within_w _ _, fun h1 => ?_, fun h1 => ?_⟩, fun h0 => ?_⟩
    · unfold domL; rw [decide_eq_true h0, h1]; rfl
    · unfold domL; rw [decide_eq_true h0, h1]; rfl
    · unfold domL; rw [decide_eq_false h0]; rfl)
theorem in_w (x lo hi : Lbl) : CallK Try.prog 117 [lblV x, lblV lo, lblV hi] (.bool (inL x lo hi)) :=
  CallK.via progOK (pfs [122]) [] 100 (Adv.purs (6 : Nat) (domL x lo) (Adv.purs (10 : Nat) (domL hi x) Adv.nil Adv.nil) Adv.nil) (by kernel_rfl) (by kernel_rfl) (p := CallK Try.prog (nat_lit 122) [Value.agg (Array.mk (lblL x)), Value.agg (Array.mk (lblL lo))] (Value.bool (domL x lo)) ∧
  (domL x lo = true →
      CallK Try.prog (nat_lit 122) [Value.agg (Array.mk (lblL hi)), Value.agg (Array.mk (lblL x))] (Value.bool (domL hi x)) ∧
        (domL hi x = true → Value.bool true = Value.bool (inL x lo hi)) ∧ (domL hi x = false → Value.bool false = Value.bool (inL x lo hi))) ∧
    (domL x lo = false → Value.bool false = Value.bool (inL x lo hi))) (by kernel_rfl) (by
    refine ⟨dom_w _ _, fun h0 => ⟨dom_w _ _, fun h1 => ?_, fun h1 => ?_⟩, fun h0 => ?_⟩
    · unfold inL; rw [h0, h1]; rfl
    · unfold inL; rw [h0, h1]; rfl
    · unfold inL; rw [h0]; rfl)
theorem refDom_w (x y : Lbl) (hx : CatsOK x.cats) (hy : CatsOK y.cats) : CallK Try.prog 76 [lblV x, lblV y] (.bool (domL x y)) :=
  CallK.via progOK (pfs [118]) [] 100 (Adv.split (7 : Nat) (Adv.purs (13 : Nat) (withinC (Lbl.cats y) (Lbl.cats x)) Adv.nil Adv.nil) Adv.nil) (by kernel_rfl) (by kernel_rfl) (p := (decide (Lbl.level x ≥ Lbl.level y) = true →
    CallK Try.prog (nat_lit 118) [Value.agg (Array.mk (catsL (Lbl.cats y))), Value.agg (Array.mk (catsL (Lbl.cats x)))] (Value.bool (withinC (Lbl.cats y) (Lbl.cats x))) ∧
      (withinC (Lbl.cats y) (Lbl.cats x) = true → Value.bool true = Value.bool (domL x y)) ∧ (withinC (Lbl.cats y) (Lbl.cats x) = false → Value.bool false = Value.bool (domL x y))) ∧
  (decide (Lbl.level x ≥ Lbl.level y) = false → Value.bool false = Value.bool (domL x y))) (by kernel_rfl) (by
    simp only [decide_eq_true_eq, decide_eq_false_iff_not, ge_iff_le]
    refine ⟨fun h0 => ⟨refWithin_w _ _ hy hx, fun h1 => ?_, fun h1 => ?_⟩, fun h0 => ?_⟩
    · unfold domL; rw [decide_eq_true h0, h1]; rfl
    · unfold domL; rw [decide_eq_true h0, h1]; rfl
    · unfold domL; rw [decide_eq_false h0]; rfl)
def findL (xs : List Lbl) (x : Lbl) : Int := match xs.findIdx? (fun y => lblEq y x) with
  | some i => i
  | none => -1
theorem findL_some {xs : List Lbl} {x : Lbl} {k : Nat} (hk : k < xs.length) (h : lblEq (xs.getD k default) x = true) (no : ∀ j, j < k → lblEq (xs.getD j default) x = false) : findL xs x = k := by
  have : xs.findIdx? (fun y => lblEq y x) = some k := by
    rw [List.findIdx?_eq_some_iff_getElem]
    refine ⟨hk, by simpa [List.getD, List.getElem?_eq_getElem hk] using h, fun j hj => ?_⟩
    have := no j hj
    have hj2 : j < xs.length := by omega
    simpa [List.getD, List.getElem?_eq_getElem hj2] using this
  unfold findL; rw [this]
theorem findL_none {xs : List Lbl} {x : Lbl} (no : ∀ j, j < xs.length → lblEq (xs.getD j default) x = false) : findL xs x = -1 := by
  have : xs.findIdx? (fun y => lblEq y x) = none := by
    rw [List.findIdx?_eq_none_iff]
    intro y hy
    obtain ⟨j, hj, e⟩ := List.getElem_of_mem hy
    have := no j hj
    simpa [List.getD, List.getElem?_eq_getElem hj, e] using this
  unfold findL; rw [this]
theorem lbls_part {xs : List Lbl} {k : Nat} (hk : k < xs.length) : (Ask.part (lblsL xs) ((((k : Int)).toNat * 31 : Nat) : Int).toNat 31 (lblL (xs.getD k default))).holds Try.prog := by
  have := cellsOf_part (P := Try.prog) (f := lblL) lblL_length default hk 0 31 (Nat.le_refl _) (lblL (xs.getD k default)) (by rw [List.drop_zero]; exact List.take_of_length_le (Nat.le_of_eq (lblL_length _)))
  rw [show ((((k : Int)).toNat * 31 : Nat) : Int).toNat = k * 31 + 0 by omega]
  exact this
theorem refFind_w (xs : List Lbl) (x : Lbl) (hl : xs.length ≤ 9223372036854775807) : CallK Try.prog 110 [lblsV xs, lblV x] (.int .i64 (findL xs x)) :=
  CallK.via progOK (pfs []) [] 100 (Adv.loop (3 : Nat) (fun (k : Nat) => [((5 : Nat), Value.int IntKind.i64 (↑k : Int))])
  ((fun (h : Heap) (x : Nat) => h) (Heap.mk (nat_lit 1) (Trie.node (some (Blk.cells (lblL x) (nat_lit 44) Mode.fix)) Trie.leaf Trie.leaf)))
  (fun (i k : Nat) => i + k = List.length xs ∧ ∀ (j : Nat), j < k → lblEq (List.getD xs j default) x = false) (List.length xs) (0 : Nat) fun (i3 s3 : Nat) (j3 : Nat → Value) =>
  Adv.split (7 : Nat)
    (Adv.chk (10 : Nat) none
      (Adv.chk (11 : Nat) (some (Value.agg (Array.mk (lblL (List.getD xs s3 default))))) (Adv.chks (13 : Nat) (some (Value.bool (lblEq (List.getD xs s3 default) x))) Adv.nil Adv.nil)))
    Adv.nil) (by kernel_rfl) (by kernel_rfl) (p := ((List.length xs + (0 : Nat) = List.length xs ∧ ∀ (j : Nat), j < (0 : Nat) → lblEq (List.getD xs j default) x = false) ∧
    Value.int IntKind.i64 (0 : Int) = Value.int IntKind.i64 (0 : Int) ∧
      Heap.mk (nat_lit 1) (Trie.node (some (Blk.cells (lblL x) (nat_lit 44) Mode.fix)) Trie.leaf Trie.leaf) =
        Heap.mk (nat_lit 1) (Trie.node (some (Blk.cells (lblL x) (nat_lit 44) Mode.fix)) Trie.leaf Trie.leaf)) ∧
  ∀ (i3 s3 : Nat) (j3 : Nat → Value),
    (i3 + s3 = List.length xs ∧ ∀ (j : Nat), j < s3 → lblEq (List.getD xs j default) x = false) →
      (decide ((↑s3 : Int) < (↑(List.length xs) : Int)) = true →
          ((0 : Int) ≤ (↑s3 : Int) ∧ (↑s3 : Int) < (↑(List.length xs) : Int)) ∧
            Ask.holds Try.prog (Ask.part (Array.toList (Array.mk (lblsL xs))) (Int.toNat (↑(Int.toNat (↑s3 : Int) * nat_lit 31) : Int)) (nat_lit 31) (lblL (List.getD xs s3 default))) ∧
              Ask.holds Try.prog (Ask.eqv (nat_lit 44) (Value.agg (Array.mk (lblL (List.getD xs s3 default)))) (Value.agg (Array.mk (lblL x))) (lblEq (List.getD xs s3 default) x)) ∧
                (lblEq (List.getD xs s3 default) x = true → Value.int IntKind.i64 (↑s3 : Int) = Value.int IntKind.i64 (findL xs x)) ∧
                  (lblEq (List.getD xs s3 default) x = false →
                    ∃ (i3' : Nat),
                      ∃ (s3' : Nat),
                        i3' < i3 ∧
                          (i3' + s3' = List.length xs ∧ ∀ (j : Nat), j < s3' → lblEq (List.getD xs j default) x = false) ∧
                            Value.int IntKind.i64 (IntKind.wrap IntKind.i64 ((↑s3 : Int) + (1 : Int))) = Value.int IntKind.i64 (↑s3' : Int) ∧
                              (some (Blk.cells (lblL x) (nat_lit 44) Mode.fix) = some (Blk.cells (lblL x) (nat_lit 44) Mode.fix) ∧ True) ∧ true = true ∧ true = true ∧ True)) ∧
        (decide ((↑s3 : Int) < (↑(List.length xs) : Int)) = false → Value.int IntKind.i64 (-1 : Int) = Value.int IntKind.i64 (findL xs x))) (by kernel_rfl) (by
    simp only [decide_eq_true_eq, decide_eq_false_iff_not, and_true, true_and, Value.int.injEq]
    refine ⟨⟨by omega, fun j hj => by omega⟩, fun i k j ⟨q1, q2⟩ => ⟨fun h1 => ⟨⟨by omega, h1⟩, lbls_part (by omega), lblEq_eqD _ _, fun h2 => ?_, fun h2 => ⟨i - 1, k + 1, by omega, ⟨by omega, fun j hj => ?_⟩, by rw [wrap_in (by omega) (by omega)]; rfl⟩⟩, fun h1 => ?_⟩⟩
    · exact (findL_some (by omega) h2 q2).symm
    · rcases Nat.lt_or_ge j k with h | h
      · exact q2 j h
      · obtain rfl : j = k := by omega
        exact h2
    · exact (findL_none fun j hj => q2 j (by omega)).symm)
end Go.Proofs.Ytepijhnfeafmaaa
