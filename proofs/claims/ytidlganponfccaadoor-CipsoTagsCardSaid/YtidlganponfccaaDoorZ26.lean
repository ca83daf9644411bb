/- Texts packed together: CCip7. -/
import Derived.Test.YtidlganponfccaaDoorZ25
section
/- The document's options, and the shortest one; the example. -/
set_option linter.unusedVariables false
set_option linter.unusedSimpArgs false
set_option maxRecDepth 100000
namespace Go.Proofs.YtidlganponfccaaDoor
open Go Go.Ideal
theorem refTag0_w (k : Int) (x : Lbl) (hk : typeOk k = false) : CallK Tryd.prog 45 [.int .i64 k, lblV x] (.tuple (Array.mk [.string (bs (tagS k x)), .int .i64 (tagE k x)])) := CallK.via progOK (pfs []) [] 100 (Adv.split (8 : Nat) Adv.nil (Adv.split (12 : Nat) Adv.nil (Adv.put (16 : Nat) (Value.bool true) (Adv.put (19 : Nat) (Value.bool true) (Adv.put (23 : Nat) (Value.bool true) Adv.nil))))) (by kernel_rfl) (by kernel_rfl) (p := (decide (Lbl.level x < (0 : Int)) = true → Value.tuple (Array.mk [Value.string (ByteArray.mk #[]), Value.int IntKind.i64 (1 : Int)]) = Value.tuple (Array.mk [Value.string (bs (tagS k x)), Value.int IntKind.i64 (tagE k x)])) ∧ (decide (Lbl.level x < (0 : Int)) = false → (decide (Lbl.level x > (255 : Int)) = true → Value.tuple (Array.mk [Value.string (ByteArray.mk #[]), Value.int IntKind.i64 (1 : Int)]) = Value.tuple (Array.mk [Value.string (bs (tagS k x)), Value.int IntKind.i64 (tagE k x)])) ∧ (decide (Lbl.level x > (255 : Int)) = false → Value.bool (k != (1 : Int)) = Value.bool true ∧ Value.bool (k != (2 : Int)) = Value.bool true ∧ Value.bool (k != (5 : Int)) = Value.bool true ∧ Value.tuple (Array.mk [Value.string (ByteArray.mk #[]), Value.int IntKind.i64 (1 : Int)]) = Value.tuple (Array.mk [Value.string (bs (tagS k x)), Value.int IntKind.i64 (tagE k x)])))) (by kernel_rfl) (by
    have hb : tagE k x = 1 := tagE_bad (by rw [hk]; simp)
    unfold typeOk at hk
    simp only [Bool.or_eq_false_iff] at hk
    obtain ⟨⟨h1, h2⟩, h3⟩ := hk
    exact ⟨fun _ => no_tag hb (by decide), fun _ => ⟨fun _ => no_tag hb (by decide), fun _ => ⟨by unfold bne; rw [h1]; rfl, by unfold bne; rw [h2]; rfl, by unfold bne; rw [h3]; rfl, no_tag hb (by decide)⟩⟩⟩)
theorem refTag_w (k : Int) (x : Lbl) (hx : LblOK x) : CallK Tryd.prog 45 [.int .i64 k, lblV x] (.tuple (Array.mk [.string (bs (tagS k x)), .int .i64 (tagE k x)])) := by
  cases hk : typeOk k with
  | false => exact refTag0_w k x hk
  | true =>
    have : k = 1 ∨ k = 2 ∨ k = 5 := by
      unfold typeOk at hk
      simp at hk
      omega
    rcases this with rfl | rfl | rfl
    · exact refTag1_w x hx
    · exact refTag2_w x hx
    · exact refTag5_w x hx
theorem data_of {k d : Int} {x : Lbl} (h : tagE k x = 0) : Value.tuple (Array.mk [Value.string (bs (wordB d) ++ bs (tagS k x)), .int .i64 0]) = .tuple (Array.mk [.string (bs (dataS k d x)), .int .i64 (tagE k x)]) := by
  unfold dataS
  rw [if_pos h, h, bs_cat]
theorem data_no {k d : Int} {x : Lbl} (h : tagE k x ≠ 0) : Value.tuple (Array.mk [Value.string (ByteArray.mk #[]), .int .i64 (tagE k x)]) = .tuple (Array.mk [.string (bs (dataS k d x)), .int .i64 (tagE k x)]) := by
  unfold dataS
  rw [if_neg h]
  rfl
theorem refData_w (k d : Int) (x : Lbl) (hx : LblOK x) : CallK Tryd.prog 47 [.int .i64 k, .int .u32 d, lblV x] (.tuple (Array.mk [.string (bs (dataS k d x)), .int .i64 (tagE k x)])) := CallK.via progOK (pfs []) [] 100 (Adv.pur (7 : Nat) (Value.tuple (Array.mk [Value.string (bs (tagS k x)), Value.int IntKind.i64 (tagE k x)])) (Adv.split (16 : Nat) Adv.nil (Adv.pur (20 : Nat) (Value.string (bs (wordB d))) (Adv.chk (22 : Nat) none Adv.nil)))) (by kernel_rfl) (by kernel_rfl) (p := CallK Tryd.prog (nat_lit 45) [Value.int IntKind.i64 k, Value.agg (Array.mk (Value.int IntKind.i64 (Lbl.level x) :: catsL (Lbl.cats x)))] (Value.tuple (Array.mk [Value.string (bs (tagS k x)), Value.int IntKind.i64 (tagE k x)])) ∧ ((tagE k x != (0 : Int)) = true → Value.tuple (Array.mk [Value.string (ByteArray.mk #[]), Value.int IntKind.i64 (tagE k x)]) = Value.tuple (Array.mk [Value.string (bs (dataS k d x)), Value.int IntKind.i64 (tagE k x)])) ∧ ((tagE k x != (0 : Int)) = false → CallK Tryd.prog (nat_lit 76) [Value.int IntKind.u32 d] (Value.string (bs (wordB d))) ∧ (↑(ByteArray.size (bs (wordB d)) + ByteArray.size (bs (tagS k x))) : Int) ≤ (9223372036854775807 : Int) ∧ Value.tuple (Array.mk [Value.string (bs (wordB d) ++ bs (tagS k x)), Value.int IntKind.i64 (0 : Int)]) = Value.tuple (Array.mk [Value.string (bs (dataS k d x)), Value.int IntKind.i64 (tagE k x)]))) (by kernel_rfl) (by
    have hl := tagS_len k x
    refine ⟨refTag_w k x hx, fun h => data_no (by simpa using h), fun h => ⟨word_w d, ?_, data_of (by simpa using h)⟩⟩
    rw [bs_size, bs_size]
    show ((4 + (tagS k x).length : Nat) : Int) ≤ _
    omega)
theorem dataS_ne {k d : Int} {x : Lbl} (h : tagE k x = 0) : dataS k d x ≠ [] := by
  unfold dataS
  rw [if_pos h]
  simp [wordB]
/-- The shortest one of the first types. -/
def bst (d : Int) (x : Lbl) : Nat → Bs
  | 0 => []
  | j + 1 => if tagE ((j : Int) + 1) x = 0 ∧ (bst d x j = [] ∨ (dataS ((j : Int) + 1) d x).length < (bst d x j).length) then dataS ((j : Int) + 1) d x else bst d x j
theorem bst_all {d : Int} {x : Lbl} (hr : rightL x = true) : bst d x 5 = bestS d x ∧ bestS d x ≠ [] := by
  have h1 := tag1_ok hr
  have n1 := dataS_ne (d := d) h1
  have h3 : tagE 3 x = 1 := tagE_bad (by rw [hr]; rfl)
  have h4 : tagE 4 x = 1 := tagE_bad (by rw [hr]; rfl)
  have b1 : bst d x 1 = dataS 1 d x := by
    unfold bst
    exact if_pos ⟨h1, .inl rfl⟩
  have b2 : bst d x 2 = lessS (tagE 2 x) (dataS 2 d x) (dataS 1 d x) := by
    unfold bst lessS
    rw [b1]
    have e : ((1 : Nat) : Int) + 1 = 2 := rfl
    rw [e]
    simp [n1]
  have n2 : lessS (tagE 2 x) (dataS 2 d x) (dataS 1 d x) ≠ [] := by
    unfold lessS
    split
    · rename_i h
      exact dataS_ne h.1
    · exact n1
  have b3 : bst d x 3 = bst d x 2 := by
    rw [bst]
    exact if_neg (by have e : ((2 : Nat) : Int) + 1 = 3 := rfl; rw [e, h3]; simp)
  have b4 : bst d x 4 = bst d x 3 := by
    rw [bst]
    exact if_neg (by have e : ((3 : Nat) : Int) + 1 = 4 := rfl; rw [e, h4]; simp)
  have hb : bestS d x = lessS (tagE 5 x) (dataS 5 d x) (lessS (tagE 2 x) (dataS 2 d x) (dataS 1 d x)) := if_pos hr
  generalize lessS (tagE 2 x) (dataS 2 d x) (dataS 1 d x) = L at *
  have b5 : bst d x 5 = bestS d x := by
    rw [hb, bst, b4, b3, b2]
    have e : ((4 : Nat) : Int) + 1 = 5 := rfl
    rw [e]
    unfold lessS
    simp [n2]
  refine ⟨b5, ?_⟩
  rw [hb]
  unfold lessS
  split
  · rename_i h
    exact dataS_ne h.1
  · exact n2
theorem bs_beq_nil (l : Bs) : (ByteArray.toList (bs l) == ByteArray.toList (ByteArray.mk #[])) = decide (l = []) := by
  have e : ByteArray.toList (bs l) = l := by rw [Lib.toList_data]; rfl
  have e2 : ByteArray.toList (ByteArray.mk #[]) = [] := by rw [Lib.toList_data]
  rw [e, e2, Bool.eq_iff_iff]
  simp
theorem refBest_w (d : Int) (x : Lbl) (hx : LblOK x) : CallK Tryd.prog 49 [.int .u32 d, lblV x] (.tuple (Array.mk [.string (bs (bestS d x)), .int .i64 (bestE x)])) := CallK.via progOK (pfs []) [] 100 (Adv.split (8 : Nat) Adv.nil (Adv.split (12 : Nat) Adv.nil (Adv.loop (20 : Nat) (fun (j : Nat) => [((7 : Nat), Value.int IntKind.i64 ((↑j : Int) + (1 : Int))), ((6 : Nat), Value.string (bs (bst d x j)))]) ((fun (h : Heap) (x : Nat) => h) (Heap.mk (nat_lit 9) (Trie.node none Trie.leaf (Trie.node none (Trie.node none (Trie.node (some (Blk.cells (Value.int IntKind.i64 (Lbl.level x) :: catsL (Lbl.cats x)) (nat_lit 43) Mode.fix)) Trie.leaf Trie.leaf) Trie.leaf) Trie.leaf)))) (fun (i j : Nat) => i + j = (5 : Nat)) (5 : Nat) (0 : Nat) fun (i20 s20 : Nat) (j20 : Nat → Value) => Adv.split (24 : Nat) (Adv.pur (31 : Nat) (Value.tuple (Array.mk [Value.string (bs (dataS ((↑s20 : Int) + (1 : Int)) d x)), Value.int IntKind.i64 (tagE ((↑s20 : Int) + (1 : Int)) x)])) (Adv.split (39 : Nat) (Adv.split (42 : Nat) Adv.nil (Adv.split (48 : Nat) Adv.nil Adv.nil)) Adv.nil)) (Adv.split (29 : Nat) Adv.nil Adv.nil)))) (by kernel_rfl) (by kernel_rfl) (p := (decide (Lbl.level x < (0 : Int)) = true → Value.tuple (Array.mk [Value.string (ByteArray.mk #[]), Value.int IntKind.i64 (1 : Int)]) = Value.tuple (Array.mk [Value.string (bs (bestS d x)), Value.int IntKind.i64 (bestE x)])) ∧ (decide (Lbl.level x < (0 : Int)) = false → (decide (Lbl.level x > (255 : Int)) = true → Value.tuple (Array.mk [Value.string (ByteArray.mk #[]), Value.int IntKind.i64 (1 : Int)]) = Value.tuple (Array.mk [Value.string (bs (bestS d x)), Value.int IntKind.i64 (bestE x)])) ∧ (decide (Lbl.level x > (255 : Int)) = false → ((5 : Nat) + (0 : Nat) = (5 : Nat) ∧ (Value.int IntKind.i64 (1 : Int) = Value.int IntKind.i64 (1 : Int) ∧ Value.string (ByteArray.mk #[]) = Value.string (bs (bst d x (0 : Nat)))) ∧ Heap.mk (nat_lit 9) (Trie.node none Trie.leaf (Trie.node none (Trie.node none (Trie.node (some (Blk.cells (Value.int IntKind.i64 (Lbl.level x) :: catsL (Lbl.cats x)) (nat_lit 43) Mode.fix)) Trie.leaf Trie.leaf) Trie.leaf) Trie.leaf)) = Heap.mk (nat_lit 9) (Trie.node none Trie.leaf (Trie.node none (Trie.node none (Trie.node (some (Blk.cells (Value.int IntKind.i64 (Lbl.level x) :: catsL (Lbl.cats x)) (nat_lit 43) Mode.fix)) Trie.leaf Trie.leaf) Trie.leaf) Trie.leaf))) ∧ ∀ (i20 s20 : Nat) (j20 : Nat → Value), i20 + s20 = (5 : Nat) → (decide ((↑s20 : Int) + (1 : Int) ≤ (5 : Int)) = true → CallK Tryd.prog (nat_lit 47) [Value.int IntKind.i64 ((↑s20 : Int) + (1 : Int)), Value.int IntKind.u32 d, Value.agg (Array.mk (Value.int IntKind.i64 (Lbl.level x) :: catsL (Lbl.cats x)))] (Value.tuple (Array.mk [Value.string (bs (dataS ((↑s20 : Int) + (1 : Int)) d x)), Value.int IntKind.i64 (tagE ((↑s20 : Int) + (1 : Int)) x)])) ∧ ((tagE ((↑s20 : Int) + (1 : Int)) x == (0 : Int)) = true → ((ByteArray.toList (bs (bst d x s20)) == ByteArray.toList (ByteArray.mk #[])) = true → ∃ (i20' : Nat), ∃ (s20' : Nat), i20' < i20 ∧ i20' + s20' = (5 : Nat) ∧ (Value.int IntKind.i64 (IntKind.wrap IntKind.i64 ((↑s20 : Int) + (1 : Int) + (1 : Int))) = Value.int IntKind.i64 ((↑s20' : Int) + (1 : Int)) ∧ Value.string (bs (dataS ((↑s20 : Int) + (1 : Int)) d x)) = Value.string (bs (bst d x s20'))) ∧ (some (Blk.cells (Value.int IntKind.i64 (Lbl.level x) :: catsL (Lbl.cats x)) (nat_lit 43) Mode.fix) = some (Blk.cells (Value.int IntKind.i64 (Lbl.level x) :: catsL (Lbl.cats x)) (nat_lit 43) Mode.fix) ∧ True) ∧ true = true ∧ true = true ∧ True) ∧ ((ByteArray.toList (bs (bst d x s20)) == ByteArray.toList (ByteArray.mk #[])) = false → (decide ((↑(ByteArray.size (bs (dataS ((↑s20 : Int) + (1 : Int)) d x))) : Int) < (↑(ByteArray.size (bs (bst d x s20))) : Int)) = true → ∃ (i20' : Nat), ∃ (s20' : Nat), i20' < i20 ∧ i20' + s20' = (5 : Nat) ∧ (Value.int IntKind.i64 (IntKind.wrap IntKind.i64 ((↑s20 : Int) + (1 : Int) + (1 : Int))) = Value.int IntKind.i64 ((↑s20' : Int) + (1 : Int)) ∧ Value.string (bs (dataS ((↑s20 : Int) + (1 : Int)) d x)) = Value.string (bs (bst d x s20'))) ∧ (some (Blk.cells (Value.int IntKind.i64 (Lbl.level x) :: catsL (Lbl.cats x)) (nat_lit 43) Mode.fix) = some (Blk.cells (Value.int IntKind.i64 (Lbl.level x) :: catsL (Lbl.cats x)) (nat_lit 43) Mode.fix) ∧ True) ∧ true = true ∧ true = true ∧ True) ∧ (decide ((↑(ByteArray.size (bs (dataS ((↑s20 : Int) + (1 : Int)) d x))) : Int) < (↑(ByteArray.size (bs (bst d x s20))) : Int)) = false → ∃ (i20' : Nat), ∃ (s20' : Nat), i20' < i20 ∧ i20' + s20' = (5 : Nat) ∧ (Value.int IntKind.i64 (IntKind.wrap IntKind.i64 ((↑s20 : Int) + (1 : Int) + (1 : Int))) = Value.int IntKind.i64 ((↑s20' : Int) + (1 : Int)) ∧ Value.string (bs (bst d x s20)) = Value.string (bs (bst d x s20'))) ∧ (some (Blk.cells (Value.int IntKind.i64 (Lbl.level x) :: catsL (Lbl.cats x)) (nat_lit 43) Mode.fix) = some (Blk.cells (Value.int IntKind.i64 (Lbl.level x) :: catsL (Lbl.cats x)) (nat_lit 43) Mode.fix) ∧ True) ∧ true = true ∧ true = true ∧ True))) ∧ ((tagE ((↑s20 : Int) + (1 : Int)) x == (0 : Int)) = false → ∃ (i20' : Nat), ∃ (s20' : Nat), i20' < i20 ∧ i20' + s20' = (5 : Nat) ∧ (Value.int IntKind.i64 (IntKind.wrap IntKind.i64 ((↑s20 : Int) + (1 : Int) + (1 : Int))) = Value.int IntKind.i64 ((↑s20' : Int) + (1 : Int)) ∧ Value.string (bs (bst d x s20)) = Value.string (bs (bst d x s20'))) ∧ (some (Blk.cells (Value.int IntKind.i64 (Lbl.level x) :: catsL (Lbl.cats x)) (nat_lit 43) Mode.fix) = some (Blk.cells (Value.int IntKind.i64 (Lbl.level x) :: catsL (Lbl.cats x)) (nat_lit 43) Mode.fix) ∧ True) ∧ true = true ∧ true = true ∧ True)) ∧ (decide ((↑s20 : Int) + (1 : Int) ≤ (5 : Int)) = false → ((ByteArray.toList (bs (bst d x s20)) == ByteArray.toList (ByteArray.mk #[])) = true → Value.tuple (Array.mk [Value.string (ByteArray.mk #[]), Value.int IntKind.i64 (5 : Int)]) = Value.tuple (Array.mk [Value.string (bs (bestS d x)), Value.int IntKind.i64 (bestE x)])) ∧ ((ByteArray.toList (bs (bst d x s20)) == ByteArray.toList (ByteArray.mk #[])) = false → Value.tuple (Array.mk [Value.string (bs (bst d x s20)), Value.int IntKind.i64 (0 : Int)]) = Value.tuple (Array.mk [Value.string (bs (bestS d x)), Value.int IntKind.i64 (bestE x)])))))) (by kernel_rfl) (by
    have hno : rightL x = false → Value.tuple (Array.mk [Value.string (ByteArray.mk #[]), .int .i64 1]) = .tuple (Array.mk [.string (bs (bestS d x)), .int .i64 (bestE x)]) := fun hr => by
      have e : bestE x = 1 := if_neg (by rw [hr]; simp)
      have e2 : bestS d x = [] := if_neg (by rw [hr]; simp)
      rw [e, e2]
      rfl
    refine ⟨fun h => hno (by have := of_decide_eq_true h; unfold rightL; rw [decide_eq_false (by omega)]; simp), fun l0 => ⟨fun h => hno (by have := of_decide_eq_true h; unfold rightL; rw [decide_eq_false (p := x.level ≤ 255) (by omega)]; simp), fun l1 => ⟨⟨by omega, ⟨rfl, rfl⟩, rfl⟩, fun i j u q => ⟨fun h2 => ?_, fun h2 => ?_⟩⟩⟩⟩
    · have hj : j < 5 := by have := of_decide_eq_true h2; omega
      have w1 : IntKind.i64.wrap ((j : Int) + 1 + 1) = (((j + 1 : Nat)) : Int) + 1 := by rw [wrap_in (by omega) (by omega)]; omega
      have hb : bst d x (j + 1) = if tagE ((j : Int) + 1) x = 0 ∧ (bst d x j = [] ∨ (dataS ((j : Int) + 1) d x).length < (bst d x j).length) then dataS ((j : Int) + 1) d x else bst d x j := rfl
      rw [w1]
      have fin : ∀ s, s = bst d x (j + 1) → ∃ i', ∃ s' : Nat, i' < i ∧ i' + s' = 5 ∧ (Value.int .i64 (((j + 1 : Nat) : Int) + 1) = .int .i64 ((s' : Int) + 1) ∧ Value.string (bs s) = Value.string (bs (bst d x s'))) ∧ (some (Blk.cells (lblL x) 43 Mode.fix) = some (Blk.cells (lblL x) 43 Mode.fix) ∧ True) ∧ true = true ∧ true = true ∧ True := fun s h => ⟨i - 1, j + 1, by omega, by omega, ⟨rfl, by rw [h]⟩, ⟨rfl, trivial⟩, rfl, rfl, trivial⟩
      refine ⟨refData_w _ d x hx, fun h3 => ⟨fun h4 => fin _ ?_, fun h4 => ⟨fun h5 => fin _ ?_, fun h5 => fin _ ?_⟩⟩, fun h3 => fin _ ?_⟩
      · rw [bs_beq_nil] at h4
        rw [hb, if_pos ⟨by simpa using h3, .inl (of_decide_eq_true h4)⟩]
      · rw [bs_size, bs_size] at h5
        have h5 := of_decide_eq_true h5
        rw [hb, if_pos ⟨by simpa using h3, .inr (by omega)⟩]
      · rw [bs_beq_nil] at h4
        rw [bs_size, bs_size] at h5
        have h4 := of_decide_eq_false h4
        have h5 := of_decide_eq_false h5
        rw [hb, if_neg]
        rintro ⟨_, h | h⟩
        · exact h4 h
        · omega
      · have h3 : ¬ tagE ((j : Int) + 1) x = 0 := by simpa using h3
        rw [hb, if_neg]
        rintro ⟨h, _⟩
        exact h3 h
    · obtain rfl : j = 5 := by have := of_decide_eq_false h2; omega
      have hr : rightL x = true := by
        have l0 := of_decide_eq_false l0
        have l1 := of_decide_eq_false l1
        unfold rightL
        rw [decide_eq_true (by omega), decide_eq_true (by omega)]
        rfl
      obtain ⟨h1, h3⟩ := bst_all (d := d) hr
      have e : bestE x = 0 := if_pos hr
      rw [h1, e, bs_beq_nil]
      exact ⟨fun h => absurd (of_decide_eq_true h) h3, fun _ => rfl⟩)
end Go.Proofs.YtidlganponfccaaDoor

end
