/- Texts packed together: CTextLaw CCatsLaw8 CCats5 CCats6 CCatsLaw9 CCipLaw CCipLaw2 CCipLaw3. -/
import Derived.Lib.ItoaNum
import Derived.Lib.AtoiAll
import Derived.Lib.Join
import Derived.Test.YtidlganponfccaaDoorZ19
section
/- Sets told: runs of numbers as texts, and the texts read again. -/
set_option linter.unusedVariables false
set_option linter.unusedSimpArgs false
namespace Go.Proofs.YtidlganponfccaaDoor
open Go Go.Ideal
/-! ### digits -/
/-! ### joined, split -/
end Go.Proofs.YtidlganponfccaaDoor

end
section
/- The plain law of sets: in all, and in common. -/
set_option linter.unusedVariables false
set_option linter.unusedSimpArgs false
set_option linter.unusedVariables false
set_option linter.unusedSimpArgs false
namespace Go.Proofs.YtidlganponfccaaDoor
open Go Go.Ideal

end Go.Proofs.YtidlganponfccaaDoor

end
section
/- What the functions of sets answer: with and without some, how many, which. -/
set_option linter.unusedVariables false
set_option linter.unusedSimpArgs false
set_option maxRecDepth 100000
namespace Go.Proofs.YtidlganponfccaaDoor
open Go Go.Ideal
def iz1 (n : Int) : List Value := [.int .i64 n]
theorem iz1_length (n : Int) : (iz1 n).length = 1 := rfl
def izL (l : List Int) : List Value := cellsOf iz1 l
def izV (l : List Int) : Value := vsl l.length (izL l).toArray
theorem izL_length (l : List Int) : (izL l).length = l.length := (cellsOf_length iz1_length l).trans (Nat.mul_one _)
theorem izL_snoc (l : List Int) (k : Int) : izL (l ++ [k]) = izL l ++ [.int .i64 k] := cellsOf_snoc _ _ _
theorem iz_part {l : List Int} {k : Nat} (hk : k < l.length) {o : Nat} (ho : o = k * 1 + 0) : (Ask.part (izL l) o 1 [.int .i64 (l.getD k 0)]).holds Tryd.prog := by
  subst ho; exact cellsOf_part (P := Tryd.prog) (f := iz1) iz1_length 0 hk 0 1 (by omega) _ rfl
theorem take_add {l : List Int} {k : Nat} (hk : k < l.length) {f : List Int → Int → List Int} {c : List Int} : (l.take (k + 1)).foldl f c = f ((l.take k).foldl f c) (l.getD k 0) := by
  rw [List.take_succ_eq_append_getElem hk, List.foldl_append]
  simp only [List.foldl_cons, List.foldl_nil, List.getD, List.getElem?_eq_getElem hk, Option.getD_some]
theorem i64_bytes : (Tryd.prog.types[(3 : Nat)]).bytes = 8 := by decide +kernel
theorem isl_yes {tok : Nat} {c : List Int} {k : Nat} (h : hasC c k = true) : osl tok 1 (((listN c k).length : Int) + 1) ⟨izL (listN c k) ++ [.int .i64 k]⟩ = osl tok 1 ((listN c (k + 1)).length : Nat) (izL (listN c (k + 1))).toArray ∧
    some (Blk.own ((listN c k).length + 1) 3) = some (Blk.own (listN c (k + 1)).length 3) := by
  rw [listN_succ, if_pos h, izL_snoc, List.length_append]; exact ⟨rfl, rfl⟩
theorem isl_no {c : List Int} {k : Nat} (h : hasC c k = false) : listN c (k + 1) = listN c k := by
  rw [listN_succ, h, if_neg (by decide), List.append_nil]
theorem right54_w (k : Int) : CallK Tryd.prog 54 [.int .i64 k] (.bool (rightI k)) := CallK.via progOK (pfs []) [] 100 (Adv.split (4 : Nat) (Adv.split (7 : Nat) Adv.nil Adv.nil) Adv.nil) (by kernel_rfl) (by kernel_rfl) (p := (decide (k ≥ (0 : Int)) = true → (decide (k ≤ (239 : Int)) = true → Value.bool true = Value.bool (rightI k)) ∧ (decide (k ≤ (239 : Int)) = false → Value.bool false = Value.bool (rightI k))) ∧ (decide (k ≥ (0 : Int)) = false → Value.bool false = Value.bool (rightI k))) (by kernel_rfl) (by
    unfold rightI
    refine ⟨fun h => ⟨fun h2 => ?_, fun h2 => ?_⟩, fun h => ?_⟩
    · rw [h, h2]; rfl
    · rw [h, h2]; rfl
    · rw [h]; rfl)
theorem bit55_w (k : Int) (h0 : 0 ≤ k) : CallK Tryd.prog 55 [.int .i64 k] (.int .u8 (catBit k)) := CallK.via progOK (pfs []) [] 100 (Adv.chk (5 : Nat) none Adv.nil) (by kernel_rfl) (by kernel_rfl) (p := (0 : Int) ≤ Int.tmod k (8 : Int) ∧ Value.int IntKind.u8 (Int.fdiv (128 : Int) ((2 : Int) ^ min (Int.toNat (Int.tmod k (8 : Int))) (IntKind.bits IntKind.u8))) = Value.int IntKind.u8 (catBit k)) (by kernel_rfl) (by
    rw [Int.tmod_eq_emod_of_nonneg h0]
    refine ⟨Int.emod_nonneg _ (by decide), ?_⟩
    have : (k % 8).toNat ≤ 8 := by have := Int.emod_lt_of_pos k (show (0 : Int) < 8 by decide); omega
    rw [show min (k % 8).toNat IntKind.u8.bits = (k % 8).toNat from Nat.min_eq_left this]
    rfl)
theorem and_pow (X m : Nat) : X &&& 2 ^ m = if X.testBit m = true then 2 ^ m else 0 := by
  apply Nat.eq_of_testBit_eq
  intro n
  rw [Nat.testBit_and, Nat.testBit_two_pow]
  by_cases e : m = n
  · subst e
    cases h : X.testBit m <;> simp
  · cases h : X.testBit m <;> simp [e, Nat.testBit_two_pow]
theorem nle30 {i : Nat} (h : i < 30) : 0 + i * 1 + 1 ≤ 30 := by omega
theorem bit_ne {X : Nat} (hX : X < 256) {m : Nat} (hm : m < 8) : (and8 (X : Nat) ((2 ^ m : Nat) : Int) != 0) = X.testBit m := by
  rw [and8N hX (pow_lt hm), and_pow]
  have : 0 < 2 ^ m := Nat.pow_pos (by decide)
  cases X.testBit m with
  | true =>
    rw [if_pos rfl, bne_iff_ne]
    omega
  | false => rfl
theorem hasp_w (c : List Int) (k : Int) (hc : CatsOK c) : CallK Tryd.prog 20 [catsV c, .int .i64 k] (.bool (hasC c k)) := CallK.via progOK (pfs [54, 55]) [] 100 (Adv.purs (5 : Nat) (rightI k) (Adv.chk (9 : Nat) none (Adv.chk (10 : Nat) (some (Value.int IntKind.u8 (List.getD c (Int.toNat (IntKind.wrap IntKind.i64 (Int.tdiv k (8 : Int)))) (0 : Int)))) (Adv.pur (12 : Nat) (Value.int IntKind.u8 (catBit k)) (Adv.split (14 : Nat) Adv.nil Adv.nil)))) Adv.nil) (by kernel_rfl) (by kernel_rfl) (p := CallK Tryd.prog (nat_lit 54) [Value.int IntKind.i64 k] (Value.bool (rightI k)) ∧ (rightI k = true → ((0 : Int) ≤ IntKind.wrap IntKind.i64 (Int.tdiv k (8 : Int)) ∧ IntKind.wrap IntKind.i64 (Int.tdiv k (8 : Int)) < (30 : Int)) ∧ Ask.holds Tryd.prog (Ask.part (catsL c) (nat_lit 0 + Int.toNat (IntKind.wrap IntKind.i64 (Int.tdiv k (8 : Int))) * nat_lit 1) (nat_lit 1) [Value.int IntKind.u8 (List.getD c (Int.toNat (IntKind.wrap IntKind.i64 (Int.tdiv k (8 : Int)))) (0 : Int))]) ∧ CallK Tryd.prog (nat_lit 55) [Value.int IntKind.i64 k] (Value.int IntKind.u8 (catBit k)) ∧ ((IntKind.wrap IntKind.u8 (↑(BitVec.toNat (BitVec.ofInt (IntKind.bits IntKind.u8) (List.getD c (Int.toNat (IntKind.wrap IntKind.i64 (Int.tdiv k (8 : Int)))) (0 : Int)) &&& BitVec.ofInt (IntKind.bits IntKind.u8) (catBit k))) : Int) != (0 : Int)) = true → Value.bool true = Value.bool (hasC c k)) ∧ ((IntKind.wrap IntKind.u8 (↑(BitVec.toNat (BitVec.ofInt (IntKind.bits IntKind.u8) (List.getD c (Int.toNat (IntKind.wrap IntKind.i64 (Int.tdiv k (8 : Int)))) (0 : Int)) &&& BitVec.ofInt (IntKind.bits IntKind.u8) (catBit k))) : Int) != (0 : Int)) = false → Value.bool false = Value.bool (hasC c k))) ∧ (rightI k = false → Value.bool false = Value.bool (hasC c k))) (by kernel_rfl) (by
    refine ⟨right54_w k, fun h => ?_, fun h => ?_⟩
    · obtain ⟨e1, e2, e3, e4⟩ := q8 h
      obtain ⟨h0, h1⟩ := rightI_iff.1 h
      rw [e1]
      obtain ⟨X, eX, hX, hb⟩ := hasC_bit hc h0 (by omega)
      have key : (IntKind.u8.wrap (BitVec.ofInt IntKind.u8.bits (c.getD (k / 8).toNat 0) &&& BitVec.ofInt IntKind.u8.bits (catBit k)).toNat != 0) = hasC c k := by
        rw [hb, eX, catBitN h0]
        exact bit_ne hX (by omega)
      refine ⟨⟨e2, e3⟩, catsL_part c _ e4, bit55_w k h0, fun h2 => ?_, fun h2 => ?_⟩
      · rw [← key]; exact congrArg Value.bool h2.symm
      · rw [← key]; exact congrArg Value.bool h2.symm
    · refine congrArg Value.bool ?_
      unfold hasC
      have : ¬ (0 ≤ k ∧ k ≤ 239) := fun e => by rw [rightI_iff.2 e] at h; cases h
      by_cases h0 : 0 ≤ k
      · rw [decide_eq_false (p := k < 240) (by omega), Bool.and_false, Bool.false_and]
      · rw [decide_eq_false h0, Bool.false_and, Bool.false_and])
theorem list_w (c : List Int) (hc : CatsOK c) : CallK Tryd.prog 23 [catsV c] (izV (listC c)) := CallK.coe progOK (pfs []) [3] 100 (Adv.weak (8 : Nat) [(nat_lit 3, Value.iface (nat_lit 1000003) (Value.tuple (Array.mk [Value.int IntKind.i64 (9 : Int), Value.int IntKind.i64 (1 : Int), Value.int IntKind.i64 (0 : Int), Value.agg (Array.mk [])])))] (Heap.mk (nat_lit 10) (Trie.node none (Trie.node none Trie.leaf (Trie.node none (Trie.node (some (Blk.own (nat_lit 0) (nat_lit 3))) Trie.leaf Trie.leaf) Trie.leaf)) (Trie.node none (Trie.node none (Trie.node (some (Blk.cells (catsL c) (nat_lit 23) Mode.fix)) Trie.leaf Trie.leaf) Trie.leaf) Trie.leaf))) (Adv.loop (9 : Nat) (fun (k : Nat) => [((5 : Nat), Value.int IntKind.i64 (↑k : Int)), ((3 : Nat), osl (9 : Nat) (1 : Nat) (↑(List.length (listN c k)) : Int) (List.toArray (izL (listN c k))))]) ((fun (h : Heap) (k : Nat) => Heap.set h (9 : Nat) (Blk.own (List.length (listN c k)) (3 : TypeId))) (Heap.mk (nat_lit 10) (Trie.node none (Trie.node none Trie.leaf (Trie.node none (Trie.node (some (Blk.own (nat_lit 0) (nat_lit 3))) Trie.leaf Trie.leaf) Trie.leaf)) (Trie.node none (Trie.node none (Trie.node (some (Blk.cells (catsL c) (nat_lit 23) Mode.fix)) Trie.leaf Trie.leaf) Trie.leaf) Trie.leaf)))) (fun (i k : Nat) => i + k = (240 : Nat)) (240 : Nat) (0 : Nat) fun (i9 s9 : Nat) (j9 : Nat → Value) => Adv.split (11 : Nat) (Adv.purs (21 : Nat) (hasC c (↑s9 : Int)) (Adv.chk (26 : Nat) none Adv.nil) Adv.nil) Adv.nil)) (by kernel_rfl) (by kernel_rfl) (p := Weak Tryd.prog [Value.agg (Array.mk (catsL c)), Value.pointer (some (Addr.mk (nat_lit 8) (nat_lit 0) none)), Value.slice none (nat_lit 0) (nat_lit 0), Value.slice none (nat_lit 0) (nat_lit 0), Value.tuple (Array.mk []), Value.int IntKind.i64 (0 : Int), Value.tuple (Array.mk []), Value.tuple (Array.mk []), Value.tuple (Array.mk []), Value.tuple (Array.mk []), Value.tuple (Array.mk []), Value.tuple (Array.mk []), Value.tuple (Array.mk []), Value.tuple (Array.mk []), Value.tuple (Array.mk []), Value.tuple (Array.mk []), Value.tuple (Array.mk [])] (Heap.mk (nat_lit 9) (Trie.node none Trie.leaf (Trie.node none (Trie.node none (Trie.node (some (Blk.cells (catsL c) (nat_lit 23) Mode.fix)) Trie.leaf Trie.leaf) Trie.leaf) Trie.leaf))) [Value.agg (Array.mk (catsL c)), Value.pointer (some (Addr.mk (nat_lit 8) (nat_lit 0) none)), Value.slice none (nat_lit 0) (nat_lit 0), Value.iface (nat_lit 1000003) (Value.tuple (Array.mk [Value.int IntKind.i64 (9 : Int), Value.int IntKind.i64 (1 : Int), Value.int IntKind.i64 (0 : Int), Value.agg (Array.mk [])])), Value.tuple (Array.mk []), Value.int IntKind.i64 (0 : Int), Value.tuple (Array.mk []), Value.tuple (Array.mk []), Value.tuple (Array.mk []), Value.tuple (Array.mk []), Value.tuple (Array.mk []), Value.tuple (Array.mk []), Value.tuple (Array.mk []), Value.tuple (Array.mk []), Value.tuple (Array.mk []), Value.tuple (Array.mk []), Value.tuple (Array.mk [])] (Heap.mk (nat_lit 10) (Trie.node none (Trie.node none Trie.leaf (Trie.node none (Trie.node (some (Blk.own (nat_lit 0) (nat_lit 3))) Trie.leaf Trie.leaf) Trie.leaf)) (Trie.node none (Trie.node none (Trie.node (some (Blk.cells (catsL c) (nat_lit 23) Mode.fix)) Trie.leaf Trie.leaf) Trie.leaf) Trie.leaf))) ∧ ((240 : Nat) + (0 : Nat) = (240 : Nat) ∧ (Value.int IntKind.i64 (0 : Int) = Value.int IntKind.i64 (0 : Int) ∧ Value.iface (nat_lit 1000003) (Value.tuple (Array.mk [Value.int IntKind.i64 (9 : Int), Value.int IntKind.i64 (1 : Int), Value.int IntKind.i64 (0 : Int), Value.agg (Array.mk [])])) = Value.iface (nat_lit 1000003) (Value.tuple (Array.mk [Value.int IntKind.i64 (9 : Int), Value.int IntKind.i64 (1 : Int), Value.int IntKind.i64 (0 : Int), Value.agg (Array.mk [])]))) ∧ Heap.mk (nat_lit 10) (Trie.node none (Trie.node none Trie.leaf (Trie.node none (Trie.node (some (Blk.own (nat_lit 0) (nat_lit 3))) Trie.leaf Trie.leaf) Trie.leaf)) (Trie.node none (Trie.node none (Trie.node (some (Blk.cells (catsL c) (nat_lit 23) Mode.fix)) Trie.leaf Trie.leaf) Trie.leaf) Trie.leaf)) = Heap.mk (nat_lit 10) (Trie.node none (Trie.node none Trie.leaf (Trie.node none (Trie.node (some (Blk.own (nat_lit 0) (nat_lit 3))) Trie.leaf Trie.leaf) Trie.leaf)) (Trie.node none (Trie.node none (Trie.node (some (Blk.cells (catsL c) (nat_lit 23) Mode.fix)) Trie.leaf Trie.leaf) Trie.leaf) Trie.leaf))) ∧ ∀ (i9 s9 : Nat) (j9 : Nat → Value), i9 + s9 = (240 : Nat) → (decide ((↑s9 : Int) < (240 : Int)) = true → CallK Tryd.prog (nat_lit 20) [Value.agg (Array.mk (catsL c)), Value.int IntKind.i64 (↑s9 : Int)] (Value.bool (hasC c (↑s9 : Int))) ∧ (hasC c (↑s9 : Int) = true → (List.length (Array.toList (Array.mk (izL (listN c s9)))) = List.length (listN c s9) ∧ ((↑(List.length (listN c s9)) : Int) + (↑(nat_lit 1) : Int)) * ((↑(TypeInfo.bytes (Tables.types (Program.toTables Tryd.prog))[(3 : Nat)]) : Int) + (1 : Int)) ≤ (1099511627776 : Int)) ∧ ∃ (i9' : Nat), ∃ (s9' : Nat), i9' < i9 ∧ i9' + s9' = (240 : Nat) ∧ (Value.int IntKind.i64 (IntKind.wrap IntKind.i64 ((↑s9 : Int) + (1 : Int))) = Value.int IntKind.i64 (↑s9' : Int) ∧ Value.iface (nat_lit 1000003) (Value.tuple (Array.mk [Value.int IntKind.i64 (9 : Int), Value.int IntKind.i64 (1 : Int), Value.int IntKind.i64 ((↑(List.length (listN c s9)) : Int) + (↑(nat_lit 1) : Int)), Value.agg (Array.mk (Array.toList (Array.mk (izL (listN c s9))) ++ List.take (nat_lit 1 * Int.toNat (1 : Int)) (List.drop (nat_lit 0) [Value.int IntKind.i64 (↑s9 : Int)])))])) = Value.iface (nat_lit 1000003) (Value.tuple (Array.mk [Value.int IntKind.i64 (9 : Int), Value.int IntKind.i64 (1 : Int), Value.int IntKind.i64 (↑(List.length (listN c s9')) : Int), Value.agg (Array.mk (izL (listN c s9')))]))) ∧ (some (Blk.own (List.length (listN c s9) + List.length (List.take (nat_lit 1 * Int.toNat (1 : Int)) (List.drop (nat_lit 0) [Value.int IntKind.i64 (↑s9 : Int)]))) (nat_lit 3)) = some (Blk.own (List.length (listN c s9')) (nat_lit 3)) ∧ some (Blk.cells (catsL c) (nat_lit 23) Mode.fix) = some (Blk.cells (catsL c) (nat_lit 23) Mode.fix) ∧ True) ∧ true = true ∧ true = true ∧ True) ∧ (hasC c (↑s9 : Int) = false → ∃ (i9' : Nat), ∃ (s9' : Nat), i9' < i9 ∧ i9' + s9' = (240 : Nat) ∧ (Value.int IntKind.i64 (IntKind.wrap IntKind.i64 ((↑s9 : Int) + (1 : Int))) = Value.int IntKind.i64 (↑s9' : Int) ∧ Value.iface (nat_lit 1000003) (Value.tuple (Array.mk [Value.int IntKind.i64 (9 : Int), Value.int IntKind.i64 (1 : Int), Value.int IntKind.i64 (↑(List.length (listN c s9)) : Int), Value.agg (Array.mk (izL (listN c s9)))])) = Value.iface (nat_lit 1000003) (Value.tuple (Array.mk [Value.int IntKind.i64 (9 : Int), Value.int IntKind.i64 (1 : Int), Value.int IntKind.i64 (↑(List.length (listN c s9')) : Int), Value.agg (Array.mk (izL (listN c s9')))]))) ∧ (some (Blk.own (List.length (listN c s9)) (nat_lit 3)) = some (Blk.own (List.length (listN c s9')) (nat_lit 3)) ∧ some (Blk.cells (catsL c) (nat_lit 23) Mode.fix) = some (Blk.cells (catsL c) (nat_lit 23) Mode.fix) ∧ True) ∧ true = true ∧ true = true ∧ True)) ∧ (decide ((↑s9 : Int) < (240 : Int)) = false → Ideal.Coe (Value.iface (nat_lit 1000003) (Value.tuple (Array.mk [Value.int IntKind.i64 (9 : Int), Value.int IntKind.i64 (1 : Int), Value.int IntKind.i64 (↑(List.length (listN c s9)) : Int), Value.agg (Array.mk (izL (listN c s9)))]))) (izV (listC c)))) (by kernel_rfl) (by
    refine ⟨Weak.own' 3 1 3 (by rfl) (by rfl) (by rfl), ⟨by omega, ⟨rfl, rfl⟩, rfl⟩, fun i k j q1 => ⟨fun h1 => ?_, fun h1 => ?_⟩⟩
    · have hk : k < 240 := by have := of_decide_eq_true h1; omega
      refine ⟨hasp_w _ _ hc, fun h2 => ⟨⟨izL_length _, ?_⟩, i - 1, k + 1, by omega, by omega, ⟨wrap_next k (by omega), (isl_yes h2).1⟩, ⟨(isl_yes (tok := 9) h2).2, rfl, trivial⟩, rfl, rfl, trivial⟩, fun h2 => ⟨i - 1, k + 1, by omega, by omega, ⟨wrap_next k (by omega), by rw [isl_no h2]⟩, ⟨by rw [isl_no h2], rfl, trivial⟩, rfl, rfl, trivial⟩⟩
      exact mul_room 1001 1000 (show ((listN c k).length : Int) + 1 ≤ 1001 by have := listN_length c k; omega) (by have := i64_bytes; omega) (by have := i64_bytes; omega) (by decide) (by decide)
    · have hk : k = 240 := by have := of_decide_eq_false h1; omega
      subst hk
      exact Coe.os 9 1 _ _)
end Go.Proofs.YtidlganponfccaaDoor

end
section
/- What the functions of sets answer: how many, the greatest, of some; two of them in all, in common; the document's. -/
set_option linter.unusedVariables false
set_option linter.unusedSimpArgs false
set_option maxRecDepth 100000
namespace Go.Proofs.YtidlganponfccaaDoor
open Go Go.Ideal
set_option maxRecDepth 100000
theorem part_all (d : List Int) : (Ask.part (catsL d) 0 30 (catsL d)).holds Tryd.prog := ⟨Nat.le_refl 30, rfl⟩
theorem add1_no {c : List Int} {k : Int} (h : rightI k = false) : add1 c k = c := by unfold add1; rw [h]
theorem add1_has {c : List Int} {k : Int} (hc : CatsOK c) (h : hasC c k = true) : add1 c k = c := cats_ext (add1_ok hc k) hc fun j j0 j1 => by
  rw [has_add1 hc k j0 j1]
  by_cases e : j = k
  · subst e; rw [h]; rfl
  · rw [show (j == k) = false from beq_eq_false_iff_ne.2 e, Bool.or_false]
theorem put_add : ∀ (X : Fin 256) (m : Fin 8), X.val.testBit m.val = false → IntKind.wrap .u8 ((X.val : Int) + IntKind.wrap .u8 (1 * 2 ^ m.val)) = orC X.val ((2 ^ m.val : Nat) : Int) := by decide +kernel
def zeroC : List Int := List.replicate 30 0
theorem put1_w (c : List Int) (k : Int) (hc : CatsOK c) : CallK Tryd.prog 15 [catsV c, .int .i64 k, .bool true] (catsV (add1 c k)) := CallK.via progOK (pfs [21]) [] 100 (Adv.split (6 : Nat) Adv.nil (Adv.split (9 : Nat) Adv.nil (Adv.purs (14 : Nat) (hasC c k) Adv.nil (Adv.chk (27 : Nat) none (Adv.chk (28 : Nat) (some (Value.int IntKind.u8 (List.getD c (Int.toNat (IntKind.wrap IntKind.i64 (Int.tdiv k (8 : Int)))) (0 : Int)))) (Adv.chk (32 : Nat) none (Adv.chk (34 : Nat) none (Adv.chk (35 : Nat) none (Adv.chk (37 : Nat) (some (Value.agg (Array.mk (catsL (setC c (Int.toNat (IntKind.wrap IntKind.i64 (Int.tdiv k (8 : Int)))) (IntKind.wrap IntKind.u8 (List.getD c (Int.toNat (IntKind.wrap IntKind.i64 (Int.tdiv k (8 : Int)))) (0 : Int) + IntKind.wrap IntKind.u8 ((1 : Int) * (2 : Int) ^ min (Int.toNat (IntKind.wrap IntKind.i64 ((7 : Int) - Int.tmod k (8 : Int)))) (IntKind.bits IntKind.u8))))))))) Adv.nil))))))))) (by kernel_rfl) (by kernel_rfl) (p := (decide (k < (0 : Int)) = true → Value.agg (Array.mk (catsL c)) = catsV (add1 c k)) ∧ (decide (k < (0 : Int)) = false → (decide (k > (239 : Int)) = true → Value.agg (Array.mk (catsL c)) = catsV (add1 c k)) ∧ (decide (k > (239 : Int)) = false → CallK Tryd.prog (nat_lit 21) [Value.agg (Array.mk (catsL c)), Value.int IntKind.i64 k] (Value.bool (hasC c k)) ∧ (hasC c k = true → Value.agg (Array.mk (catsL c)) = catsV (add1 c k)) ∧ (hasC c k = false → ((0 : Int) ≤ IntKind.wrap IntKind.i64 (Int.tdiv k (8 : Int)) ∧ IntKind.wrap IntKind.i64 (Int.tdiv k (8 : Int)) < (30 : Int)) ∧ Ask.holds Tryd.prog (Ask.part (catsL c) (nat_lit 0 + Int.toNat (IntKind.wrap IntKind.i64 (Int.tdiv k (8 : Int))) * nat_lit 1) (nat_lit 1) [Value.int IntKind.u8 (List.getD c (Int.toNat (IntKind.wrap IntKind.i64 (Int.tdiv k (8 : Int)))) (0 : Int))]) ∧ (0 : Int) ≤ IntKind.wrap IntKind.i64 ((7 : Int) - Int.tmod k (8 : Int)) ∧ ((0 : Int) ≤ IntKind.wrap IntKind.i64 (Int.tdiv k (8 : Int)) ∧ IntKind.wrap IntKind.i64 (Int.tdiv k (8 : Int)) < (30 : Int)) ∧ nat_lit 0 + Int.toNat (IntKind.wrap IntKind.i64 (Int.tdiv k (8 : Int))) * nat_lit 1 + nat_lit 1 ≤ nat_lit 30 ∧ Ask.holds Tryd.prog (Ask.part (splice (catsL c) (nat_lit 0 + Int.toNat (IntKind.wrap IntKind.i64 (Int.tdiv k (8 : Int))) * nat_lit 1) (Value.cellList (Value.int IntKind.u8 (IntKind.wrap IntKind.u8 (List.getD c (Int.toNat (IntKind.wrap IntKind.i64 (Int.tdiv k (8 : Int)))) (0 : Int) + IntKind.wrap IntKind.u8 ((1 : Int) * (2 : Int) ^ min (Int.toNat (IntKind.wrap IntKind.i64 ((7 : Int) - Int.tmod k (8 : Int)))) (IntKind.bits IntKind.u8))))))) (nat_lit 0) (nat_lit 30) (catsL (setC c (Int.toNat (IntKind.wrap IntKind.i64 (Int.tdiv k (8 : Int)))) (IntKind.wrap IntKind.u8 (List.getD c (Int.toNat (IntKind.wrap IntKind.i64 (Int.tdiv k (8 : Int)))) (0 : Int) + IntKind.wrap IntKind.u8 ((1 : Int) * (2 : Int) ^ min (Int.toNat (IntKind.wrap IntKind.i64 ((7 : Int) - Int.tmod k (8 : Int)))) (IntKind.bits IntKind.u8))))))) ∧ Value.agg (Array.mk (catsL (setC c (Int.toNat (IntKind.wrap IntKind.i64 (Int.tdiv k (8 : Int)))) (IntKind.wrap IntKind.u8 (List.getD c (Int.toNat (IntKind.wrap IntKind.i64 (Int.tdiv k (8 : Int)))) (0 : Int) + IntKind.wrap IntKind.u8 ((1 : Int) * (2 : Int) ^ min (Int.toNat (IntKind.wrap IntKind.i64 ((7 : Int) - Int.tmod k (8 : Int)))) (IntKind.bits IntKind.u8))))))) = catsV (add1 c k))))) (by kernel_rfl) (by
    refine ⟨fun h1 => ?_, fun h1 => ⟨fun h2 => ?_, fun h2 => ⟨has_w c k, fun h3 => by rw [add1_has hc h3]; rfl, fun h3 => ?_⟩⟩⟩
    · have := of_decide_eq_true h1
      rw [add1_no (Bool.eq_false_iff.2 fun e => by have := rightI_iff.1 e; omega)]
      rfl
    · have := of_decide_eq_true h2
      rw [add1_no (Bool.eq_false_iff.2 fun e => by have := rightI_iff.1 e; omega)]
      rfl
    · have h1 := of_decide_eq_false h1
      have h2 := of_decide_eq_false h2
      have hr : rightI k = true := rightI_iff.2 ⟨by omega, by omega⟩
      obtain ⟨e1, e2, e3, e4⟩ := q8 hr
      obtain ⟨X, eX, hX, hb⟩ := hasC_bit hc (k := k) (by omega) (by omega)
      have e5 : IntKind.i64.wrap (7 - k.tmod 8) = 7 - k % 8 := by rw [Int.tmod_eq_emod_of_nonneg (by omega), wrap_in (by omega) (by omega)]
      have e6 : min (7 - k % 8).toNat IntKind.u8.bits = (7 - k % 8).toNat := Nat.min_eq_left (by show _ ≤ 8; omega)
      have key := put_add ⟨X, hX⟩ ⟨(7 - k % 8).toNat, by omega⟩ (by rw [← hb]; exact h3)
      simp only at key
      rw [e1, e5, e6, eX, key]
      refine ⟨⟨e2, e3⟩, by rw [← eX]; exact catsL_part c _ e4, by omega, ⟨e2, e3⟩, nle30 e4, ?_, ?_⟩
      · rw [splice_set _ e4]
        exact part_all _
      · unfold add1
        rw [hr, eX, catBitN (by omega)]
        rfl)
end Go.Proofs.YtidlganponfccaaDoor

end
section
/- The plain law of two sets: what they have in all, and in common; taken away, put back. -/
set_option linter.unusedVariables false
set_option linter.unusedVariables false
set_option linter.unusedSimpArgs false
namespace Go.Proofs.YtidlganponfccaaDoor
open Go Go.Ideal

theorem zero_ok : CatsOK zeroC := ⟨by simp [zeroC], fun x hx => by
  have := List.eq_of_mem_replicate hx
  omega⟩
theorem has_zero (k : Int) : hasC zeroC k = false := by
  unfold hasC
  have : zeroC.getD (k / 8).toNat 0 = 0 := by
    unfold zeroC
    simp only [List.getD, List.getElem?_replicate]
    split <;> rfl
  rw [this, Int.zero_fdiv]
  have : (and8 0 1 == 1) = false := by decide
  rw [this, Bool.and_false]
end Go.Proofs.YtidlganponfccaaDoor

end
section
/- Labels as bytes: what tags are made of. -/
set_option linter.unusedVariables false
set_option linter.unusedSimpArgs false
namespace Go.Proofs.YtidlganponfccaaDoor
open Go Go.Ideal
/-- A number's low byte. -/
def b8 (n : Int) : UInt8 := UInt8.ofNat (IntKind.u8.wrap n).toNat
def shortB (n : Int) : Bs := [b8 (n.tdiv 256), b8 (n.tmod 256)]
theorem shortB_len (n : Int) : (shortB n).length = 2 := rfl
/-- The bytes of a set. -/
def bytesC (c : List Int) : Bs := (List.range 30).map fun i => UInt8.ofNat (c.getD i 0).toNat
def trimZ (l : Bs) : Bs := (l.reverse.dropWhile (· == 0)).reverse
def bmpS (c : List Int) : Bs := trimZ (bytesC c)
def shortsS (l : List Int) : Bs := l.flatMap shortB
/-- The runs of numbers, the least first. -/
def runStep (R : List (Int × Int)) (k : Int) : List (Int × Int) := match R.getLast? with
  | some p => if p.2 = k - 1 then R.dropLast ++ [(p.1, k)] else R ++ [(k, k)]
  | none => [(k, k)]
def runsL (l : List Int) : List (Int × Int) := l.foldl runStep []
def rngsC (c : List Int) : List (Int × Int) := (runsL (listC c)).reverse
def rngS (l : List (Int × Int)) : Bs := l.flatMap fun p => shortB p.2 ++ shortB p.1
def bodyS (k : Int) (c : List Int) : Bs := if k = 1 then bmpS c else if k = 2 then shortsS (listC c) else rngS (rngsC c)
def bodyOk (k : Int) (c : List Int) : Bool := if k = 1 then true else if k = 2 then decide ((listC c).length ≤ 15) else decide ((rngsC c).length ≤ 7)
def typeOk (k : Int) : Bool := k == 1 || k == 2 || k == 5
end Go.Proofs.YtidlganponfccaaDoor

end
section
/- Runs of numbers: told from above, one by one; what they hold. -/
set_option linter.unusedVariables false
set_option linter.unusedSimpArgs false
namespace Go.Proofs.YtidlganponfccaaDoor
open Go Go.Ideal
def runsN (c : List Int) (n : Nat) : List (Int × Int) := runsL (listN c n)
theorem runsN_succ (c : List Int) (n : Nat) : runsN c (n + 1) = if hasC c n = true then runStep (runsN c n) n else runsN c n := by
  unfold runsN runsL
  rw [listN_succ]
  by_cases h : hasC c n = true
  · simp [h]
  · simp [h]
theorem runsN_zero (c : List Int) : runsN c 0 = [] := rfl
/-- What stands last: it ends just below, or it does not. -/
theorem runs_last (c : List Int) (n : Nat) : (hasC c n = true → ∃ Q lo, runsN c (n + 1) = Q ++ [(lo, (n : Int))]) ∧ (∀ (Q : List (Int × Int)) (p : Int × Int), runsN c n = Q ++ [p] → p.2 < (n : Int) ∧ (hasC c ((n : Int) - 1) = false → p.2 < (n : Int) - 1)) := by
  induction n with
  | zero =>
    refine ⟨fun h => ⟨[], 0, ?_⟩, fun Q p h => ?_⟩
    · rw [runsN_succ, if_pos h]
      rfl
    · rw [runsN_zero] at h
      simp at h
  | succ n ih =>
    have h2 : ∀ (Q : List (Int × Int)) (p : Int × Int), runsN c (n + 1) = Q ++ [p] → p.2 < ((n + 1 : Nat) : Int) ∧ (hasC c (((n + 1 : Nat) : Int) - 1) = false → p.2 < ((n + 1 : Nat) : Int) - 1) := by
      intro Q p h
      have e : ((n + 1 : Nat) : Int) - 1 = n := by omega
      rw [e]
      by_cases hh : hasC c n = true
      · obtain ⟨Q', lo, h'⟩ := ih.1 hh
        rw [h'] at h
        have := List.append_inj_right' h rfl
        simp at this
        subst this
        exact ⟨by show (n : Int) < _; omega, fun x => by rw [hh] at x; cases x⟩
      · rw [runsN_succ, if_neg hh] at h
        have := (ih.2 Q p h).1
        exact ⟨by omega, fun _ => this⟩
    refine ⟨fun h => ?_, h2⟩
    rw [runsN_succ, if_pos h]
    unfold runStep
    generalize hl : runsN c (n + 1) = L
    cases hg : L.getLast? with
    | none => exact ⟨[], _, rfl⟩
    | some p =>
      simp only
      split
      · exact ⟨L.dropLast, p.1, rfl⟩
      · exact ⟨L, _, rfl⟩
theorem runs_hit {c : List Int} {n : Nat} (h : hasC c ((n + 1 : Nat) : Int) = true) (h' : hasC c n = true) : ∃ Q lo, runsN c (n + 1) = Q ++ [(lo, (n : Int))] ∧ runsN c (n + 2) = Q ++ [(lo, ((n + 1 : Nat) : Int))] := by
  obtain ⟨Q, lo, e⟩ := (runs_last c n).1 h'
  refine ⟨Q, lo, e, ?_⟩
  rw [runsN_succ, if_pos h, e]
  unfold runStep
  simp
theorem runs_new {c : List Int} {n : Nat} (h : hasC c (n : Int) = true) (h' : hasC c ((n : Int) - 1) = false) : runsN c (n + 1) = runsN c n ++ [((n : Int), (n : Int))] := by
  rw [runsN_succ, if_pos h]
  unfold runStep
  cases hg : (runsN c n).getLast? with
  | none =>
    rw [List.getLast?_eq_none_iff] at hg
    rw [hg]
    rfl
  | some p =>
    obtain ⟨Q, e⟩ := List.getLast?_eq_some_iff.1 hg
    have := ((runs_last c n).2 Q p e).2 h'
    simp only
    rw [if_neg (by omega)]
/-! ### told from above -/
def scanB (c : List Int) (k : Int) : Bs := (if hasC c k && !hasC c (k + 1) then shortB k else []) ++ (if hasC c k && !hasC c (k - 1) then shortB k else [])
def scanI (c : List Int) (k : Int) : Nat := if hasC c k && !hasC c (k + 1) then 1 else 0
/-- The numbers below n, from above. -/
def downS (c : List Int) : Nat → Bs
  | 0 => []
  | n + 1 => scanB c n ++ downS c n
def downN (c : List Int) : Nat → Nat
  | 0 => 0
  | n + 1 => scanI c n + downN c n
theorem hasC_neg (c : List Int) {k : Int} (h : k < 0) : hasC c k = false := by
  unfold hasC
  rw [decide_eq_false (by omega)]
  simp
theorem hasC_far (c : List Int) {k : Int} (h : 240 ≤ k) : hasC c k = false := by
  unfold hasC
  rw [decide_eq_false (p := k < 240) (by omega)]
  simp
theorem rngS_cons (p : Int × Int) (l : List (Int × Int)) : rngS (p :: l) = shortB p.2 ++ (shortB p.1 ++ rngS l) := by
  simp [rngS]
theorem down_runs (c : List Int) : ∀ n : Nat, rngS (runsN c n).reverse = (if hasC c ((n : Int) - 1) && hasC c n then shortB ((n : Int) - 1) else []) ++ downS c n ∧ (runsN c n).length = (if hasC c ((n : Int) - 1) && hasC c n then 1 else 0) + downN c n
  | 0 => by
    rw [runsN_zero, hasC_neg c (k := ((0 : Nat) : Int) - 1) (by omega)]
    exact ⟨rfl, rfl⟩
  | n + 1 => by
    have ih := down_runs c n
    have e : ((n + 1 : Nat) : Int) - 1 = n := by omega
    have e' : ((n + 1 : Nat) : Int) = (n : Int) + 1 := by omega
    rw [e]
    unfold downS downN scanB scanI
    rw [e']
    by_cases h : hasC c n = true
    · by_cases h' : hasC c ((n : Int) - 1) = true
      · obtain ⟨m, rfl⟩ : ∃ m, n = m + 1 := by
          cases n with
          | zero => rw [hasC_neg c (by omega)] at h'; cases h'
          | succ m => exact ⟨m, rfl⟩
        have hm : hasC c (m : Int) = true := by
          have : ((m + 1 : Nat) : Int) - 1 = m := by omega
          rw [this] at h'
          exact h'
        obtain ⟨Q, lo, q1, q2⟩ := runs_hit h hm
        rw [q2]
        rw [q1, h, h'] at ih
        have em : ((m + 1 : Nat) : Int) - 1 = m := by omega
        rw [em] at ih h' ⊢
        simp only [List.reverse_append, List.reverse_cons, List.reverse_nil, List.nil_append, List.singleton_append, rngS_cons, Bool.and_self, if_true, List.length_append, List.length_cons, List.length_nil] at ih ⊢
        have t1 := List.append_cancel_left ih.1
        rw [← t1, h, h']
        cases hasC c (((m + 1 : Nat) : Int) + 1) <;> simp <;> omega
      · have h' : hasC c ((n : Int) - 1) = false := by simpa using h'
        rw [runs_new h h']
        rw [h', h] at ih
        simp only [Bool.false_and, Bool.false_eq_true, if_false, List.nil_append, Nat.zero_add] at ih
        simp only [List.reverse_append, List.reverse_cons, List.reverse_nil, List.nil_append, List.singleton_append, rngS_cons, List.length_append, List.length_cons, List.length_nil]
        rw [ih.1, ih.2, h, h']
        cases hasC c ((n : Int) + 1) <;> simp <;> omega
    · have h : hasC c n = false := by simpa using h
      rw [runsN_succ, if_neg (by rw [h]; simp), ih.1, ih.2, h]
      simp
theorem down_all (c : List Int) : rngS (rngsC c) = downS c 240 ∧ (rngsC c).length = downN c 240 := by
  have h := down_runs c 240
  rw [hasC_far c (k := ((240 : Nat) : Int)) (by omega)] at h
  simp only [Bool.and_false, Bool.false_eq_true, if_false, List.nil_append, Nat.zero_add] at h
  unfold rngsC
  exact ⟨h.1, by rw [List.length_reverse]; exact h.2⟩
/-! ### what runs hold -/
structure RunsOK (c : List Int) (n : Nat) : Prop where
  each : ∀ p ∈ runsN c n, 0 ≤ p.1 ∧ p.1 ≤ p.2 ∧ p.2 < n
  apart : (runsN c n).Pairwise fun p q => p.2 + 2 ≤ q.1
  holds : ∀ k : Int, 0 ≤ k → k < n → (hasC c k = true ↔ ∃ p ∈ runsN c n, p.1 ≤ k ∧ k ≤ p.2)
theorem runs_ok (c : List Int) : ∀ n : Nat, RunsOK c n
  | 0 => ⟨by simp [runsN_zero], by simp [runsN_zero], fun k h0 h1 => by omega⟩
  | n + 1 => by
    have ih := runs_ok c n
    by_cases h : hasC c n = true
    · by_cases h' : hasC c ((n : Int) - 1) = true
      · obtain ⟨m, rfl⟩ : ∃ m, n = m + 1 := by
          cases n with
          | zero => rw [hasC_neg c (by omega)] at h'; cases h'
          | succ m => exact ⟨m, rfl⟩
        have hm : hasC c (m : Int) = true := by
          have : ((m + 1 : Nat) : Int) - 1 = m := by omega
          rw [this] at h'
          exact h'
        obtain ⟨Q, lo, q1, q2⟩ := runs_hit h hm
        obtain ⟨a1, a2, a3⟩ := ih
        rw [q1] at a1 a2 a3
        rw [List.pairwise_append] at a2
        have hlo := a1 (lo, (m : Int)) (by simp)
        refine ⟨?_, ?_, ?_⟩
        · rw [q2]
          intro p hp
          rcases List.mem_append.1 hp with hp | hp
          · have := a1 p (List.mem_append_left _ hp)
            exact ⟨this.1, this.2.1, by omega⟩
          · simp at hp
            subst hp
            exact ⟨hlo.1, by have := hlo.2.1; simp at this; show lo ≤ ((m + 1 : Nat) : Int); omega, by show ((m + 1 : Nat) : Int) < _; omega⟩
        · rw [q2, List.pairwise_append]
          refine ⟨a2.1, by simp, fun p hp q hq => ?_⟩
          simp at hq
          subst hq
          exact a2.2.2 p hp (lo, (m : Int)) (by simp)
        · intro k h0 h1
          rw [q2]
          by_cases hk : k = ((m + 1 : Nat) : Int)
          · subst hk
            refine ⟨fun _ => ⟨_, List.mem_append_right _ (List.mem_singleton.2 rfl), ?_, Int.le_refl _⟩, fun _ => h⟩
            have := hlo.2.1
            simp at this
            show lo ≤ ((m + 1 : Nat) : Int)
            omega
          · rw [a3 k h0 (by omega)]
            constructor
            · rintro ⟨p, hp, x⟩
              rcases List.mem_append.1 hp with hp | hp
              · exact ⟨p, List.mem_append_left _ hp, x⟩
              · simp at hp
                subst hp
                refine ⟨_, List.mem_append_right _ (List.mem_singleton.2 rfl), x.1, ?_⟩
                have := x.2
                simp at this
                show k ≤ ((m + 1 : Nat) : Int)
                omega
            · rintro ⟨p, hp, x⟩
              rcases List.mem_append.1 hp with hp | hp
              · exact ⟨p, List.mem_append_left _ hp, x⟩
              · simp at hp
                subst hp
                refine ⟨_, List.mem_append_right _ (List.mem_singleton.2 rfl), x.1, ?_⟩
                have := x.2
                simp at this
                show k ≤ (m : Int)
                omega
      · have h' : hasC c ((n : Int) - 1) = false := by simpa using h'
        have e := runs_new h h'
        refine ⟨?_, ?_, ?_⟩
        · rw [e]
          intro p hp
          rcases List.mem_append.1 hp with hp | hp
          · have := ih.each p hp
            exact ⟨this.1, this.2.1, by omega⟩
          · simp at hp
            subst hp
            exact ⟨by show (0 : Int) ≤ n; omega, Int.le_refl _, by show (n : Int) < _; omega⟩
        · rw [e, List.pairwise_append]
          refine ⟨ih.apart, by simp, fun p hp q hq => ?_⟩
          simp at hq
          subst hq
          show p.2 + 2 ≤ (n : Int)
          have b := ih.each p hp
          by_cases hq : p.2 = (n : Int) - 1
          · have := (ih.holds ((n : Int) - 1) (by omega) (by omega)).2 ⟨p, hp, by omega, by omega⟩
            rw [h'] at this
            cases this
          · omega
        · intro k h0 h1
          rw [e]
          by_cases hk : k = (n : Int)
          · subst hk
            exact ⟨fun _ => ⟨_, List.mem_append_right _ (List.mem_singleton.2 rfl), Int.le_refl _, Int.le_refl _⟩, fun _ => h⟩
          · rw [ih.holds k h0 (by omega)]
            constructor
            · rintro ⟨p, hp, x⟩
              exact ⟨p, List.mem_append_left _ hp, x⟩
            · rintro ⟨p, hp, x⟩
              rcases List.mem_append.1 hp with hp | hp
              · exact ⟨p, hp, x⟩
              · simp at hp
                subst hp
                exact absurd (Int.le_antisymm x.2 x.1) hk
    · have hf : hasC c n = false := by simpa using h
      have e : runsN c (n + 1) = runsN c n := by rw [runsN_succ, if_neg h]
      refine ⟨?_, ?_, ?_⟩
      · rw [e]
        intro p hp
        have := ih.each p hp
        exact ⟨this.1, this.2.1, by omega⟩
      · rw [e]
        exact ih.apart
      · intro k h0 h1
        rw [e]
        by_cases hk : k = (n : Int)
        · subst hk
          refine ⟨fun x => (by rw [hf] at x; cases x), fun ⟨p, hp, x⟩ => ?_⟩
          have := ih.each p hp
          omega
        · exact ih.holds k h0 (by omega)
/-- The numbers of a run; of runs. -/
def spanL (p : Int × Int) : List Int := (List.range (p.2 + 1 - p.1).toNat).map fun (i : Nat) => p.1 + (i : Int)
def spansL (l : List (Int × Int)) : List Int := l.flatMap spanL
theorem mem_span {p : Int × Int} {k : Int} : k ∈ spanL p ↔ p.1 ≤ k ∧ k ≤ p.2 := by
  unfold spanL
  rw [List.mem_map]
  constructor
  · rintro ⟨i, hi, rfl⟩
    rw [List.mem_range] at hi
    omega
  · intro ⟨h0, h1⟩
    exact ⟨(k - p.1).toNat, List.mem_range.2 (by omega), by omega⟩
theorem spans_law {c : List Int} (hc : CatsOK c) : withC zeroC (spansL (rngsC c)) = c := by
  refine cats_ext (with_ok _ zero_ok) hc fun k h0 h1 => ?_
  rw [has_with _ zero_ok h0 h1, has_zero, Bool.false_or]
  have h := (runs_ok c 240).holds k h0 h1
  rw [Bool.eq_iff_iff, h, List.any_eq_true]
  unfold spansL rngsC
  constructor
  · rintro ⟨x, hx, e⟩
    obtain rfl : k = x := by simpa using e
    obtain ⟨p, hp, hk⟩ := List.mem_flatMap.1 hx
    exact ⟨p, List.mem_reverse.1 hp, mem_span.1 hk⟩
  · rintro ⟨p, hp, hk⟩
    exact ⟨k, List.mem_flatMap.2 ⟨p, List.mem_reverse.2 hp, mem_span.2 hk⟩, by simp⟩
end Go.Proofs.YtidlganponfccaaDoor

end
section
/- Tags: what is left of a bitmap; how long they are; the shortest one. -/
set_option linter.unusedVariables false
set_option linter.unusedSimpArgs false
namespace Go.Proofs.YtidlganponfccaaDoor
open Go Go.Ideal
theorem trimZ_zero (a : Bs) : trimZ (a ++ [0]) = trimZ a := by simp [trimZ]
theorem trimZ_some (a : Bs) {x : UInt8} (h : x ≠ 0) : trimZ (a ++ [x]) = a ++ [x] := by
  unfold trimZ
  rw [List.reverse_append, List.reverse_cons, List.reverse_nil, List.nil_append, List.singleton_append, List.dropWhile_cons, if_neg (by simpa using h)]
  simp
theorem take_last (l : Bs) {n : Nat} (h : n < l.length) : l.take (n + 1) = l.take n ++ [l.getD n 0] := by
  rw [List.take_add_one, List.getElem?_eq_getElem h]
  simp [List.getD, h]
theorem trimZ_take0 {l : Bs} {n : Nat} (h : n < l.length) (h0 : l.getD n 0 = 0) : trimZ (l.take (n + 1)) = trimZ (l.take n) := by rw [take_last l h, h0, trimZ_zero]
theorem trimZ_take1 {l : Bs} {n : Nat} (h : n < l.length) (h0 : l.getD n 0 ≠ 0) : trimZ (l.take (n + 1)) = l.take (n + 1) := by rw [take_last l h, trimZ_some _ h0]
theorem dropWhile_len {α : Type} (p : α → Bool) : ∀ l : List α, (l.dropWhile p).length ≤ l.length
  | [] => Nat.le_refl _
  | x :: l => by
    rw [List.dropWhile_cons]
    split
    · exact Nat.le_succ_of_le (dropWhile_len p l)
    · exact Nat.le_refl _
theorem trimZ_len (l : Bs) : (trimZ l).length ≤ l.length := by
  unfold trimZ
  rw [List.length_reverse]
  exact Nat.le_trans (dropWhile_len _ _) (Nat.le_of_eq (List.length_reverse))
theorem bytesC_len (c : List Int) : (bytesC c).length = 30 := by simp [bytesC]
theorem bytesC_get (c : List Int) {i : Nat} (h : i < 30) : (bytesC c).getD i 0 = UInt8.ofNat (c.getD i 0).toNat := by simp [bytesC, List.getD, h]
theorem bytesC_zero {c : List Int} (hc : CatsOK c) {i : Nat} (h : i < 30) : (bytesC c).getD i 0 = 0 ↔ c.getD i 0 = 0 := by
  rw [bytesC_get c h]
  obtain ⟨X, e, hX⟩ := hc.get i
  rw [e]
  constructor
  · intro q
    have := congrArg UInt8.toNat q
    simp at this
    omega
  · intro q
    obtain rfl : X = 0 := by omega
    rfl
theorem bmpS_len (c : List Int) : (bmpS c).length ≤ 30 := Nat.le_trans (trimZ_len _) (Nat.le_of_eq (bytesC_len c))
theorem shortsS_len (l : List Int) : (shortsS l).length = 2 * l.length := by
  unfold shortsS
  induction l with
  | nil => rfl
  | cons x l ih =>
    rw [List.flatMap_cons, List.length_append, ih, shortB_len, List.length_cons]
    omega
theorem rngS_len (l : List (Int × Int)) : (rngS l).length = 4 * l.length := by
  induction l with
  | nil => rfl
  | cons x l ih =>
    rw [rngS_cons, List.length_append, List.length_append, ih, shortB_len, shortB_len, List.length_cons]
    omega
theorem bodyS_len {k : Int} {c : List Int} (h : bodyOk k c = true) : (bodyS k c).length ≤ 30 := by
  unfold bodyS
  unfold bodyOk at h
  split
  · exact bmpS_len c
  · rename_i h1
    rw [if_neg h1] at h
    split
    · rename_i h2
      rw [if_pos h2] at h
      have := of_decide_eq_true h
      rw [shortsS_len]
      omega
    · rename_i h2
      rw [if_neg h2] at h
      have := of_decide_eq_true h
      rw [rngS_len]
      omega
/-- The numbers from above. -/
def topS (c : List Int) : Nat → Bs
  | 0 => []
  | m + 1 => topS c m ++ scanB c (239 - (m : Int))
def topN (c : List Int) : Nat → Nat
  | 0 => 0
  | m + 1 => topN c m + scanI c (239 - (m : Int))
theorem top_down (c : List Int) : ∀ m : Nat, m ≤ 240 → topS c m ++ downS c (240 - m) = downS c 240 ∧ topN c m + downN c (240 - m) = downN c 240
  | 0, _ => ⟨rfl, Nat.zero_add _⟩
  | m + 1, h => by
    have ih := top_down c m (by omega)
    have e : 240 - m = (240 - (m + 1)) + 1 := by omega
    rw [e] at ih
    have e2 : ((240 - (m + 1) : Nat) : Int) = 239 - (m : Int) := by omega
    unfold downS downN at ih
    rw [e2] at ih
    unfold topS topN
    exact ⟨by rw [List.append_assoc]; exact ih.1, by rw [Nat.add_assoc]; exact ih.2⟩
theorem top_all (c : List Int) : topS c 240 = rngS (rngsC c) ∧ topN c 240 = (rngsC c).length := by
  have h := top_down c 240 (Nat.le_refl _)
  have h2 := down_all c
  rw [h2.1, h2.2, ← h.1, ← h.2]
  simp [downS, downN]
theorem scanI_le (c : List Int) (k : Int) : scanI c k ≤ 1 := by unfold scanI; split <;> omega
theorem scanB_len (c : List Int) (k : Int) : (scanB c k).length ≤ 4 := by
  unfold scanB
  split <;> split <;> simp [shortB_len]
theorem topN_le (c : List Int) : ∀ m, topN c m ≤ m
  | 0 => Nat.le_refl _
  | m + 1 => by
    have := topN_le c m
    have := scanI_le c (239 - (m : Int))
    unfold topN
    omega
theorem topS_len (c : List Int) : ∀ m, (topS c m).length ≤ 4 * m
  | 0 => Nat.le_refl _
  | m + 1 => by
    have := topS_len c m
    have := scanB_len c (239 - (m : Int))
    unfold topS
    rw [List.length_append]
    omega
theorem bmp_at {c : List Int} (hc : CatsOK c) {n : Nat} (hn : n ≤ 30) (hz : ∀ i, n ≤ i → i < 30 → c.getD i 0 = 0) (hl : ∀ i, n = i + 1 → c.getD i 0 ≠ 0) : bmpS c = (bytesC c).take n := by
  have key : ∀ m, n + m ≤ 30 → trimZ ((bytesC c).take (n + m)) = trimZ ((bytesC c).take n) := by
    intro m
    induction m with
    | zero => intro _; rfl
    | succ m ih =>
      intro hm
      rw [← ih (by omega)]
      exact trimZ_take0 (n := n + m) (by rw [bytesC_len]; omega) ((bytesC_zero hc (i := n + m) (by omega)).2 (hz (n + m) (by omega) (by omega)))
  have h := key (30 - n) (by omega)
  rw [show n + (30 - n) = (bytesC c).length by rw [bytesC_len]; omega, List.take_length] at h
  unfold bmpS
  rw [h]
  cases n with
  | zero => rfl
  | succ i => exact trimZ_take1 (by rw [bytesC_len]; omega) (fun e => hl i rfl ((bytesC_zero hc (by omega)).1 e))
def tagE (k : Int) (x : Lbl) : Int := if (rightL x && typeOk k) = true then (if bodyOk k x.cats = true then 0 else 5) else 1
def tagS (k : Int) (x : Lbl) : Bs := if tagE k x = 0 then b8 k :: b8 (4 + ((bodyS k x.cats).length : Int)) :: 0 :: b8 x.level :: bodyS k x.cats else []
def wordB (n : Int) : Bs := [b8 (n.fdiv 16777216), b8 (n.fdiv 65536), b8 (n.fdiv 256), b8 n]
def dataS (k d : Int) (x : Lbl) : Bs := if tagE k x = 0 then wordB d ++ tagS k x else []
def optK (e : Int) : Int := if e = 0 then 134 else 0
/-- The shorter one, if it will do. -/
def lessS (e : Int) (a b : Bs) : Bs := if e = 0 ∧ a.length < b.length then a else b
def bestE (x : Lbl) : Int := if rightL x = true then 0 else 1
def bestS (d : Int) (x : Lbl) : Bs := if rightL x = true then lessS (tagE 5 x) (dataS 5 d x) (lessS (tagE 2 x) (dataS 2 d x) (dataS 1 d x)) else []
end Go.Proofs.YtidlganponfccaaDoor

end
