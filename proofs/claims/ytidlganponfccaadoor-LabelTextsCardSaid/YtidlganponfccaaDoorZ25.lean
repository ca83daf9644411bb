/- Texts packed together: CStr2 CText2 CCatsLaw8 CCats6 CCatsLaw9 CTextLaw4. -/
import Derived.Test.YtidlganponfccaaDoorZ24
section
/- Texts: split at commas. -/
set_option linter.unusedVariables false
set_option linter.unusedSimpArgs false
set_option maxRecDepth 100000
namespace Go.Proofs.YtidlganponfccaaDoor
open Go Go.Ideal
theorem cnt44_w (s : ByteArray) : CallK Tryd.prog 108 [.string s, .string ⟨#[44]⟩] (.int .i64 (sepN 44 s : Nat)) := cntComma_w s _ rfl
theorem index44_w (s : ByteArray) : CallK Tryd.prog 109 [.string s, .string ⟨#[44]⟩] (.int .i64 (ixB s 44)) := CallK.via progOK (pfs []) [] 100 (Adv.split (19 : Nat) Adv.nil (Adv.pur (32 : Nat) (Value.int IntKind.i64 (ixB s (44 : UInt8))) Adv.nil)) (by kernel_rfl) (by kernel_rfl) (p := ((ByteArray.toList (ByteArray.mk #[(44 : UInt8)]) == ByteArray.toList s) = true → Value.int IntKind.i64 (0 : Int) = Value.int IntKind.i64 (ixB s (44 : UInt8))) ∧ ((ByteArray.toList (ByteArray.mk #[(44 : UInt8)]) == ByteArray.toList s) = false → CallK Tryd.prog (nat_lit 132) [Value.string s, Value.int IntKind.u8 (44 : Int)] (Value.int IntKind.i64 (ixB s (44 : UInt8))) ∧ Value.int IntKind.i64 (ixB s (44 : UInt8)) = Value.int IntKind.i64 (ixB s (44 : UInt8)))) (by kernel_rfl) (by
    refine ⟨fun h => ?_, fun _ => ⟨ix44_w s, rfl⟩⟩
    have e := one_eq h
    subst e
    rw [ixB_one])
theorem split44_w (s : ByteArray) (hs : s.size ≤ 3000) : CallK Tryd.prog 59 [.string s, .string ⟨#[44]⟩] (splitV 44 s) := CallK.frzR progOK (pfs []) [] 100 (Adv.pur (25 : Nat) (Value.int IntKind.i64 (↑(sepN (44 : UInt8) s) : Int)) (Adv.chk (37 : Nat) none (Adv.loop (46 : Nat) (fun (i : Nat) => [((10 : Nat), Value.int IntKind.i64 (↑i : Int)), ((0 : Nat), Value.string (restB (44 : UInt8) s i))]) ((fun (h : Heap) (i : Nat) => Heap.set h (8 : Nat) (Blk.cells (partsL (44 : UInt8) s i) (9 : TypeId) Mode.fix)) (Heap.mk (nat_lit 9) (Trie.node none Trie.leaf (Trie.node none (Trie.node none (Trie.node (some (Blk.cells (zerosI (Value.cellList (Value.string (ByteArray.mk #[]))) (Int.toNat (if IntKind.wrap IntKind.i64 ((↑(ByteArray.size s) : Int) + (1 : Int)) < IntKind.wrap IntKind.i64 ((↑(sepN (44 : UInt8) s) : Int) + (1 : Int)) then IntKind.wrap IntKind.i64 ((↑(ByteArray.size s) : Int) + (1 : Int)) else IntKind.wrap IntKind.i64 ((↑(sepN (44 : UInt8) s) : Int) + (1 : Int))))) (nat_lit 9) Mode.fix)) Trie.leaf Trie.leaf) Trie.leaf) Trie.leaf)))) (fun (k i : Nat) => k + i = sepN (44 : UInt8) s) (sepN (44 : UInt8) s) (0 : Nat) fun (i46 s46 : Nat) (j46 : Nat → Value) => Adv.split (51 : Nat) (Adv.pur (56 : Nat) (Value.int IntKind.i64 (ixB (restB (44 : UInt8) s s46) (44 : UInt8))) (Adv.split (61 : Nat) (Adv.chk (67 : Nat) none (Adv.chk (68 : Nat) none (Adv.chk (73 : Nat) none Adv.nil))) (Adv.chk (70 : Nat) none (Adv.chk (71 : Nat) none (Adv.chk (72 : Nat) none (Adv.chk (79 : Nat) none Adv.nil)))))) (Adv.chk (57 : Nat) none (Adv.chk (58 : Nat) none (Adv.chk (63 : Nat) none Adv.nil)))))) (by kernel_rfl) (by kernel_rfl) (p := CallK Tryd.prog (nat_lit 108) [Value.string s, Value.string (ByteArray.mk #[(44 : UInt8)])] (Value.int IntKind.i64 (↑(sepN (44 : UInt8) s) : Int)) ∧ (((0 : Int) ≤ if IntKind.wrap IntKind.i64 ((↑(ByteArray.size s) : Int) + (1 : Int)) < IntKind.wrap IntKind.i64 ((↑(sepN (44 : UInt8) s) : Int) + (1 : Int)) then IntKind.wrap IntKind.i64 ((↑(ByteArray.size s) : Int) + (1 : Int)) else IntKind.wrap IntKind.i64 ((↑(sepN (44 : UInt8) s) : Int) + (1 : Int))) ∧ ((if IntKind.wrap IntKind.i64 ((↑(ByteArray.size s) : Int) + (1 : Int)) < IntKind.wrap IntKind.i64 ((↑(sepN (44 : UInt8) s) : Int) + (1 : Int)) then IntKind.wrap IntKind.i64 ((↑(ByteArray.size s) : Int) + (1 : Int)) else IntKind.wrap IntKind.i64 ((↑(sepN (44 : UInt8) s) : Int) + (1 : Int))) ≤ if IntKind.wrap IntKind.i64 ((↑(ByteArray.size s) : Int) + (1 : Int)) < IntKind.wrap IntKind.i64 ((↑(sepN (44 : UInt8) s) : Int) + (1 : Int)) then IntKind.wrap IntKind.i64 ((↑(ByteArray.size s) : Int) + (1 : Int)) else IntKind.wrap IntKind.i64 ((↑(sepN (44 : UInt8) s) : Int) + (1 : Int))) ∧ (if IntKind.wrap IntKind.i64 ((↑(ByteArray.size s) : Int) + (1 : Int)) < IntKind.wrap IntKind.i64 ((↑(sepN (44 : UInt8) s) : Int) + (1 : Int)) then IntKind.wrap IntKind.i64 ((↑(ByteArray.size s) : Int) + (1 : Int)) else IntKind.wrap IntKind.i64 ((↑(sepN (44 : UInt8) s) : Int) + (1 : Int))) * ((↑(TypeInfo.bytes (Tables.types (Program.toTables Tryd.prog))[(9 : Nat)]) : Int) + (1 : Int)) ≤ (1099511627776 : Int)) ∧ (sepN (44 : UInt8) s + (0 : Nat) = sepN (44 : UInt8) s ∧ (Value.int IntKind.i64 (0 : Int) = Value.int IntKind.i64 (0 : Int) ∧ Value.string s = Value.string (restB (44 : UInt8) s (0 : Nat))) ∧ Heap.mk (nat_lit 9) (Trie.node none Trie.leaf (Trie.node none (Trie.node none (Trie.node (some (Blk.cells (zerosI (Value.cellList (Value.string (ByteArray.mk #[]))) (Int.toNat (if IntKind.wrap IntKind.i64 ((↑(ByteArray.size s) : Int) + (1 : Int)) < IntKind.wrap IntKind.i64 ((↑(sepN (44 : UInt8) s) : Int) + (1 : Int)) then IntKind.wrap IntKind.i64 ((↑(ByteArray.size s) : Int) + (1 : Int)) else IntKind.wrap IntKind.i64 ((↑(sepN (44 : UInt8) s) : Int) + (1 : Int))))) (nat_lit 9) Mode.fix)) Trie.leaf Trie.leaf) Trie.leaf) Trie.leaf)) = Heap.mk (nat_lit 9) (Trie.node none Trie.leaf (Trie.node none (Trie.node none (Trie.node (some (Blk.cells (partsL (44 : UInt8) s (0 : Nat)) (nat_lit 9) Mode.fix)) Trie.leaf Trie.leaf) Trie.leaf) Trie.leaf))) ∧ ∀ (i46 s46 : Nat) (j46 : Nat → Value), i46 + s46 = sepN (44 : UInt8) s → (decide ((↑s46 : Int) < IntKind.wrap IntKind.i64 ((if IntKind.wrap IntKind.i64 ((↑(ByteArray.size s) : Int) + (1 : Int)) < IntKind.wrap IntKind.i64 ((↑(sepN (44 : UInt8) s) : Int) + (1 : Int)) then IntKind.wrap IntKind.i64 ((↑(ByteArray.size s) : Int) + (1 : Int)) else IntKind.wrap IntKind.i64 ((↑(sepN (44 : UInt8) s) : Int) + (1 : Int))) - (1 : Int))) = true → CallK Tryd.prog (nat_lit 109) [Value.string (restB (44 : UInt8) s s46), Value.string (ByteArray.mk #[(44 : UInt8)])] (Value.int IntKind.i64 (ixB (restB (44 : UInt8) s s46) (44 : UInt8))) ∧ (decide (ixB (restB (44 : UInt8) s s46) (44 : UInt8) < (0 : Int)) = true → ((0 : Int) ≤ (↑s46 : Int) ∧ (↑s46 : Int) < (↑(Int.toNat (if IntKind.wrap IntKind.i64 ((↑(ByteArray.size s) : Int) + (1 : Int)) < IntKind.wrap IntKind.i64 ((↑(sepN (44 : UInt8) s) : Int) + (1 : Int)) then IntKind.wrap IntKind.i64 ((↑(ByteArray.size s) : Int) + (1 : Int)) else IntKind.wrap IntKind.i64 ((↑(sepN (44 : UInt8) s) : Int) + (1 : Int)))) : Int)) ∧ nat_lit 0 + Int.toNat (↑s46 : Int) * nat_lit 1 + nat_lit 1 ≤ List.length (partsL (44 : UInt8) s s46) ∧ ((0 : Int) ≤ IntKind.wrap IntKind.i64 ((↑s46 : Int) + (1 : Int)) ∧ IntKind.wrap IntKind.i64 ((↑s46 : Int) + (1 : Int)) ≤ (↑(Int.toNat (if IntKind.wrap IntKind.i64 ((↑(ByteArray.size s) : Int) + (1 : Int)) < IntKind.wrap IntKind.i64 ((↑(sepN (44 : UInt8) s) : Int) + (1 : Int)) then IntKind.wrap IntKind.i64 ((↑(ByteArray.size s) : Int) + (1 : Int)) else IntKind.wrap IntKind.i64 ((↑(sepN (44 : UInt8) s) : Int) + (1 : Int)))) : Int)) ∧ True ∧ BorR (Heap.mk (nat_lit 9) (Trie.node none Trie.leaf (Trie.node none (Trie.node none (Trie.node (some (Blk.cells (splice (partsL (44 : UInt8) s s46) (nat_lit 0 + Int.toNat (↑s46 : Int) * nat_lit 1) (Value.cellList (Value.string (restB (44 : UInt8) s s46)))) (nat_lit 9) Mode.fix)) Trie.leaf Trie.leaf) Trie.leaf) Trie.leaf))) (Value.slice (some (Addr.mk (nat_lit 8) (nat_lit 0) none)) (Int.toNat (IntKind.wrap IntKind.i64 ((↑s46 : Int) + (1 : Int)))) (Int.toNat (if IntKind.wrap IntKind.i64 ((↑(ByteArray.size s) : Int) + (1 : Int)) < IntKind.wrap IntKind.i64 ((↑(sepN (44 : UInt8) s) : Int) + (1 : Int)) then IntKind.wrap IntKind.i64 ((↑(ByteArray.size s) : Int) + (1 : Int)) else IntKind.wrap IntKind.i64 ((↑(sepN (44 : UInt8) s) : Int) + (1 : Int))))) (splitV (44 : UInt8) s)) ∧ (decide (ixB (restB (44 : UInt8) s s46) (44 : UInt8) < (0 : Int)) = false → ((0 : Int) ≤ (0 : Int) ∧ (0 : Int) ≤ IntKind.wrap IntKind.i64 (ixB (restB (44 : UInt8) s s46) (44 : UInt8) + (0 : Int)) ∧ IntKind.wrap IntKind.i64 (ixB (restB (44 : UInt8) s s46) (44 : UInt8) + (0 : Int)) ≤ (↑(ByteArray.size (restB (44 : UInt8) s s46)) : Int)) ∧ ((0 : Int) ≤ (↑s46 : Int) ∧ (↑s46 : Int) < (↑(Int.toNat (if IntKind.wrap IntKind.i64 ((↑(ByteArray.size s) : Int) + (1 : Int)) < IntKind.wrap IntKind.i64 ((↑(sepN (44 : UInt8) s) : Int) + (1 : Int)) then IntKind.wrap IntKind.i64 ((↑(ByteArray.size s) : Int) + (1 : Int)) else IntKind.wrap IntKind.i64 ((↑(sepN (44 : UInt8) s) : Int) + (1 : Int)))) : Int)) ∧ nat_lit 0 + Int.toNat (↑s46 : Int) * nat_lit 1 + nat_lit 1 ≤ List.length (partsL (44 : UInt8) s s46) ∧ ((0 : Int) ≤ IntKind.wrap IntKind.i64 (ixB (restB (44 : UInt8) s s46) (44 : UInt8) + (1 : Int)) ∧ IntKind.wrap IntKind.i64 (ixB (restB (44 : UInt8) s s46) (44 : UInt8) + (1 : Int)) ≤ (↑(ByteArray.size (restB (44 : UInt8) s s46)) : Int) ∧ (↑(ByteArray.size (restB (44 : UInt8) s s46)) : Int) ≤ (↑(ByteArray.size (restB (44 : UInt8) s s46)) : Int)) ∧ ∃ (i46' : Nat), ∃ (s46' : Nat), i46' < i46 ∧ i46' + s46' = sepN (44 : UInt8) s ∧ (Value.int IntKind.i64 (IntKind.wrap IntKind.i64 ((↑s46 : Int) + (1 : Int))) = Value.int IntKind.i64 (↑s46' : Int) ∧ Value.string (ByteArray.extract (restB (44 : UInt8) s s46) (Int.toNat (IntKind.wrap IntKind.i64 (ixB (restB (44 : UInt8) s s46) (44 : UInt8) + (1 : Int)))) (Int.toNat (↑(ByteArray.size (restB (44 : UInt8) s s46)) : Int))) = Value.string (restB (44 : UInt8) s s46')) ∧ (some (Blk.cells (splice (partsL (44 : UInt8) s s46) (nat_lit 0 + Int.toNat (↑s46 : Int) * nat_lit 1) (Value.cellList (Value.string (ByteArray.extract (restB (44 : UInt8) s s46) (Int.toNat (0 : Int)) (Int.toNat (IntKind.wrap IntKind.i64 (ixB (restB (44 : UInt8) s s46) (44 : UInt8) + (0 : Int)))))))) (nat_lit 9) Mode.fix) = some (Blk.cells (partsL (44 : UInt8) s s46') (nat_lit 9) Mode.fix) ∧ True) ∧ true = true ∧ List.all (partsL (44 : UInt8) s s46') (refsOK (nat_lit 8) (nat_lit 9)) = true ∧ True)) ∧ (decide ((↑s46 : Int) < IntKind.wrap IntKind.i64 ((if IntKind.wrap IntKind.i64 ((↑(ByteArray.size s) : Int) + (1 : Int)) < IntKind.wrap IntKind.i64 ((↑(sepN (44 : UInt8) s) : Int) + (1 : Int)) then IntKind.wrap IntKind.i64 ((↑(ByteArray.size s) : Int) + (1 : Int)) else IntKind.wrap IntKind.i64 ((↑(sepN (44 : UInt8) s) : Int) + (1 : Int))) - (1 : Int))) = false → ((0 : Int) ≤ (↑s46 : Int) ∧ (↑s46 : Int) < (↑(Int.toNat (if IntKind.wrap IntKind.i64 ((↑(ByteArray.size s) : Int) + (1 : Int)) < IntKind.wrap IntKind.i64 ((↑(sepN (44 : UInt8) s) : Int) + (1 : Int)) then IntKind.wrap IntKind.i64 ((↑(ByteArray.size s) : Int) + (1 : Int)) else IntKind.wrap IntKind.i64 ((↑(sepN (44 : UInt8) s) : Int) + (1 : Int)))) : Int)) ∧ nat_lit 0 + Int.toNat (↑s46 : Int) * nat_lit 1 + nat_lit 1 ≤ List.length (partsL (44 : UInt8) s s46) ∧ ((0 : Int) ≤ IntKind.wrap IntKind.i64 ((↑s46 : Int) + (1 : Int)) ∧ IntKind.wrap IntKind.i64 ((↑s46 : Int) + (1 : Int)) ≤ (↑(Int.toNat (if IntKind.wrap IntKind.i64 ((↑(ByteArray.size s) : Int) + (1 : Int)) < IntKind.wrap IntKind.i64 ((↑(sepN (44 : UInt8) s) : Int) + (1 : Int)) then IntKind.wrap IntKind.i64 ((↑(ByteArray.size s) : Int) + (1 : Int)) else IntKind.wrap IntKind.i64 ((↑(sepN (44 : UInt8) s) : Int) + (1 : Int)))) : Int)) ∧ True ∧ BorR (Heap.mk (nat_lit 9) (Trie.node none Trie.leaf (Trie.node none (Trie.node none (Trie.node (some (Blk.cells (splice (partsL (44 : UInt8) s s46) (nat_lit 0 + Int.toNat (↑s46 : Int) * nat_lit 1) (Value.cellList (Value.string (restB (44 : UInt8) s s46)))) (nat_lit 9) Mode.fix)) Trie.leaf Trie.leaf) Trie.leaf) Trie.leaf))) (Value.slice (some (Addr.mk (nat_lit 8) (nat_lit 0) none)) (Int.toNat (IntKind.wrap IntKind.i64 ((↑s46 : Int) + (1 : Int)))) (Int.toNat (if IntKind.wrap IntKind.i64 ((↑(ByteArray.size s) : Int) + (1 : Int)) < IntKind.wrap IntKind.i64 ((↑(sepN (44 : UInt8) s) : Int) + (1 : Int)) then IntKind.wrap IntKind.i64 ((↑(ByteArray.size s) : Int) + (1 : Int)) else IntKind.wrap IntKind.i64 ((↑(sepN (44 : UInt8) s) : Int) + (1 : Int))))) (splitV (44 : UInt8) s))) (by kernel_rfl) (by
    have hN := sepN_le 44 s
    have hl := sepN_len 44 s
    have e1 : IntKind.i64.wrap ((sepN 44 s : Int) + 1) = (sepN 44 s : Int) + 1 := wrap_in (by omega) (by omega)
    have e2 : IntKind.i64.wrap ((s.size : Int) + 1) = (s.size : Int) + 1 := wrap_in (by omega) (by omega)
    have e3 : (if (s.size : Int) + 1 < (sepN 44 s : Int) + 1 then (s.size : Int) + 1 else (sepN 44 s : Int) + 1) = (sepN 44 s : Int) + 1 := by split <;> omega
    have e4 : ((sepN 44 s : Int) + 1).toNat = sepN 44 s + 1 := by omega
    have e5 : IntKind.i64.wrap ((sepN 44 s : Int) + 1 - 1) = (sepN 44 s : Int) := by rw [wrap_in (by omega) (by omega)]; omega
    simp only [e1, e2, e3, e4, e5]
    have tail : ∀ k : Nat, k = sepN 44 s → splice (partsL 44 s k) (0 + (k : Int).toNat * 1) (Value.cellList (.string (restB 44 s k))) = strsV (splitL 44 s.data.toList) := fun k hk => by
      rw [last_bs 44 s hk, show 0 + (k : Int).toNat * 1 = k from by omega]
      have := partsL_next 44 s (i := k) (by omega)
      refine Eq.trans this ?_
      rw [hk, partsL_end]
    have fin : ∀ k : Nat, k = sepN 44 s → (IntKind.i64.wrap ((k : Int) + 1)).toNat = (splitL 44 s.data.toList).length := fun k hk => by
      rw [wrap_in (by omega) (by omega)]; omega
    have wr : ∀ k : Nat, k ≤ sepN 44 s → IntKind.i64.wrap ((k : Int) + 1) = ((k + 1 : Nat) : Int) := fun k hk => by
      rw [wrap_in (by omega) (by omega)]; omega
    refine ⟨cnt44_w s, ⟨by omega, by omega, ?_⟩, ⟨by omega, ⟨by first | exact rfl | exact trivial, congrArg Value.string (restB_zero 44 s).symm⟩, blk8 ?_⟩, fun i k j q => ⟨fun h1 => ⟨index44_w _, fun h2 => ?_, fun h2 => ?_⟩, fun h1 => ?_⟩⟩
    · have : ((Tryd.prog.toTables.types[9]).bytes : Int) = 16 := rfl
      rw [this]; omega
    · exact zeros_strs (splitL 44 s.data.toList) _ hl.symm
    · have hk : k = sepN 44 s := by
        have h2 := of_decide_eq_true h2
        have h1 := of_decide_eq_true h1
        have hlt : k < sepN 44 s := by omega
        have := ix_more 44 s hlt
        unfold ixB at h2
        omega
      refine ⟨⟨by omega, by omega⟩, by rw [partsL_len 44 s (by omega)]; omega, ⟨by rw [wr k (by omega)]; omega, by rw [wr k (by omega)]; omega⟩, trivial, bor_strs (splitL 44 s.data.toList) rfl (tail k hk) (fin k hk) hl.symm ?_⟩
      unfold splitV
      rw [hl]
    · have hlt : k < sepN 44 s := by have h1 := of_decide_eq_true h1; omega
      have hx := ix_more 44 s hlt
      have hc := cut_more 44 s hlt
      have hz := restB_size 44 s k
      have hx2 : ixB (restB 44 s k) 44 = ((pcL 44 s k).length : Int) := hx
      rw [hx2]
      have w0 : IntKind.i64.wrap (((pcL 44 s k).length : Int) + 0) = ((pcL 44 s k).length : Int) := by rw [wrap_in (by omega) (by omega)]; omega
      have w1 : IntKind.i64.wrap (((pcL 44 s k).length : Int) + 1) = (((pcL 44 s k).length + 1 : Nat) : Int) := by rw [wrap_in (by omega) (by omega)]; omega
      rw [w0, w1]
      refine ⟨⟨by omega, by omega, by omega⟩, ⟨by omega, by omega⟩, by rw [partsL_len 44 s (by omega)]; omega, ⟨by omega, by omega, by omega⟩, i - 1, k + 1, by omega, by omega, ⟨congrArg (Value.int .i64) (wr k (by omega)), congrArg Value.string ?_⟩, ⟨congrArg (fun c => some (Blk.cells c 9 .fix)) ?_, trivial⟩, by first | exact rfl | exact trivial, refs_parts 44 s (k + 1) _ _, trivial⟩
      · simp only [Int.toNat_natCast]; exact hc.2.1
      · simp only [Int.toNat_natCast]; rw [show Int.toNat 0 = 0 from rfl, hc.1, show 0 + k * 1 = k from by omega]
        exact partsL_next 44 s (by omega)
    · have hk : k = sepN 44 s := by have h1 := of_decide_eq_false h1; omega
      refine ⟨⟨by omega, by omega⟩, by rw [partsL_len 44 s (by omega)]; omega, ⟨by rw [wr k (by omega)]; omega, by rw [wr k (by omega)]; omega⟩, trivial, bor_strs (splitL 44 s.data.toList) rfl (tail k hk) (fin k hk) hl.symm ?_⟩
      unfold splitV
      rw [hl])
end Go.Proofs.YtidlganponfccaaDoor

end
section
/- Sets told as the document tells them; what a piece of a text tells. -/
set_option linter.unusedVariables false
set_option linter.unusedSimpArgs false
set_option maxRecDepth 100000
namespace Go.Proofs.YtidlganponfccaaDoor
open Go Go.Ideal
theorem bs_nil_iff2 (l : Bs) : (ByteArray.toList (bs l) == ByteArray.toList (ByteArray.mk #[])) = decide (l = []) := by
  rw [← bs_nil_iff, Bool.eq_iff_iff, beq_iff_eq, beq_iff_eq]
  exact eq_comm
theorem refText_w (c : List Int) : CallK Tryd.prog 32 [catsV c] (.string (textC c)) := CallK.via progOK (pfs [21]) [] 100 (Adv.loop (8 : Nat) (fun (k : Nat) => [((4 : Nat), Value.int IntKind.i64 (↑k : Int)), ((3 : Nat), Value.string (bs (refAt (hasC c) k)))]) ((fun (h : Heap) (x : Nat) => h) (Heap.mk (nat_lit 9) (Trie.node none Trie.leaf (Trie.node none (Trie.node none (Trie.node (some (Blk.cells (catsL c) (nat_lit 23) Mode.fix)) Trie.leaf Trie.leaf) Trie.leaf) Trie.leaf)))) (fun (i k : Nat) => i + k = (240 : Nat)) (240 : Nat) (0 : Nat) fun (i8 s8 : Nat) (j8 : Nat → Value) => Adv.split (12 : Nat) (Adv.purs (19 : Nat) (hasC c (↑s8 : Int)) (Adv.purs (25 : Nat) (hasC c (IntKind.wrap IntKind.i64 ((↑s8 : Int) - (1 : Int)))) (Adv.purs (30 : Nat) (hasC c (IntKind.wrap IntKind.i64 ((↑s8 : Int) + (1 : Int)))) Adv.nil (Adv.split (36 : Nat) (Adv.pur (40 : Nat) (Value.string (bs (Lib.itoa (↑s8 : Int)))) Adv.nil) (Adv.purs (43 : Nat) (hasC c (IntKind.wrap IntKind.i64 ((↑s8 : Int) - (1 : Int)))) (Adv.purs (48 : Nat) (hasC c (IntKind.wrap IntKind.i64 ((↑s8 : Int) - (2 : Int)))) (Adv.chk (53 : Nat) none (Adv.pur (55 : Nat) (Value.string (bs (Lib.itoa (↑s8 : Int)))) (Adv.chk (56 : Nat) none Adv.nil))) (Adv.chk (53 : Nat) none (Adv.pur (55 : Nat) (Value.string (bs (Lib.itoa (↑s8 : Int)))) (Adv.chk (56 : Nat) none Adv.nil)))) (Adv.chk (49 : Nat) none (Adv.pur (51 : Nat) (Value.string (bs (Lib.itoa (↑s8 : Int)))) (Adv.chk (52 : Nat) none Adv.nil)))))) (Adv.split (32 : Nat) (Adv.pur (36 : Nat) (Value.string (bs (Lib.itoa (↑s8 : Int)))) Adv.nil) (Adv.purs (39 : Nat) (hasC c (IntKind.wrap IntKind.i64 ((↑s8 : Int) - (1 : Int)))) (Adv.purs (44 : Nat) (hasC c (IntKind.wrap IntKind.i64 ((↑s8 : Int) - (2 : Int)))) (Adv.chk (49 : Nat) none (Adv.pur (51 : Nat) (Value.string (bs (Lib.itoa (↑s8 : Int)))) (Adv.chk (52 : Nat) none Adv.nil))) (Adv.chk (49 : Nat) none (Adv.pur (51 : Nat) (Value.string (bs (Lib.itoa (↑s8 : Int)))) (Adv.chk (52 : Nat) none Adv.nil)))) (Adv.chk (45 : Nat) none (Adv.pur (47 : Nat) (Value.string (bs (Lib.itoa (↑s8 : Int)))) (Adv.chk (48 : Nat) none Adv.nil)))))) Adv.nil) (Adv.split (17 : Nat) Adv.nil Adv.nil)) (by kernel_rfl) (by kernel_rfl) (p := ((240 : Nat) + (0 : Nat) = (240 : Nat) ∧ (Value.int IntKind.i64 (0 : Int) = Value.int IntKind.i64 (0 : Int) ∧ Value.string (ByteArray.mk #[]) = Value.string (bs (refAt (hasC c) (0 : Nat)))) ∧ Heap.mk (nat_lit 9) (Trie.node none Trie.leaf (Trie.node none (Trie.node none (Trie.node (some (Blk.cells (catsL c) (nat_lit 23) Mode.fix)) Trie.leaf Trie.leaf) Trie.leaf) Trie.leaf)) = Heap.mk (nat_lit 9) (Trie.node none Trie.leaf (Trie.node none (Trie.node none (Trie.node (some (Blk.cells (catsL c) (nat_lit 23) Mode.fix)) Trie.leaf Trie.leaf) Trie.leaf) Trie.leaf))) ∧ ∀ (i8 s8 : Nat) (j8 : Nat → Value), i8 + s8 = (240 : Nat) → (decide ((↑s8 : Int) < (240 : Int)) = true → CallK Tryd.prog (nat_lit 21) [Value.agg (Array.mk (catsL c)), Value.int IntKind.i64 (↑s8 : Int)] (Value.bool (hasC c (↑s8 : Int))) ∧ (hasC c (↑s8 : Int) = true → CallK Tryd.prog (nat_lit 21) [Value.agg (Array.mk (catsL c)), Value.int IntKind.i64 (IntKind.wrap IntKind.i64 ((↑s8 : Int) - (1 : Int)))] (Value.bool (hasC c (IntKind.wrap IntKind.i64 ((↑s8 : Int) - (1 : Int))))) ∧ (hasC c (IntKind.wrap IntKind.i64 ((↑s8 : Int) - (1 : Int))) = true → CallK Tryd.prog (nat_lit 21) [Value.agg (Array.mk (catsL c)), Value.int IntKind.i64 (IntKind.wrap IntKind.i64 ((↑s8 : Int) + (1 : Int)))] (Value.bool (hasC c (IntKind.wrap IntKind.i64 ((↑s8 : Int) + (1 : Int))))) ∧ (hasC c (IntKind.wrap IntKind.i64 ((↑s8 : Int) + (1 : Int))) = true → ∃ (i8' : Nat), ∃ (s8' : Nat), i8' < i8 ∧ i8' + s8' = (240 : Nat) ∧ (Value.int IntKind.i64 (IntKind.wrap IntKind.i64 ((↑s8 : Int) + (1 : Int))) = Value.int IntKind.i64 (↑s8' : Int) ∧ Value.string (bs (refAt (hasC c) s8)) = Value.string (bs (refAt (hasC c) s8'))) ∧ (some (Blk.cells (catsL c) (nat_lit 23) Mode.fix) = some (Blk.cells (catsL c) (nat_lit 23) Mode.fix) ∧ True) ∧ true = true ∧ true = true ∧ True) ∧ (hasC c (IntKind.wrap IntKind.i64 ((↑s8 : Int) + (1 : Int))) = false → ((ByteArray.toList (bs (refAt (hasC c) s8)) == ByteArray.toList (ByteArray.mk #[])) = true → CallK Tryd.prog (nat_lit 36) [Value.int IntKind.i64 (↑s8 : Int)] (Value.string (bs (Lib.itoa (↑s8 : Int)))) ∧ ∃ (i8' : Nat), ∃ (s8' : Nat), i8' < i8 ∧ i8' + s8' = (240 : Nat) ∧ (Value.int IntKind.i64 (IntKind.wrap IntKind.i64 ((↑s8 : Int) + (1 : Int))) = Value.int IntKind.i64 (↑s8' : Int) ∧ Value.string (bs (Lib.itoa (↑s8 : Int))) = Value.string (bs (refAt (hasC c) s8'))) ∧ (some (Blk.cells (catsL c) (nat_lit 23) Mode.fix) = some (Blk.cells (catsL c) (nat_lit 23) Mode.fix) ∧ True) ∧ true = true ∧ true = true ∧ True) ∧ ((ByteArray.toList (bs (refAt (hasC c) s8)) == ByteArray.toList (ByteArray.mk #[])) = false → CallK Tryd.prog (nat_lit 21) [Value.agg (Array.mk (catsL c)), Value.int IntKind.i64 (IntKind.wrap IntKind.i64 ((↑s8 : Int) - (1 : Int)))] (Value.bool (hasC c (IntKind.wrap IntKind.i64 ((↑s8 : Int) - (1 : Int))))) ∧ (hasC c (IntKind.wrap IntKind.i64 ((↑s8 : Int) - (1 : Int))) = true → CallK Tryd.prog (nat_lit 21) [Value.agg (Array.mk (catsL c)), Value.int IntKind.i64 (IntKind.wrap IntKind.i64 ((↑s8 : Int) - (2 : Int)))] (Value.bool (hasC c (IntKind.wrap IntKind.i64 ((↑s8 : Int) - (2 : Int))))) ∧ (hasC c (IntKind.wrap IntKind.i64 ((↑s8 : Int) - (2 : Int))) = true → (↑(ByteArray.size (bs (refAt (hasC c) s8)) + ByteArray.size (ByteArray.mk #[(45 : UInt8)])) : Int) ≤ (9223372036854775807 : Int) ∧ CallK Tryd.prog (nat_lit 36) [Value.int IntKind.i64 (↑s8 : Int)] (Value.string (bs (Lib.itoa (↑s8 : Int)))) ∧ (↑(ByteArray.size (bs (refAt (hasC c) s8) ++ ByteArray.mk #[(45 : UInt8)]) + ByteArray.size (bs (Lib.itoa (↑s8 : Int)))) : Int) ≤ (9223372036854775807 : Int) ∧ ∃ (i8' : Nat), ∃ (s8' : Nat), i8' < i8 ∧ i8' + s8' = (240 : Nat) ∧ (Value.int IntKind.i64 (IntKind.wrap IntKind.i64 ((↑s8 : Int) + (1 : Int))) = Value.int IntKind.i64 (↑s8' : Int) ∧ Value.string (bs (refAt (hasC c) s8) ++ ByteArray.mk #[(45 : UInt8)] ++ bs (Lib.itoa (↑s8 : Int))) = Value.string (bs (refAt (hasC c) s8'))) ∧ (some (Blk.cells (catsL c) (nat_lit 23) Mode.fix) = some (Blk.cells (catsL c) (nat_lit 23) Mode.fix) ∧ True) ∧ true = true ∧ true = true ∧ True) ∧ (hasC c (IntKind.wrap IntKind.i64 ((↑s8 : Int) - (2 : Int))) = false → (↑(ByteArray.size (bs (refAt (hasC c) s8)) + ByteArray.size (ByteArray.mk #[(44 : UInt8)])) : Int) ≤ (9223372036854775807 : Int) ∧ CallK Tryd.prog (nat_lit 36) [Value.int IntKind.i64 (↑s8 : Int)] (Value.string (bs (Lib.itoa (↑s8 : Int)))) ∧ (↑(ByteArray.size (bs (refAt (hasC c) s8) ++ ByteArray.mk #[(44 : UInt8)]) + ByteArray.size (bs (Lib.itoa (↑s8 : Int)))) : Int) ≤ (9223372036854775807 : Int) ∧ ∃ (i8' : Nat), ∃ (s8' : Nat), i8' < i8 ∧ i8' + s8' = (240 : Nat) ∧ (Value.int IntKind.i64 (IntKind.wrap IntKind.i64 ((↑s8 : Int) + (1 : Int))) = Value.int IntKind.i64 (↑s8' : Int) ∧ Value.string (bs (refAt (hasC c) s8) ++ ByteArray.mk #[(44 : UInt8)] ++ bs (Lib.itoa (↑s8 : Int))) = Value.string (bs (refAt (hasC c) s8'))) ∧ (some (Blk.cells (catsL c) (nat_lit 23) Mode.fix) = some (Blk.cells (catsL c) (nat_lit 23) Mode.fix) ∧ True) ∧ true = true ∧ true = true ∧ True)) ∧ (hasC c (IntKind.wrap IntKind.i64 ((↑s8 : Int) - (1 : Int))) = false → (↑(ByteArray.size (bs (refAt (hasC c) s8)) + ByteArray.size (ByteArray.mk #[(44 : UInt8)])) : Int) ≤ (9223372036854775807 : Int) ∧ CallK Tryd.prog (nat_lit 36) [Value.int IntKind.i64 (↑s8 : Int)] (Value.string (bs (Lib.itoa (↑s8 : Int)))) ∧ (↑(ByteArray.size (bs (refAt (hasC c) s8) ++ ByteArray.mk #[(44 : UInt8)]) + ByteArray.size (bs (Lib.itoa (↑s8 : Int)))) : Int) ≤ (9223372036854775807 : Int) ∧ ∃ (i8' : Nat), ∃ (s8' : Nat), i8' < i8 ∧ i8' + s8' = (240 : Nat) ∧ (Value.int IntKind.i64 (IntKind.wrap IntKind.i64 ((↑s8 : Int) + (1 : Int))) = Value.int IntKind.i64 (↑s8' : Int) ∧ Value.string (bs (refAt (hasC c) s8) ++ ByteArray.mk #[(44 : UInt8)] ++ bs (Lib.itoa (↑s8 : Int))) = Value.string (bs (refAt (hasC c) s8'))) ∧ (some (Blk.cells (catsL c) (nat_lit 23) Mode.fix) = some (Blk.cells (catsL c) (nat_lit 23) Mode.fix) ∧ True) ∧ true = true ∧ true = true ∧ True)))) ∧ (hasC c (IntKind.wrap IntKind.i64 ((↑s8 : Int) - (1 : Int))) = false → ((ByteArray.toList (bs (refAt (hasC c) s8)) == ByteArray.toList (ByteArray.mk #[])) = true → CallK Tryd.prog (nat_lit 36) [Value.int IntKind.i64 (↑s8 : Int)] (Value.string (bs (Lib.itoa (↑s8 : Int)))) ∧ ∃ (i8' : Nat), ∃ (s8' : Nat), i8' < i8 ∧ i8' + s8' = (240 : Nat) ∧ (Value.int IntKind.i64 (IntKind.wrap IntKind.i64 ((↑s8 : Int) + (1 : Int))) = Value.int IntKind.i64 (↑s8' : Int) ∧ Value.string (bs (Lib.itoa (↑s8 : Int))) = Value.string (bs (refAt (hasC c) s8'))) ∧ (some (Blk.cells (catsL c) (nat_lit 23) Mode.fix) = some (Blk.cells (catsL c) (nat_lit 23) Mode.fix) ∧ True) ∧ true = true ∧ true = true ∧ True) ∧ ((ByteArray.toList (bs (refAt (hasC c) s8)) == ByteArray.toList (ByteArray.mk #[])) = false → CallK Tryd.prog (nat_lit 21) [Value.agg (Array.mk (catsL c)), Value.int IntKind.i64 (IntKind.wrap IntKind.i64 ((↑s8 : Int) - (1 : Int)))] (Value.bool (hasC c (IntKind.wrap IntKind.i64 ((↑s8 : Int) - (1 : Int))))) ∧ (hasC c (IntKind.wrap IntKind.i64 ((↑s8 : Int) - (1 : Int))) = true → CallK Tryd.prog (nat_lit 21) [Value.agg (Array.mk (catsL c)), Value.int IntKind.i64 (IntKind.wrap IntKind.i64 ((↑s8 : Int) - (2 : Int)))] (Value.bool (hasC c (IntKind.wrap IntKind.i64 ((↑s8 : Int) - (2 : Int))))) ∧ (hasC c (IntKind.wrap IntKind.i64 ((↑s8 : Int) - (2 : Int))) = true → (↑(ByteArray.size (bs (refAt (hasC c) s8)) + ByteArray.size (ByteArray.mk #[(45 : UInt8)])) : Int) ≤ (9223372036854775807 : Int) ∧ CallK Tryd.prog (nat_lit 36) [Value.int IntKind.i64 (↑s8 : Int)] (Value.string (bs (Lib.itoa (↑s8 : Int)))) ∧ (↑(ByteArray.size (bs (refAt (hasC c) s8) ++ ByteArray.mk #[(45 : UInt8)]) + ByteArray.size (bs (Lib.itoa (↑s8 : Int)))) : Int) ≤ (9223372036854775807 : Int) ∧ ∃ (i8' : Nat), ∃ (s8' : Nat), i8' < i8 ∧ i8' + s8' = (240 : Nat) ∧ (Value.int IntKind.i64 (IntKind.wrap IntKind.i64 ((↑s8 : Int) + (1 : Int))) = Value.int IntKind.i64 (↑s8' : Int) ∧ Value.string (bs (refAt (hasC c) s8) ++ ByteArray.mk #[(45 : UInt8)] ++ bs (Lib.itoa (↑s8 : Int))) = Value.string (bs (refAt (hasC c) s8'))) ∧ (some (Blk.cells (catsL c) (nat_lit 23) Mode.fix) = some (Blk.cells (catsL c) (nat_lit 23) Mode.fix) ∧ True) ∧ true = true ∧ true = true ∧ True) ∧ (hasC c (IntKind.wrap IntKind.i64 ((↑s8 : Int) - (2 : Int))) = false → (↑(ByteArray.size (bs (refAt (hasC c) s8)) + ByteArray.size (ByteArray.mk #[(44 : UInt8)])) : Int) ≤ (9223372036854775807 : Int) ∧ CallK Tryd.prog (nat_lit 36) [Value.int IntKind.i64 (↑s8 : Int)] (Value.string (bs (Lib.itoa (↑s8 : Int)))) ∧ (↑(ByteArray.size (bs (refAt (hasC c) s8) ++ ByteArray.mk #[(44 : UInt8)]) + ByteArray.size (bs (Lib.itoa (↑s8 : Int)))) : Int) ≤ (9223372036854775807 : Int) ∧ ∃ (i8' : Nat), ∃ (s8' : Nat), i8' < i8 ∧ i8' + s8' = (240 : Nat) ∧ (Value.int IntKind.i64 (IntKind.wrap IntKind.i64 ((↑s8 : Int) + (1 : Int))) = Value.int IntKind.i64 (↑s8' : Int) ∧ Value.string (bs (refAt (hasC c) s8) ++ ByteArray.mk #[(44 : UInt8)] ++ bs (Lib.itoa (↑s8 : Int))) = Value.string (bs (refAt (hasC c) s8'))) ∧ (some (Blk.cells (catsL c) (nat_lit 23) Mode.fix) = some (Blk.cells (catsL c) (nat_lit 23) Mode.fix) ∧ True) ∧ true = true ∧ true = true ∧ True)) ∧ (hasC c (IntKind.wrap IntKind.i64 ((↑s8 : Int) - (1 : Int))) = false → (↑(ByteArray.size (bs (refAt (hasC c) s8)) + ByteArray.size (ByteArray.mk #[(44 : UInt8)])) : Int) ≤ (9223372036854775807 : Int) ∧ CallK Tryd.prog (nat_lit 36) [Value.int IntKind.i64 (↑s8 : Int)] (Value.string (bs (Lib.itoa (↑s8 : Int)))) ∧ (↑(ByteArray.size (bs (refAt (hasC c) s8) ++ ByteArray.mk #[(44 : UInt8)]) + ByteArray.size (bs (Lib.itoa (↑s8 : Int)))) : Int) ≤ (9223372036854775807 : Int) ∧ ∃ (i8' : Nat), ∃ (s8' : Nat), i8' < i8 ∧ i8' + s8' = (240 : Nat) ∧ (Value.int IntKind.i64 (IntKind.wrap IntKind.i64 ((↑s8 : Int) + (1 : Int))) = Value.int IntKind.i64 (↑s8' : Int) ∧ Value.string (bs (refAt (hasC c) s8) ++ ByteArray.mk #[(44 : UInt8)] ++ bs (Lib.itoa (↑s8 : Int))) = Value.string (bs (refAt (hasC c) s8'))) ∧ (some (Blk.cells (catsL c) (nat_lit 23) Mode.fix) = some (Blk.cells (catsL c) (nat_lit 23) Mode.fix) ∧ True) ∧ true = true ∧ true = true ∧ True)))) ∧ (hasC c (↑s8 : Int) = false → ∃ (i8' : Nat), ∃ (s8' : Nat), i8' < i8 ∧ i8' + s8' = (240 : Nat) ∧ (Value.int IntKind.i64 (IntKind.wrap IntKind.i64 ((↑s8 : Int) + (1 : Int))) = Value.int IntKind.i64 (↑s8' : Int) ∧ Value.string (bs (refAt (hasC c) s8)) = Value.string (bs (refAt (hasC c) s8'))) ∧ (some (Blk.cells (catsL c) (nat_lit 23) Mode.fix) = some (Blk.cells (catsL c) (nat_lit 23) Mode.fix) ∧ True) ∧ true = true ∧ true = true ∧ True)) ∧ (decide ((↑s8 : Int) < (240 : Int)) = false → ((ByteArray.toList (bs (refAt (hasC c) s8)) == ByteArray.toList (ByteArray.mk #[])) = true → Value.string (ByteArray.mk #[(45 : UInt8)]) = Value.string (textC c)) ∧ ((ByteArray.toList (bs (refAt (hasC c) s8)) == ByteArray.toList (ByteArray.mk #[])) = false → Value.string (bs (refAt (hasC c) s8)) = Value.string (textC c)))) (by kernel_rfl) (by
    refine ⟨⟨by omega, ⟨rfl, rfl⟩, rfl⟩, fun i k j q => ⟨fun h1 => ?_, fun h1 => ?_⟩⟩
    · have hk : k < 240 := by have := of_decide_eq_true h1; omega
      have hs := refAt_len (hasC c) k (by omega)
      have hd := itoa_len (n := (k : Int)) (by omega) (by omega)
      have hstep : refAt (hasC c) (k + 1) = numStep (hasC c) (refAt (hasC c) k) k := rfl
      have w1 : IntKind.i64.wrap ((k : Int) - 1) = (k : Int) - 1 := wrap_in (by omega) (by omega)
      have w2 : IntKind.i64.wrap ((k : Int) - 2) = (k : Int) - 2 := wrap_in (by omega) (by omega)
      have w3 : IntKind.i64.wrap ((k : Int) + 1) = (k : Int) + 1 := wrap_in (by omega) (by omega)
      have w4 : ((k + 1 : Nat) : Int) = (k : Int) + 1 := by omega
      clear h1
      simp only [w1, w2, w3, bs_app, bs_append_size, bs_size, one_size, bs_nil_iff2]
      repeat' (first | exact has_w _ _ | exact number_w _ (by omega) (by omega) | apply And.intro | intro)
      all_goals first
        | omega
        | (refine ⟨i - 1, k + 1, by omega, by omega, ⟨congrArg (Value.int .i64) (by omega), congrArg (fun x => Value.string (bs x)) ?_⟩, ?_⟩ <;> first | (rw [hstep]; unfold numStep dig; simp_all; done) | (simp; done))
    · have hk : k = 240 := by have := of_decide_eq_false h1; omega
      subst hk
      rw [bs_nil_iff2, ref_text]
      refine ⟨fun h => ?_, fun h => ?_⟩
      · rw [if_pos (of_decide_eq_true h)]; rfl
      · rw [if_neg (of_decide_eq_false h)])
theorem cutA_size (s : ByteArray) (c : UInt8) : (cutA s c).size ≤ s.size := by
  unfold cutA
  split
  · rw [ByteArray.size_extract]; omega
  · exact Nat.le_refl _
theorem cutB_size (s : ByteArray) (c : UInt8) : (cutB s c).size ≤ s.size := by
  unfold cutB
  split
  · rw [ByteArray.size_extract]; omega
  · exact Nat.zero_le _
def spOne (s : ByteArray) : Bool := atoiOk (cutA s 45) && rightI (atoiN (cutA s 45))
def spOk (s : ByteArray) : Bool := if cutF s 45 = true then atoiOk (cutA s 45) && atoiOk (cutB s 45) && rightI (atoiN (cutA s 45)) && rightI (atoiN (cutB s 45)) else spOne s
def spLo (s : ByteArray) : Int := atoiN (cutA s 45)
def spHi (s : ByteArray) : Int := if cutF s 45 = true then atoiN (cutB s 45) else atoiN (cutA s 45)
theorem span_w (s : ByteArray) (hs : s.size ≤ 3000) : CallK Tryd.prog 60 [.string s] (.tuple (Array.mk [.int .i64 (spLo s), .int .i64 (spHi s), .bool (spOk s)])) := CallK.via progOK (pfs [54]) [] 100 (Adv.pur (6 : Nat) (Value.tuple (Array.mk [Value.string (cutA s (45 : UInt8)), Value.string (cutB s (45 : UInt8)), Value.bool (cutF s (45 : UInt8))])) (Adv.split (10 : Nat) (Adv.cas (16 : Nat) (atoiOk (cutA s (45 : UInt8))) (Adv.pur (16 : Nat) (Value.tuple (Array.mk [Value.int IntKind.i64 (atoiN (cutA s (45 : UInt8))), Value.nilIface])) (Adv.cas (29 : Nat) (atoiOk (cutB s (45 : UInt8))) (Adv.pur (29 : Nat) (Value.tuple (Array.mk [Value.int IntKind.i64 (atoiN (cutB s (45 : UInt8))), Value.nilIface])) (Adv.purs (46 : Nat) (rightI (atoiN (cutA s (45 : UInt8)))) (Adv.purs (50 : Nat) (rightI (atoiN (cutB s (45 : UInt8)))) Adv.nil Adv.nil) Adv.nil)) (Adv.pur (29 : Nat) (Value.tuple (Array.mk [Value.int IntKind.i64 (atoiN (cutB s (45 : UInt8))), Value.iface (nat_lit 144) (Value.iface (nat_lit 1000005) Value.nilIface)])) Adv.nil))) (Adv.pur (16 : Nat) (Value.tuple (Array.mk [Value.int IntKind.i64 (atoiN (cutA s (45 : UInt8))), Value.iface (nat_lit 144) (Value.iface (nat_lit 1000005) Value.nilIface)])) (Adv.cas (29 : Nat) (atoiOk (cutB s (45 : UInt8))) (Adv.pur (29 : Nat) (Value.tuple (Array.mk [Value.int IntKind.i64 (atoiN (cutB s (45 : UInt8))), Value.nilIface])) Adv.nil) (Adv.pur (29 : Nat) (Value.tuple (Array.mk [Value.int IntKind.i64 (atoiN (cutB s (45 : UInt8))), Value.iface (nat_lit 144) (Value.iface (nat_lit 1000005) Value.nilIface)])) Adv.nil)))) (Adv.cas (16 : Nat) (atoiOk (cutA s (45 : UInt8))) (Adv.pur (16 : Nat) (Value.tuple (Array.mk [Value.int IntKind.i64 (atoiN (cutA s (45 : UInt8))), Value.nilIface])) (Adv.purs (34 : Nat) (rightI (atoiN (cutA s (45 : UInt8)))) Adv.nil Adv.nil)) (Adv.pur (16 : Nat) (Value.tuple (Array.mk [Value.int IntKind.i64 (atoiN (cutA s (45 : UInt8))), Value.iface (nat_lit 144) (Value.iface (nat_lit 1000005) Value.nilIface)])) Adv.nil)))) (by kernel_rfl) (by kernel_rfl) (p := CallK Tryd.prog (nat_lit 63) [Value.string s, Value.string (ByteArray.mk #[(45 : UInt8)])] (Value.tuple (Array.mk [Value.string (cutA s (45 : UInt8)), Value.string (cutB s (45 : UInt8)), Value.bool (cutF s (45 : UInt8))])) ∧ (cutF s (45 : UInt8) = true → (atoiOk (cutA s (45 : UInt8)) = true → CallK Tryd.prog (nat_lit 64) [Value.string (cutA s (45 : UInt8))] (Value.tuple (Array.mk [Value.int IntKind.i64 (atoiN (cutA s (45 : UInt8))), Value.nilIface])) ∧ (atoiOk (cutB s (45 : UInt8)) = true → CallK Tryd.prog (nat_lit 64) [Value.string (cutB s (45 : UInt8))] (Value.tuple (Array.mk [Value.int IntKind.i64 (atoiN (cutB s (45 : UInt8))), Value.nilIface])) ∧ CallK Tryd.prog (nat_lit 54) [Value.int IntKind.i64 (atoiN (cutA s (45 : UInt8)))] (Value.bool (rightI (atoiN (cutA s (45 : UInt8))))) ∧ (rightI (atoiN (cutA s (45 : UInt8))) = true → CallK Tryd.prog (nat_lit 54) [Value.int IntKind.i64 (atoiN (cutB s (45 : UInt8)))] (Value.bool (rightI (atoiN (cutB s (45 : UInt8))))) ∧ (rightI (atoiN (cutB s (45 : UInt8))) = true → Value.tuple (Array.mk [Value.int IntKind.i64 (atoiN (cutA s (45 : UInt8))), Value.int IntKind.i64 (atoiN (cutB s (45 : UInt8))), Value.bool true]) = Value.tuple (Array.mk [Value.int IntKind.i64 (spLo s), Value.int IntKind.i64 (spHi s), Value.bool (spOk s)])) ∧ (rightI (atoiN (cutB s (45 : UInt8))) = false → Value.tuple (Array.mk [Value.int IntKind.i64 (atoiN (cutA s (45 : UInt8))), Value.int IntKind.i64 (atoiN (cutB s (45 : UInt8))), Value.bool false]) = Value.tuple (Array.mk [Value.int IntKind.i64 (spLo s), Value.int IntKind.i64 (spHi s), Value.bool (spOk s)]))) ∧ (rightI (atoiN (cutA s (45 : UInt8))) = false → Value.tuple (Array.mk [Value.int IntKind.i64 (atoiN (cutA s (45 : UInt8))), Value.int IntKind.i64 (atoiN (cutB s (45 : UInt8))), Value.bool false]) = Value.tuple (Array.mk [Value.int IntKind.i64 (spLo s), Value.int IntKind.i64 (spHi s), Value.bool (spOk s)]))) ∧ (atoiOk (cutB s (45 : UInt8)) = false → CallK Tryd.prog (nat_lit 64) [Value.string (cutB s (45 : UInt8))] (Value.tuple (Array.mk [Value.int IntKind.i64 (atoiN (cutB s (45 : UInt8))), Value.iface (nat_lit 144) (Value.iface (nat_lit 1000005) Value.nilIface)])) ∧ Value.tuple (Array.mk [Value.int IntKind.i64 (atoiN (cutA s (45 : UInt8))), Value.int IntKind.i64 (atoiN (cutB s (45 : UInt8))), Value.bool false]) = Value.tuple (Array.mk [Value.int IntKind.i64 (spLo s), Value.int IntKind.i64 (spHi s), Value.bool (spOk s)]))) ∧ (atoiOk (cutA s (45 : UInt8)) = false → CallK Tryd.prog (nat_lit 64) [Value.string (cutA s (45 : UInt8))] (Value.tuple (Array.mk [Value.int IntKind.i64 (atoiN (cutA s (45 : UInt8))), Value.iface (nat_lit 144) (Value.iface (nat_lit 1000005) Value.nilIface)])) ∧ (atoiOk (cutB s (45 : UInt8)) = true → CallK Tryd.prog (nat_lit 64) [Value.string (cutB s (45 : UInt8))] (Value.tuple (Array.mk [Value.int IntKind.i64 (atoiN (cutB s (45 : UInt8))), Value.nilIface])) ∧ Value.tuple (Array.mk [Value.int IntKind.i64 (atoiN (cutA s (45 : UInt8))), Value.int IntKind.i64 (atoiN (cutB s (45 : UInt8))), Value.bool false]) = Value.tuple (Array.mk [Value.int IntKind.i64 (spLo s), Value.int IntKind.i64 (spHi s), Value.bool (spOk s)])) ∧ (atoiOk (cutB s (45 : UInt8)) = false → CallK Tryd.prog (nat_lit 64) [Value.string (cutB s (45 : UInt8))] (Value.tuple (Array.mk [Value.int IntKind.i64 (atoiN (cutB s (45 : UInt8))), Value.iface (nat_lit 144) (Value.iface (nat_lit 1000005) Value.nilIface)])) ∧ Value.tuple (Array.mk [Value.int IntKind.i64 (atoiN (cutA s (45 : UInt8))), Value.int IntKind.i64 (atoiN (cutB s (45 : UInt8))), Value.bool false]) = Value.tuple (Array.mk [Value.int IntKind.i64 (spLo s), Value.int IntKind.i64 (spHi s), Value.bool (spOk s)])))) ∧ (cutF s (45 : UInt8) = false → (atoiOk (cutA s (45 : UInt8)) = true → CallK Tryd.prog (nat_lit 64) [Value.string (cutA s (45 : UInt8))] (Value.tuple (Array.mk [Value.int IntKind.i64 (atoiN (cutA s (45 : UInt8))), Value.nilIface])) ∧ CallK Tryd.prog (nat_lit 54) [Value.int IntKind.i64 (atoiN (cutA s (45 : UInt8)))] (Value.bool (rightI (atoiN (cutA s (45 : UInt8))))) ∧ (rightI (atoiN (cutA s (45 : UInt8))) = true → Value.tuple (Array.mk [Value.int IntKind.i64 (atoiN (cutA s (45 : UInt8))), Value.int IntKind.i64 (atoiN (cutA s (45 : UInt8))), Value.bool true]) = Value.tuple (Array.mk [Value.int IntKind.i64 (spLo s), Value.int IntKind.i64 (spHi s), Value.bool (spOk s)])) ∧ (rightI (atoiN (cutA s (45 : UInt8))) = false → Value.tuple (Array.mk [Value.int IntKind.i64 (atoiN (cutA s (45 : UInt8))), Value.int IntKind.i64 (atoiN (cutA s (45 : UInt8))), Value.bool false]) = Value.tuple (Array.mk [Value.int IntKind.i64 (spLo s), Value.int IntKind.i64 (spHi s), Value.bool (spOk s)]))) ∧ (atoiOk (cutA s (45 : UInt8)) = false → CallK Tryd.prog (nat_lit 64) [Value.string (cutA s (45 : UInt8))] (Value.tuple (Array.mk [Value.int IntKind.i64 (atoiN (cutA s (45 : UInt8))), Value.iface (nat_lit 144) (Value.iface (nat_lit 1000005) Value.nilIface)])) ∧ Value.tuple (Array.mk [Value.int IntKind.i64 (atoiN (cutA s (45 : UInt8))), Value.int IntKind.i64 (atoiN (cutA s (45 : UInt8))), Value.bool false]) = Value.tuple (Array.mk [Value.int IntKind.i64 (spLo s), Value.int IntKind.i64 (spHi s), Value.bool (spOk s)])))) (by kernel_rfl) (by
    have ha : (cutA s 45).size ≤ 3000 := Nat.le_trans (cutA_size s 45) hs
    have hb : (cutB s 45).size ≤ 3000 := Nat.le_trans (cutB_size s 45) hs
    have hc := cutDash_w s hs
    unfold spLo spHi spOk spOne
    generalize cutA s 45 = a at *
    generalize cutB s 45 = b at *
    generalize cutF s 45 = f at *
    repeat' (first | exact hc | exact right54_w _ | exact atoi_t a ha (by assumption) | exact atoi_t b hb (by assumption) | exact atoi_f a ha (by assumption) | exact atoi_f b hb (by assumption) | apply And.intro | intro)
    all_goals simp_all)
end Go.Proofs.YtidlganponfccaaDoor

end
section
/- The plain law of sets: in all, and in common. -/
set_option linter.unusedVariables false
set_option linter.unusedSimpArgs false
set_option linter.unusedVariables false
set_option linter.unusedSimpArgs false
namespace Go.Proofs.YtidlganponfccaaDoor
open Go Go.Ideal

theorem or_lt {X Y : Nat} (hX : X < 256) (hY : Y < 256) : X ||| Y < 256 := Nat.or_lt_two_pow (n := 8) hX hY
theorem and_lt {X Y : Nat} (hX : X < 256) : X &&& Y < 256 := Nat.lt_of_le_of_lt Nat.and_le_left hX
theorem or8N {X Y : Nat} (hX : X < 256) (hY : Y < 256) : or8 X Y = ((X ||| Y : Nat) : Int) := by
  unfold or8
  rw [BitVec.toNat_or, bv8 hX, bv8 hY, IntKind.wrap_u8]
  have := or_lt hX hY
  omega
theorem map30 {f : Nat → Int} {i : Nat} (hi : i < 30) : ((List.range 30).map f).getD i 0 = f i := by simp [List.getD, hi]
theorem cats_map {f : Nat → Int} (hf : ∀ i, i < 30 → ∃ X : Nat, f i = X ∧ X < 256) : CatsOK ((List.range 30).map f) := by
  refine ⟨by simp, fun x hx => ?_⟩
  obtain ⟨i, hi, rfl⟩ := List.mem_map.1 hx
  obtain ⟨X, e, hX⟩ := hf i (List.mem_range.1 hi)
  rw [e]; omega
/-- What is in a set that is told byte by byte. -/
theorem hasC_map {f : Nat → Int} (hf : ∀ i, i < 30 → ∃ X : Nat, f i = X ∧ X < 256) {k : Int} (h0 : 0 ≤ k) (h1 : k < 240) {X : Nat} (e : f (k / 8).toNat = X) : hasC ((List.range 30).map f) k = X.testBit (7 - k % 8).toNat := by
  obtain ⟨X', e1, _, e3⟩ := hasC_bit (cats_map hf) h0 h1
  rw [map30 (by omega), e] at e1
  obtain rfl : X = X' := by exact_mod_cast e1
  exact e3
theorem un3_at {a b c : List Int} (ha : CatsOK a) (hb : CatsOK b) (hc : CatsOK c) (i : Nat) : ∃ X Y Z : Nat, X < 256 ∧ Y < 256 ∧ Z < 256 ∧ a.getD i 0 = X ∧ b.getD i 0 = Y ∧ c.getD i 0 = Z ∧ or8 (or8 (or8 0 (a.getD i 0)) (b.getD i 0)) (c.getD i 0) = ((X ||| Y ||| Z : Nat) : Int) ∧ and8 (and8 (a.getD i 0) (b.getD i 0)) (c.getD i 0) = ((X &&& Y &&& Z : Nat) : Int) := by
  obtain ⟨X, e1, h1⟩ := ha.get i
  obtain ⟨Y, e2, h2⟩ := hb.get i
  obtain ⟨Z, e3, h3⟩ := hc.get i
  refine ⟨X, Y, Z, h1, h2, h3, e1, e2, e3, ?_, ?_⟩
  · rw [e1, e2, e3, show (0 : Int) = ((0 : Nat) : Int) from rfl, or8N (by decide) h1, Nat.zero_or, or8N h1 h2, or8N (or_lt h1 h2) h3]
  · rw [e1, e2, e3, and8N h1 h2, and8N (and_lt h1) h3]
theorem un3_ok {a b c : List Int} (ha : CatsOK a) (hb : CatsOK b) (hc : CatsOK c) : CatsOK (un3 a b c) := cats_map fun i _ => by
  obtain ⟨X, Y, Z, h1, h2, h3, _, _, _, e, _⟩ := un3_at ha hb hc i
  exact ⟨_, e, or_lt (or_lt h1 h2) h3⟩
theorem me3_ok {a b c : List Int} (ha : CatsOK a) (hb : CatsOK b) (hc : CatsOK c) : CatsOK (me3 a b c) := cats_map fun i _ => by
  obtain ⟨X, Y, Z, h1, h2, h3, _, _, _, _, e⟩ := un3_at ha hb hc i
  exact ⟨_, e, and_lt (and_lt h1)⟩
theorem has_un3 {a b c : List Int} (ha : CatsOK a) (hb : CatsOK b) (hc : CatsOK c) {k : Int} (h0 : 0 ≤ k) (h1 : k < 240) : hasC (un3 a b c) k = (hasC a k || hasC b k || hasC c k) := by
  obtain ⟨X, Y, Z, g1, g2, g3, q1, q2, q3, e, _⟩ := un3_at ha hb hc (k / 8).toNat
  obtain ⟨X', u1, _, u3⟩ := hasC_bit ha h0 h1
  obtain ⟨Y', v1, _, v3⟩ := hasC_bit hb h0 h1
  obtain ⟨Z', w1, _, w3⟩ := hasC_bit hc h0 h1
  obtain rfl : X = X' := by exact_mod_cast q1.symm.trans u1
  obtain rfl : Y = Y' := by exact_mod_cast q2.symm.trans v1
  obtain rfl : Z = Z' := by exact_mod_cast q3.symm.trans w1
  rw [u3, v3, w3, ← Nat.testBit_or, ← Nat.testBit_or]
  exact hasC_map (fun i _ => by
    obtain ⟨X, Y, Z, h1, h2, h3, _, _, _, e, _⟩ := un3_at ha hb hc i
    exact ⟨_, e, or_lt (or_lt h1 h2) h3⟩) h0 h1 e
theorem has_me3 {a b c : List Int} (ha : CatsOK a) (hb : CatsOK b) (hc : CatsOK c) {k : Int} (h0 : 0 ≤ k) (h1 : k < 240) : hasC (me3 a b c) k = (hasC a k && hasC b k && hasC c k) := by
  obtain ⟨X, Y, Z, g1, g2, g3, q1, q2, q3, _, e⟩ := un3_at ha hb hc (k / 8).toNat
  obtain ⟨X', u1, _, u3⟩ := hasC_bit ha h0 h1
  obtain ⟨Y', v1, _, v3⟩ := hasC_bit hb h0 h1
  obtain ⟨Z', w1, _, w3⟩ := hasC_bit hc h0 h1
  obtain rfl : X = X' := by exact_mod_cast q1.symm.trans u1
  obtain rfl : Y = Y' := by exact_mod_cast q2.symm.trans v1
  obtain rfl : Z = Z' := by exact_mod_cast q3.symm.trans w1
  rw [u3, v3, w3, ← Nat.testBit_and, ← Nat.testBit_and]
  exact hasC_map (fun i _ => by
    obtain ⟨X, Y, Z, h1, h2, h3, _, _, _, _, e⟩ := un3_at ha hb hc i
    exact ⟨_, e, and_lt (and_lt h1)⟩) h0 h1 e
theorem me3_in {a b c : List Int} (ha : CatsOK a) (hb : CatsOK b) (hc : CatsOK c) : withinC (me3 a b c) a = true := (withinC_iff (me3_ok ha hb hc) ha).2 fun k h0 h1 h => by
  rw [has_me3 ha hb hc h0 h1, Bool.and_eq_true, Bool.and_eq_true] at h; exact h.1.1
theorem in_un3 {a b c : List Int} (ha : CatsOK a) (hb : CatsOK b) (hc : CatsOK c) : withinC a (un3 a b c) = true := (withinC_iff ha (un3_ok ha hb hc)).2 fun k h0 h1 h => by
  rw [has_un3 ha hb hc h0 h1, h]; rfl
end Go.Proofs.YtidlganponfccaaDoor

end
section
/- What the functions of sets answer: how many, the greatest, of some; two of them in all, in common; the document's. -/
set_option linter.unusedVariables false
set_option linter.unusedSimpArgs false
set_option maxRecDepth 100000
namespace Go.Proofs.YtidlganponfccaaDoor
open Go Go.Ideal
set_option maxRecDepth 100000
noncomputable def onesOK (x : Nat) : Bool := match (callF Tryd.prog (execF Tryd.prog 20) 56 [Value.int .u8 (x : Nat)] (Heap.empty Tryd.prog.globals.size)).map (·.1) with
  | some (Value.int .i64 n) => decide (n = ((popN x : Nat) : Int))
  | _ => false
theorem ones_all : (List.range 256).all onesOK = true := by kernel_rfl
theorem ones_w (x : Int) (h0 : 0 ≤ x) (h1 : x < 256) : CallK Tryd.prog 56 [.int .u8 x] (.int .i64 (popN x.toNat : Nat)) := by
  obtain ⟨n, rfl⟩ := Int.eq_ofNat_of_zero_le h0
  refine CallK.runF progOK 20 rfl rfl rfl ?_
  have := List.all_eq_true.1 ones_all n (List.mem_range.2 (by omega))
  unfold onesOK at this
  split at this
  · rename_i v hv
    rw [hv, of_decide_eq_true this]
    rfl
  · cases this
theorem cats_partv (c : List Int) (i : Nat) (h : i < 30) : (Ask.partv 5 (catsL c) (i * 1) (.int .u8 (c.getD i 0))).holds Tryd.prog := by
  have e1 : isAggI Tryd.prog 5 = some false := by kernel_rfl
  have e2 : sizeI Tryd.prog 5 = some 1 := by kernel_rfl
  show partI Tryd.prog 5 (catsL c) (i * 1) = _
  unfold partI
  rw [e1, e2, Nat.mul_one, catsL_map]
  simp [h]
theorem part_all (d : List Int) : (Ask.part (catsL d) 0 30 (catsL d)).holds Tryd.prog := ⟨Nat.le_refl 30, rfl⟩
theorem add1_no {c : List Int} {k : Int} (h : rightI k = false) : add1 c k = c := by unfold add1; rw [h]
theorem sub1_no {c : List Int} {k : Int} (h : rightI k = false) : sub1 c k = c := by unfold sub1; rw [h]
theorem add1_has {c : List Int} {k : Int} (hc : CatsOK c) (h : hasC c k = true) : add1 c k = c := cats_ext (add1_ok hc k) hc fun j j0 j1 => by
  rw [has_add1 hc k j0 j1]
  by_cases e : j = k
  · subst e; rw [h]; rfl
  · rw [show (j == k) = false from beq_eq_false_iff_ne.2 e, Bool.or_false]
theorem sub1_has {c : List Int} {k : Int} (hc : CatsOK c) (h : hasC c k = false) : sub1 c k = c := cats_ext (sub1_ok hc k) hc fun j j0 j1 => by
  rw [has_sub1 hc k j0 j1]
  by_cases e : j = k
  · subst e; rw [h]; rfl
  · rw [show (j == k) = false from beq_eq_false_iff_ne.2 e, Bool.not_false, Bool.and_true]
theorem put_add : ∀ (X : Fin 256) (m : Fin 8), X.val.testBit m.val = false → IntKind.wrap .u8 ((X.val : Int) + IntKind.wrap .u8 (1 * 2 ^ m.val)) = orC X.val ((2 ^ m.val : Nat) : Int) := by decide +kernel
theorem put_sub : ∀ (X : Fin 256) (m : Fin 8), X.val.testBit m.val = true → IntKind.wrap .u8 ((X.val : Int) - IntKind.wrap .u8 (1 * 2 ^ m.val)) = offI X.val ((2 ^ m.val : Nat) : Int) := by decide +kernel
theorem count_w (c : List Int) (hc : CatsOK c) : CallK Tryd.prog 24 [catsV c] (.int .i64 (countC c : Nat)) := CallK.via progOK (pfs []) [] 100 (Adv.loop (9 : Nat) (fun (k : Nat) => [((7 : Nat), Value.int IntKind.i64 (↑k : Int)), ((3 : Nat), Value.int IntKind.i64 (↑(cntN c k) : Int))]) ((fun (h : Heap) (x : Nat) => h) (Heap.mk (nat_lit 9) (Trie.node none Trie.leaf (Trie.node none (Trie.node none (Trie.node (some (Blk.cells (catsL c) (nat_lit 23) Mode.fix)) Trie.leaf Trie.leaf) Trie.leaf) Trie.leaf)))) (fun (i k : Nat) => i + k = (30 : Nat)) (30 : Nat) (0 : Nat) fun (i9 s9 : Nat) (j9 : Nat → Value) => Adv.split (11 : Nat) (Adv.chk (16 : Nat) (some (Value.int IntKind.u8 (List.getD c s9 (0 : Int)))) (Adv.pur (20 : Nat) (Value.int IntKind.i64 (↑(popN (Int.toNat (List.getD c s9 (0 : Int)))) : Int)) Adv.nil)) Adv.nil) (by kernel_rfl) (by kernel_rfl) (p := ((30 : Nat) + (0 : Nat) = (30 : Nat) ∧ (Value.int IntKind.i64 (0 : Int) = Value.int IntKind.i64 (0 : Int) ∧ Value.int IntKind.i64 (0 : Int) = Value.int IntKind.i64 (0 : Int)) ∧ Heap.mk (nat_lit 9) (Trie.node none Trie.leaf (Trie.node none (Trie.node none (Trie.node (some (Blk.cells (catsL c) (nat_lit 23) Mode.fix)) Trie.leaf Trie.leaf) Trie.leaf) Trie.leaf)) = Heap.mk (nat_lit 9) (Trie.node none Trie.leaf (Trie.node none (Trie.node none (Trie.node (some (Blk.cells (catsL c) (nat_lit 23) Mode.fix)) Trie.leaf Trie.leaf) Trie.leaf) Trie.leaf))) ∧ ∀ (i9 s9 : Nat) (j9 : Nat → Value), i9 + s9 = (30 : Nat) → (decide ((↑s9 : Int) < (30 : Int)) = true → ((0 : Int) ≤ (↑s9 : Int) ∧ (↑s9 : Int) < (30 : Int) ∧ Ask.holds Tryd.prog (Ask.partv (nat_lit 5) (catsL c) (Int.toNat (↑s9 : Int) * nat_lit 1) (Value.int IntKind.u8 (List.getD c s9 (0 : Int))))) ∧ CallK Tryd.prog (nat_lit 56) [Value.int IntKind.u8 (List.getD c s9 (0 : Int))] (Value.int IntKind.i64 (↑(popN (Int.toNat (List.getD c s9 (0 : Int)))) : Int)) ∧ ∃ (i9' : Nat), ∃ (s9' : Nat), i9' < i9 ∧ i9' + s9' = (30 : Nat) ∧ (Value.int IntKind.i64 (IntKind.wrap IntKind.i64 ((↑s9 : Int) + (1 : Int))) = Value.int IntKind.i64 (↑s9' : Int) ∧ Value.int IntKind.i64 (IntKind.wrap IntKind.i64 ((↑(cntN c s9) : Int) + (↑(popN (Int.toNat (List.getD c s9 (0 : Int)))) : Int))) = Value.int IntKind.i64 (↑(cntN c s9') : Int)) ∧ (some (Blk.cells (catsL c) (nat_lit 23) Mode.fix) = some (Blk.cells (catsL c) (nat_lit 23) Mode.fix) ∧ True) ∧ true = true ∧ true = true ∧ True) ∧ (decide ((↑s9 : Int) < (30 : Int)) = false → Value.int IntKind.i64 (↑(cntN c s9) : Int) = Value.int IntKind.i64 (↑(countC c) : Int))) (by kernel_rfl) (by
    refine ⟨⟨by omega, ⟨rfl, rfl⟩, rfl⟩, fun i k j q1 => ⟨fun h1 => ?_, fun h1 => ?_⟩⟩
    · have hk : k < 30 := by have := of_decide_eq_true h1; omega
      obtain ⟨X, e, hX⟩ := hc.get k
      have hp := popN_le (c.getD k 0).toNat
      have hn := cntN_le c k
      refine ⟨⟨by omega, by omega, cats_partv c k hk⟩, ones_w _ (by omega) (by omega), i - 1, k + 1, by omega, by omega, ⟨wrap_next k (by omega), ?_⟩, ⟨rfl, trivial⟩, rfl, rfl, trivial⟩
      rw [wrap_in (by omega) (by omega)]
      rfl
    · have hk : k = 30 := by have := of_decide_eq_false h1; omega
      subst hk
      rfl)
def mostN (c : List Int) : Nat → Int
  | 0 => -1
  | n + 1 => if hasC c n = true then n else mostN c n
theorem most_w (c : List Int) (hc : CatsOK c) : CallK Tryd.prog 25 [catsV c] (.int .i64 (mostN c 240)) := CallK.via progOK (pfs []) [] 100 (Adv.loop (6 : Nat) (fun (n : Nat) => [((3 : Nat), Value.int IntKind.i64 ((↑n : Int) - (1 : Int)))]) ((fun (h : Heap) (x : Nat) => h) (Heap.mk (nat_lit 9) (Trie.node none Trie.leaf (Trie.node none (Trie.node none (Trie.node (some (Blk.cells (catsL c) (nat_lit 23) Mode.fix)) Trie.leaf Trie.leaf) Trie.leaf) Trie.leaf)))) (fun (i n : Nat) => i = n ∧ n ≤ (240 : Nat) ∧ mostN c n = mostN c (240 : Nat)) (240 : Nat) (240 : Nat) fun (i6 s6 : Nat) (j6 : Nat → Value) => Adv.split (10 : Nat) (Adv.purs (16 : Nat) (hasC c ((↑s6 : Int) - (1 : Int))) Adv.nil Adv.nil) Adv.nil) (by kernel_rfl) (by kernel_rfl) (p := (((240 : Nat) = (240 : Nat) ∧ (240 : Nat) ≤ (240 : Nat) ∧ mostN c (240 : Nat) = mostN c (240 : Nat)) ∧ Value.int IntKind.i64 (239 : Int) = Value.int IntKind.i64 (239 : Int) ∧ Heap.mk (nat_lit 9) (Trie.node none Trie.leaf (Trie.node none (Trie.node none (Trie.node (some (Blk.cells (catsL c) (nat_lit 23) Mode.fix)) Trie.leaf Trie.leaf) Trie.leaf) Trie.leaf)) = Heap.mk (nat_lit 9) (Trie.node none Trie.leaf (Trie.node none (Trie.node none (Trie.node (some (Blk.cells (catsL c) (nat_lit 23) Mode.fix)) Trie.leaf Trie.leaf) Trie.leaf) Trie.leaf))) ∧ ∀ (i6 s6 : Nat) (j6 : Nat → Value), i6 = s6 ∧ s6 ≤ (240 : Nat) ∧ mostN c s6 = mostN c (240 : Nat) → (decide ((↑s6 : Int) - (1 : Int) ≥ (0 : Int)) = true → CallK Tryd.prog (nat_lit 20) [Value.agg (Array.mk (catsL c)), Value.int IntKind.i64 ((↑s6 : Int) - (1 : Int))] (Value.bool (hasC c ((↑s6 : Int) - (1 : Int)))) ∧ (hasC c ((↑s6 : Int) - (1 : Int)) = true → Value.int IntKind.i64 ((↑s6 : Int) - (1 : Int)) = Value.int IntKind.i64 (mostN c (240 : Nat))) ∧ (hasC c ((↑s6 : Int) - (1 : Int)) = false → ∃ (i6' : Nat), ∃ (s6' : Nat), i6' < i6 ∧ (i6' = s6' ∧ s6' ≤ (240 : Nat) ∧ mostN c s6' = mostN c (240 : Nat)) ∧ Value.int IntKind.i64 (IntKind.wrap IntKind.i64 ((↑s6 : Int) - (1 : Int) - (1 : Int))) = Value.int IntKind.i64 ((↑s6' : Int) - (1 : Int)) ∧ (some (Blk.cells (catsL c) (nat_lit 23) Mode.fix) = some (Blk.cells (catsL c) (nat_lit 23) Mode.fix) ∧ True) ∧ true = true ∧ true = true ∧ True)) ∧ (decide ((↑s6 : Int) - (1 : Int) ≥ (0 : Int)) = false → Value.int IntKind.i64 (-1 : Int) = Value.int IntKind.i64 (mostN c (240 : Nat)))) (by kernel_rfl) (by
    refine ⟨⟨⟨rfl, Nat.le_refl _, rfl⟩, rfl, rfl⟩, fun i s j ⟨q1, q2, q3⟩ => ⟨fun h1 => ?_, fun h1 => ?_⟩⟩
    · have := of_decide_eq_true h1
      obtain ⟨m, rfl⟩ : ∃ m, s = m + 1 := ⟨s - 1, by omega⟩
      have e : (((m + 1 : Nat) : Int) - 1) = (m : Int) := by omega
      rw [e]
      refine ⟨hasp_w _ _ hc, fun h2 => ?_, fun h2 => ⟨i - 1, m, by omega, ⟨by omega, by omega, ?_⟩, congrArg _ (wrap_in (by omega) (by omega)), ⟨rfl, trivial⟩, rfl, rfl, trivial⟩⟩
      · rw [← q3, mostN, if_pos h2]
      · rw [← q3, mostN, if_neg (by rw [h2]; decide)]
    · have := of_decide_eq_false h1
      obtain rfl : s = 0 := by omega
      rw [← q3]
      rfl)
def zeroC : List Int := List.replicate 30 0
def zeroV : Value := .agg (catsL zeroC).toArray
theorem with0_w (l : List Int) (hl : l.length ≤ 1000) : CallK Tryd.prog 18 [.agg (Array.mk [.int .u8 0, .int .u8 0, .int .u8 0, .int .u8 0, .int .u8 0, .int .u8 0, .int .u8 0, .int .u8 0, .int .u8 0, .int .u8 0, .int .u8 0, .int .u8 0, .int .u8 0, .int .u8 0, .int .u8 0, .int .u8 0, .int .u8 0, .int .u8 0, .int .u8 0, .int .u8 0, .int .u8 0, .int .u8 0, .int .u8 0, .int .u8 0, .int .u8 0, .int .u8 0, .int .u8 0, .int .u8 0, .int .u8 0, .int .u8 0]), izV l] (catsV (withC zeroC l)) := with_w zeroC l hl
def ofC (l : List Int) : List Int := if l.all rightI = true then withC zeroC l else zeroC
theorem of_w (l : List Int) (hl : l.length ≤ 1000) : CallK Tryd.prog 16 [izV l] (.tuple (Array.mk [catsV (ofC l), .bool (l.all rightI)])) := CallK.via progOK (pfs [54, 18]) [] 100 (Adv.loop (8 : Nat) (fun (k : Nat) => [((8 : Nat), Value.int IntKind.i64 (↑k : Int))]) ((fun (h : Heap) (x : Nat) => h) (Heap.mk (nat_lit 9) (Trie.node none Trie.leaf (Trie.node none (Trie.node none (Trie.node (some (Blk.cells [Value.int IntKind.u8 (0 : Int), Value.int IntKind.u8 (0 : Int), Value.int IntKind.u8 (0 : Int), Value.int IntKind.u8 (0 : Int), Value.int IntKind.u8 (0 : Int), Value.int IntKind.u8 (0 : Int), Value.int IntKind.u8 (0 : Int), Value.int IntKind.u8 (0 : Int), Value.int IntKind.u8 (0 : Int), Value.int IntKind.u8 (0 : Int), Value.int IntKind.u8 (0 : Int), Value.int IntKind.u8 (0 : Int), Value.int IntKind.u8 (0 : Int), Value.int IntKind.u8 (0 : Int), Value.int IntKind.u8 (0 : Int), Value.int IntKind.u8 (0 : Int), Value.int IntKind.u8 (0 : Int), Value.int IntKind.u8 (0 : Int), Value.int IntKind.u8 (0 : Int), Value.int IntKind.u8 (0 : Int), Value.int IntKind.u8 (0 : Int), Value.int IntKind.u8 (0 : Int), Value.int IntKind.u8 (0 : Int), Value.int IntKind.u8 (0 : Int), Value.int IntKind.u8 (0 : Int), Value.int IntKind.u8 (0 : Int), Value.int IntKind.u8 (0 : Int), Value.int IntKind.u8 (0 : Int), Value.int IntKind.u8 (0 : Int), Value.int IntKind.u8 (0 : Int)] (nat_lit 23) Mode.fix)) Trie.leaf Trie.leaf) Trie.leaf) Trie.leaf)))) (fun (i k : Nat) => i + k = List.length l ∧ ∀ (j : Nat), j < k → rightI (List.getD l j (0 : Int)) = true) (List.length l) (0 : Nat) fun (i8 s8 : Nat) (j8 : Nat → Value) => Adv.split (10 : Nat) (Adv.chk (15 : Nat) none (Adv.chk (16 : Nat) (some (Value.int IntKind.i64 (List.getD l s8 (0 : Int)))) (Adv.purs (20 : Nat) (rightI (List.getD l s8 (0 : Int))) Adv.nil Adv.nil))) (Adv.pur (16 : Nat) (Value.agg (Array.mk (catsL (withC zeroC l)))) Adv.nil)) (by kernel_rfl) (by kernel_rfl) (p := ((List.length l + (0 : Nat) = List.length l ∧ ∀ (j : Nat), j < (0 : Nat) → rightI (List.getD l j (0 : Int)) = true) ∧ Value.int IntKind.i64 (0 : Int) = Value.int IntKind.i64 (0 : Int) ∧ Heap.mk (nat_lit 9) (Trie.node none Trie.leaf (Trie.node none (Trie.node none (Trie.node (some (Blk.cells [Value.int IntKind.u8 (0 : Int), Value.int IntKind.u8 (0 : Int), Value.int IntKind.u8 (0 : Int), Value.int IntKind.u8 (0 : Int), Value.int IntKind.u8 (0 : Int), Value.int IntKind.u8 (0 : Int), Value.int IntKind.u8 (0 : Int), Value.int IntKind.u8 (0 : Int), Value.int IntKind.u8 (0 : Int), Value.int IntKind.u8 (0 : Int), Value.int IntKind.u8 (0 : Int), Value.int IntKind.u8 (0 : Int), Value.int IntKind.u8 (0 : Int), Value.int IntKind.u8 (0 : Int), Value.int IntKind.u8 (0 : Int), Value.int IntKind.u8 (0 : Int), Value.int IntKind.u8 (0 : Int), Value.int IntKind.u8 (0 : Int), Value.int IntKind.u8 (0 : Int), Value.int IntKind.u8 (0 : Int), Value.int IntKind.u8 (0 : Int), Value.int IntKind.u8 (0 : Int), Value.int IntKind.u8 (0 : Int), Value.int IntKind.u8 (0 : Int), Value.int IntKind.u8 (0 : Int), Value.int IntKind.u8 (0 : Int), Value.int IntKind.u8 (0 : Int), Value.int IntKind.u8 (0 : Int), Value.int IntKind.u8 (0 : Int), Value.int IntKind.u8 (0 : Int)] (nat_lit 23) Mode.fix)) Trie.leaf Trie.leaf) Trie.leaf) Trie.leaf)) = Heap.mk (nat_lit 9) (Trie.node none Trie.leaf (Trie.node none (Trie.node none (Trie.node (some (Blk.cells [Value.int IntKind.u8 (0 : Int), Value.int IntKind.u8 (0 : Int), Value.int IntKind.u8 (0 : Int), Value.int IntKind.u8 (0 : Int), Value.int IntKind.u8 (0 : Int), Value.int IntKind.u8 (0 : Int), Value.int IntKind.u8 (0 : Int), Value.int IntKind.u8 (0 : Int), Value.int IntKind.u8 (0 : Int), Value.int IntKind.u8 (0 : Int), Value.int IntKind.u8 (0 : Int), Value.int IntKind.u8 (0 : Int), Value.int IntKind.u8 (0 : Int), Value.int IntKind.u8 (0 : Int), Value.int IntKind.u8 (0 : Int), Value.int IntKind.u8 (0 : Int), Value.int IntKind.u8 (0 : Int), Value.int IntKind.u8 (0 : Int), Value.int IntKind.u8 (0 : Int), Value.int IntKind.u8 (0 : Int), Value.int IntKind.u8 (0 : Int), Value.int IntKind.u8 (0 : Int), Value.int IntKind.u8 (0 : Int), Value.int IntKind.u8 (0 : Int), Value.int IntKind.u8 (0 : Int), Value.int IntKind.u8 (0 : Int), Value.int IntKind.u8 (0 : Int), Value.int IntKind.u8 (0 : Int), Value.int IntKind.u8 (0 : Int), Value.int IntKind.u8 (0 : Int)] (nat_lit 23) Mode.fix)) Trie.leaf Trie.leaf) Trie.leaf) Trie.leaf))) ∧ ∀ (i8 s8 : Nat) (j8 : Nat → Value), (i8 + s8 = List.length l ∧ ∀ (j : Nat), j < s8 → rightI (List.getD l j (0 : Int)) = true) → (decide ((↑s8 : Int) < (↑(List.length l) : Int)) = true → ((0 : Int) ≤ (↑s8 : Int) ∧ (↑s8 : Int) < (↑(List.length l) : Int)) ∧ Ask.holds Tryd.prog (Ask.part (Array.toList (Array.mk (izL l))) (Int.toNat (↑(Int.toNat (↑s8 : Int) * nat_lit 1) : Int)) (nat_lit 1) [Value.int IntKind.i64 (List.getD l s8 (0 : Int))]) ∧ CallK Tryd.prog (nat_lit 54) [Value.int IntKind.i64 (List.getD l s8 (0 : Int))] (Value.bool (rightI (List.getD l s8 (0 : Int)))) ∧ (rightI (List.getD l s8 (0 : Int)) = true → ∃ (i8' : Nat), ∃ (s8' : Nat), i8' < i8 ∧ (i8' + s8' = List.length l ∧ ∀ (j : Nat), j < s8' → rightI (List.getD l j (0 : Int)) = true) ∧ Value.int IntKind.i64 (IntKind.wrap IntKind.i64 ((↑s8 : Int) + (1 : Int))) = Value.int IntKind.i64 (↑s8' : Int) ∧ (some (Blk.cells [Value.int IntKind.u8 (0 : Int), Value.int IntKind.u8 (0 : Int), Value.int IntKind.u8 (0 : Int), Value.int IntKind.u8 (0 : Int), Value.int IntKind.u8 (0 : Int), Value.int IntKind.u8 (0 : Int), Value.int IntKind.u8 (0 : Int), Value.int IntKind.u8 (0 : Int), Value.int IntKind.u8 (0 : Int), Value.int IntKind.u8 (0 : Int), Value.int IntKind.u8 (0 : Int), Value.int IntKind.u8 (0 : Int), Value.int IntKind.u8 (0 : Int), Value.int IntKind.u8 (0 : Int), Value.int IntKind.u8 (0 : Int), Value.int IntKind.u8 (0 : Int), Value.int IntKind.u8 (0 : Int), Value.int IntKind.u8 (0 : Int), Value.int IntKind.u8 (0 : Int), Value.int IntKind.u8 (0 : Int), Value.int IntKind.u8 (0 : Int), Value.int IntKind.u8 (0 : Int), Value.int IntKind.u8 (0 : Int), Value.int IntKind.u8 (0 : Int), Value.int IntKind.u8 (0 : Int), Value.int IntKind.u8 (0 : Int), Value.int IntKind.u8 (0 : Int), Value.int IntKind.u8 (0 : Int), Value.int IntKind.u8 (0 : Int), Value.int IntKind.u8 (0 : Int)] (nat_lit 23) Mode.fix) = some (Blk.cells [Value.int IntKind.u8 (0 : Int), Value.int IntKind.u8 (0 : Int), Value.int IntKind.u8 (0 : Int), Value.int IntKind.u8 (0 : Int), Value.int IntKind.u8 (0 : Int), Value.int IntKind.u8 (0 : Int), Value.int IntKind.u8 (0 : Int), Value.int IntKind.u8 (0 : Int), Value.int IntKind.u8 (0 : Int), Value.int IntKind.u8 (0 : Int), Value.int IntKind.u8 (0 : Int), Value.int IntKind.u8 (0 : Int), Value.int IntKind.u8 (0 : Int), Value.int IntKind.u8 (0 : Int), Value.int IntKind.u8 (0 : Int), Value.int IntKind.u8 (0 : Int), Value.int IntKind.u8 (0 : Int), Value.int IntKind.u8 (0 : Int), Value.int IntKind.u8 (0 : Int), Value.int IntKind.u8 (0 : Int), Value.int IntKind.u8 (0 : Int), Value.int IntKind.u8 (0 : Int), Value.int IntKind.u8 (0 : Int), Value.int IntKind.u8 (0 : Int), Value.int IntKind.u8 (0 : Int), Value.int IntKind.u8 (0 : Int), Value.int IntKind.u8 (0 : Int), Value.int IntKind.u8 (0 : Int), Value.int IntKind.u8 (0 : Int), Value.int IntKind.u8 (0 : Int)] (nat_lit 23) Mode.fix) ∧ True) ∧ true = true ∧ true = true ∧ True) ∧ (rightI (List.getD l s8 (0 : Int)) = false → Value.tuple (Array.mk [Value.agg (Array.mk [Value.int IntKind.u8 (0 : Int), Value.int IntKind.u8 (0 : Int), Value.int IntKind.u8 (0 : Int), Value.int IntKind.u8 (0 : Int), Value.int IntKind.u8 (0 : Int), Value.int IntKind.u8 (0 : Int), Value.int IntKind.u8 (0 : Int), Value.int IntKind.u8 (0 : Int), Value.int IntKind.u8 (0 : Int), Value.int IntKind.u8 (0 : Int), Value.int IntKind.u8 (0 : Int), Value.int IntKind.u8 (0 : Int), Value.int IntKind.u8 (0 : Int), Value.int IntKind.u8 (0 : Int), Value.int IntKind.u8 (0 : Int), Value.int IntKind.u8 (0 : Int), Value.int IntKind.u8 (0 : Int), Value.int IntKind.u8 (0 : Int), Value.int IntKind.u8 (0 : Int), Value.int IntKind.u8 (0 : Int), Value.int IntKind.u8 (0 : Int), Value.int IntKind.u8 (0 : Int), Value.int IntKind.u8 (0 : Int), Value.int IntKind.u8 (0 : Int), Value.int IntKind.u8 (0 : Int), Value.int IntKind.u8 (0 : Int), Value.int IntKind.u8 (0 : Int), Value.int IntKind.u8 (0 : Int), Value.int IntKind.u8 (0 : Int), Value.int IntKind.u8 (0 : Int)]), Value.bool false]) = Value.tuple (Array.mk [catsV (ofC l), Value.bool (List.all l rightI)]))) ∧ (decide ((↑s8 : Int) < (↑(List.length l) : Int)) = false → CallK Tryd.prog (nat_lit 18) [Value.agg (Array.mk [Value.int IntKind.u8 (0 : Int), Value.int IntKind.u8 (0 : Int), Value.int IntKind.u8 (0 : Int), Value.int IntKind.u8 (0 : Int), Value.int IntKind.u8 (0 : Int), Value.int IntKind.u8 (0 : Int), Value.int IntKind.u8 (0 : Int), Value.int IntKind.u8 (0 : Int), Value.int IntKind.u8 (0 : Int), Value.int IntKind.u8 (0 : Int), Value.int IntKind.u8 (0 : Int), Value.int IntKind.u8 (0 : Int), Value.int IntKind.u8 (0 : Int), Value.int IntKind.u8 (0 : Int), Value.int IntKind.u8 (0 : Int), Value.int IntKind.u8 (0 : Int), Value.int IntKind.u8 (0 : Int), Value.int IntKind.u8 (0 : Int), Value.int IntKind.u8 (0 : Int), Value.int IntKind.u8 (0 : Int), Value.int IntKind.u8 (0 : Int), Value.int IntKind.u8 (0 : Int), Value.int IntKind.u8 (0 : Int), Value.int IntKind.u8 (0 : Int), Value.int IntKind.u8 (0 : Int), Value.int IntKind.u8 (0 : Int), Value.int IntKind.u8 (0 : Int), Value.int IntKind.u8 (0 : Int), Value.int IntKind.u8 (0 : Int), Value.int IntKind.u8 (0 : Int)]), Value.iface (nat_lit 1000000) (Value.tuple (Array.mk [Value.int IntKind.i64 (↑(List.length l) : Int), Value.agg (Array.mk (izL l))]))] (Value.agg (Array.mk (catsL (withC zeroC l)))) ∧ Value.tuple (Array.mk [Value.agg (Array.mk (catsL (withC zeroC l))), Value.bool true]) = Value.tuple (Array.mk [catsV (ofC l), Value.bool (List.all l rightI)]))) (by kernel_rfl) (by
    refine ⟨⟨⟨by omega, fun j hj => by omega⟩, rfl, rfl⟩, fun i k j ⟨q1, q2⟩ => ⟨fun h1 => ?_, fun h1 => ?_⟩⟩
    · have hk : k < l.length := by have := of_decide_eq_true h1; omega
      refine ⟨⟨by omega, by omega⟩, iz_part hk rfl, right54_w _, fun h2 => ⟨i - 1, k + 1, by omega, ⟨by omega, fun j hj => ?_⟩, wrap_next k (by omega), ⟨rfl, trivial⟩, rfl, rfl, trivial⟩, fun h2 => ?_⟩
      · rcases Nat.lt_or_ge j k with h | h
        · exact q2 j h
        · obtain rfl : j = k := by omega
          exact h2
      · have e : l.all rightI = false := List.all_eq_false.2 ⟨l.getD k 0, getD_mem hk, by rw [h2]; decide⟩
        unfold ofC
        rw [e]
        rfl
    · have hk : k = l.length := by have := of_decide_eq_false h1; omega
      have e : l.all rightI = true := List.all_eq_true.2 fun x hx => by
        obtain ⟨n, hn, rfl⟩ := List.getElem_of_mem hx
        have := q2 n (by omega)
        rwa [List.getD, List.getElem?_eq_getElem hn, Option.getD_some] at this
      refine ⟨with0_w l hl, ?_⟩
      unfold ofC
      rw [e]
      rfl)
theorem put1_w (c : List Int) (k : Int) (hc : CatsOK c) : CallK Tryd.prog 15 [catsV c, .int .i64 k, .bool true] (catsV (add1 c k)) := CallK.via progOK (pfs [21]) [] 100 (Adv.split (6 : Nat) Adv.nil (Adv.split (9 : Nat) Adv.nil (Adv.purs (14 : Nat) (hasC c k) Adv.nil (Adv.chk (27 : Nat) none (Adv.chk (28 : Nat) (some (Value.int IntKind.u8 (List.getD c (Int.toNat (IntKind.wrap IntKind.i64 (Int.tdiv k (8 : Int)))) (0 : Int)))) (Adv.chk (32 : Nat) none (Adv.chk (34 : Nat) none (Adv.chk (35 : Nat) none (Adv.chk (37 : Nat) (some (Value.agg (Array.mk (catsL (setC c (Int.toNat (IntKind.wrap IntKind.i64 (Int.tdiv k (8 : Int)))) (IntKind.wrap IntKind.u8 (List.getD c (Int.toNat (IntKind.wrap IntKind.i64 (Int.tdiv k (8 : Int)))) (0 : Int) + IntKind.wrap IntKind.u8 ((1 : Int) * (2 : Int) ^ min (Int.toNat (IntKind.wrap IntKind.i64 ((7 : Int) - Int.tmod k (8 : Int)))) (IntKind.bits IntKind.u8))))))))) Adv.nil))))))))) (by kernel_rfl) (by kernel_rfl) (p := (decide (k < (0 : Int)) = true → Value.agg (Array.mk (catsL c)) = catsV (add1 c k)) ∧ (decide (k < (0 : Int)) = false → (decide (k > (239 : Int)) = true → Value.agg (Array.mk (catsL c)) = catsV (add1 c k)) ∧ (decide (k > (239 : Int)) = false → CallK Tryd.prog (nat_lit 21) [Value.agg (Array.mk (catsL c)), Value.int IntKind.i64 k] (Value.bool (hasC c k)) ∧ (hasC c k = true → Value.agg (Array.mk (catsL c)) = catsV (add1 c k)) ∧ (hasC c k = false → ((0 : Int) ≤ IntKind.wrap IntKind.i64 (Int.tdiv k (8 : Int)) ∧ IntKind.wrap IntKind.i64 (Int.tdiv k (8 : Int)) < (30 : Int)) ∧ Ask.holds Tryd.prog (Ask.part (catsL c) (nat_lit 0 + Int.toNat (IntKind.wrap IntKind.i64 (Int.tdiv k (8 : Int))) * nat_lit 1) (nat_lit 1) [Value.int IntKind.u8 (List.getD c (Int.toNat (IntKind.wrap IntKind.i64 (Int.tdiv k (8 : Int)))) (0 : Int))]) ∧ (0 : Int) ≤ IntKind.wrap IntKind.i64 ((7 : Int) - Int.tmod k (8 : Int)) ∧ ((0 : Int) ≤ IntKind.wrap IntKind.i64 (Int.tdiv k (8 : Int)) ∧ IntKind.wrap IntKind.i64 (Int.tdiv k (8 : Int)) < (30 : Int)) ∧ nat_lit 0 + Int.toNat (IntKind.wrap IntKind.i64 (Int.tdiv k (8 : Int))) * nat_lit 1 + nat_lit 1 ≤ nat_lit 30 ∧ Ask.holds Tryd.prog (Ask.part (splice (catsL c) (nat_lit 0 + Int.toNat (IntKind.wrap IntKind.i64 (Int.tdiv k (8 : Int))) * nat_lit 1) (Value.cellList (Value.int IntKind.u8 (IntKind.wrap IntKind.u8 (List.getD c (Int.toNat (IntKind.wrap IntKind.i64 (Int.tdiv k (8 : Int)))) (0 : Int) + IntKind.wrap IntKind.u8 ((1 : Int) * (2 : Int) ^ min (Int.toNat (IntKind.wrap IntKind.i64 ((7 : Int) - Int.tmod k (8 : Int)))) (IntKind.bits IntKind.u8))))))) (nat_lit 0) (nat_lit 30) (catsL (setC c (Int.toNat (IntKind.wrap IntKind.i64 (Int.tdiv k (8 : Int)))) (IntKind.wrap IntKind.u8 (List.getD c (Int.toNat (IntKind.wrap IntKind.i64 (Int.tdiv k (8 : Int)))) (0 : Int) + IntKind.wrap IntKind.u8 ((1 : Int) * (2 : Int) ^ min (Int.toNat (IntKind.wrap IntKind.i64 ((7 : Int) - Int.tmod k (8 : Int)))) (IntKind.bits IntKind.u8))))))) ∧ Value.agg (Array.mk (catsL (setC c (Int.toNat (IntKind.wrap IntKind.i64 (Int.tdiv k (8 : Int)))) (IntKind.wrap IntKind.u8 (List.getD c (Int.toNat (IntKind.wrap IntKind.i64 (Int.tdiv k (8 : Int)))) (0 : Int) + IntKind.wrap IntKind.u8 ((1 : Int) * (2 : Int) ^ min (Int.toNat (IntKind.wrap IntKind.i64 ((7 : Int) - Int.tmod k (8 : Int)))) (IntKind.bits IntKind.u8))))))) = catsV (add1 c k))))) (by kernel_rfl) (by
    refine ⟨fun h1 => ?_, fun h1 => ⟨fun h2 => ?_, fun h2 => ⟨has_w c k, fun h3 => by rw [add1_has hc h3]; rfl, fun h3 => ?_⟩⟩⟩
    · have := of_decide_eq_true h1
      rw [add1_no (Bool.eq_false_iff.2 fun e => by have := rightI_iff.1 e; omega)]
      rfl
    · have := of_decide_eq_true h2
      rw [add1_no (Bool.eq_false_iff.2 fun e => by have := rightI_iff.1 e; omega)]
      rfl
    · have h1 := of_decide_eq_false h1
      have h2 := of_decide_eq_false h2
      have hr : rightI k = true := rightI_iff.2 ⟨by omega, by omega⟩
      obtain ⟨e1, e2, e3, e4⟩ := q8 hr
      obtain ⟨X, eX, hX, hb⟩ := hasC_bit hc (k := k) (by omega) (by omega)
      have e5 : IntKind.i64.wrap (7 - k.tmod 8) = 7 - k % 8 := by rw [Int.tmod_eq_emod_of_nonneg (by omega), wrap_in (by omega) (by omega)]
      have e6 : min (7 - k % 8).toNat IntKind.u8.bits = (7 - k % 8).toNat := Nat.min_eq_left (by show _ ≤ 8; omega)
      have key := put_add ⟨X, hX⟩ ⟨(7 - k % 8).toNat, by omega⟩ (by rw [← hb]; exact h3)
      simp only at key
      rw [e1, e5, e6, eX, key]
      refine ⟨⟨e2, e3⟩, by rw [← eX]; exact catsL_part c _ e4, by omega, ⟨e2, e3⟩, nle30 e4, ?_, ?_⟩
      · rw [splice_set _ e4]
        exact part_all _
      · unfold add1
        rw [hr, eX, catBitN (by omega)]
        rfl)
theorem put0_w (c : List Int) (k : Int) (hc : CatsOK c) : CallK Tryd.prog 15 [catsV c, .int .i64 k, .bool false] (catsV (sub1 c k)) := CallK.via progOK (pfs [21]) [] 100 (Adv.split (6 : Nat) Adv.nil (Adv.split (9 : Nat) Adv.nil (Adv.purs (14 : Nat) (hasC c k) (Adv.chk (27 : Nat) none (Adv.chk (28 : Nat) (some (Value.int IntKind.u8 (List.getD c (Int.toNat (IntKind.wrap IntKind.i64 (Int.tdiv k (8 : Int)))) (0 : Int)))) (Adv.chk (32 : Nat) none (Adv.chk (34 : Nat) none (Adv.chk (35 : Nat) none (Adv.chk (37 : Nat) (some (Value.agg (Array.mk (catsL (setC c (Int.toNat (IntKind.wrap IntKind.i64 (Int.tdiv k (8 : Int)))) (IntKind.wrap IntKind.u8 (List.getD c (Int.toNat (IntKind.wrap IntKind.i64 (Int.tdiv k (8 : Int)))) (0 : Int) - IntKind.wrap IntKind.u8 ((1 : Int) * (2 : Int) ^ min (Int.toNat (IntKind.wrap IntKind.i64 ((7 : Int) - Int.tmod k (8 : Int)))) (IntKind.bits IntKind.u8))))))))) Adv.nil)))))) Adv.nil))) (by kernel_rfl) (by kernel_rfl) (p := (decide (k < (0 : Int)) = true → Value.agg (Array.mk (catsL c)) = catsV (sub1 c k)) ∧ (decide (k < (0 : Int)) = false → (decide (k > (239 : Int)) = true → Value.agg (Array.mk (catsL c)) = catsV (sub1 c k)) ∧ (decide (k > (239 : Int)) = false → CallK Tryd.prog (nat_lit 21) [Value.agg (Array.mk (catsL c)), Value.int IntKind.i64 k] (Value.bool (hasC c k)) ∧ (hasC c k = true → ((0 : Int) ≤ IntKind.wrap IntKind.i64 (Int.tdiv k (8 : Int)) ∧ IntKind.wrap IntKind.i64 (Int.tdiv k (8 : Int)) < (30 : Int)) ∧ Ask.holds Tryd.prog (Ask.part (catsL c) (nat_lit 0 + Int.toNat (IntKind.wrap IntKind.i64 (Int.tdiv k (8 : Int))) * nat_lit 1) (nat_lit 1) [Value.int IntKind.u8 (List.getD c (Int.toNat (IntKind.wrap IntKind.i64 (Int.tdiv k (8 : Int)))) (0 : Int))]) ∧ (0 : Int) ≤ IntKind.wrap IntKind.i64 ((7 : Int) - Int.tmod k (8 : Int)) ∧ ((0 : Int) ≤ IntKind.wrap IntKind.i64 (Int.tdiv k (8 : Int)) ∧ IntKind.wrap IntKind.i64 (Int.tdiv k (8 : Int)) < (30 : Int)) ∧ nat_lit 0 + Int.toNat (IntKind.wrap IntKind.i64 (Int.tdiv k (8 : Int))) * nat_lit 1 + nat_lit 1 ≤ nat_lit 30 ∧ Ask.holds Tryd.prog (Ask.part (splice (catsL c) (nat_lit 0 + Int.toNat (IntKind.wrap IntKind.i64 (Int.tdiv k (8 : Int))) * nat_lit 1) (Value.cellList (Value.int IntKind.u8 (IntKind.wrap IntKind.u8 (List.getD c (Int.toNat (IntKind.wrap IntKind.i64 (Int.tdiv k (8 : Int)))) (0 : Int) - IntKind.wrap IntKind.u8 ((1 : Int) * (2 : Int) ^ min (Int.toNat (IntKind.wrap IntKind.i64 ((7 : Int) - Int.tmod k (8 : Int)))) (IntKind.bits IntKind.u8))))))) (nat_lit 0) (nat_lit 30) (catsL (setC c (Int.toNat (IntKind.wrap IntKind.i64 (Int.tdiv k (8 : Int)))) (IntKind.wrap IntKind.u8 (List.getD c (Int.toNat (IntKind.wrap IntKind.i64 (Int.tdiv k (8 : Int)))) (0 : Int) - IntKind.wrap IntKind.u8 ((1 : Int) * (2 : Int) ^ min (Int.toNat (IntKind.wrap IntKind.i64 ((7 : Int) - Int.tmod k (8 : Int)))) (IntKind.bits IntKind.u8))))))) ∧ Value.agg (Array.mk (catsL (setC c (Int.toNat (IntKind.wrap IntKind.i64 (Int.tdiv k (8 : Int)))) (IntKind.wrap IntKind.u8 (List.getD c (Int.toNat (IntKind.wrap IntKind.i64 (Int.tdiv k (8 : Int)))) (0 : Int) - IntKind.wrap IntKind.u8 ((1 : Int) * (2 : Int) ^ min (Int.toNat (IntKind.wrap IntKind.i64 ((7 : Int) - Int.tmod k (8 : Int)))) (IntKind.bits IntKind.u8))))))) = catsV (sub1 c k)) ∧ (hasC c k = false → Value.agg (Array.mk (catsL c)) = catsV (sub1 c k))))) (by kernel_rfl) (by
    refine ⟨fun h1 => ?_, fun h1 => ⟨fun h2 => ?_, fun h2 => ⟨has_w c k, fun h3 => ?_, fun h3 => by rw [sub1_has hc h3]; rfl⟩⟩⟩
    · have := of_decide_eq_true h1
      rw [sub1_no (Bool.eq_false_iff.2 fun e => by have := rightI_iff.1 e; omega)]
      rfl
    · have := of_decide_eq_true h2
      rw [sub1_no (Bool.eq_false_iff.2 fun e => by have := rightI_iff.1 e; omega)]
      rfl
    · have h1 := of_decide_eq_false h1
      have h2 := of_decide_eq_false h2
      have hr : rightI k = true := rightI_iff.2 ⟨by omega, by omega⟩
      obtain ⟨e1, e2, e3, e4⟩ := q8 hr
      obtain ⟨X, eX, hX, hb⟩ := hasC_bit hc (k := k) (by omega) (by omega)
      have e5 : IntKind.i64.wrap (7 - k.tmod 8) = 7 - k % 8 := by rw [Int.tmod_eq_emod_of_nonneg (by omega), wrap_in (by omega) (by omega)]
      have e6 : min (7 - k % 8).toNat IntKind.u8.bits = (7 - k % 8).toNat := Nat.min_eq_left (by show _ ≤ 8; omega)
      have key := put_sub ⟨X, hX⟩ ⟨(7 - k % 8).toNat, by omega⟩ (by rw [← hb]; exact h3)
      simp only at key
      rw [e1, e5, e6, eX, key]
      refine ⟨⟨e2, e3⟩, by rw [← eX]; exact catsL_part c _ e4, by omega, ⟨e2, e3⟩, nle30 e4, ?_, ?_⟩
      · rw [splice_set _ e4]
        exact part_all _
      · unfold sub1
        rw [hr, eX, catBitN (by omega)]
        rfl)
theorem ints_w (l : List Int) (hl : l.length ≤ 1000) : CallK Tryd.prog 22 [izV l, izV l] (.bool true) := CallK.via progOK (pfs []) [] 100 (Adv.split (8 : Nat) Adv.nil (Adv.loop (13 : Nat) (fun (k : Nat) => [((5 : Nat), Value.int IntKind.i64 (↑k : Int))]) ((fun (h : Heap) (x : Nat) => h) (Heap.mk (nat_lit 8) Trie.leaf)) (fun (i k : Nat) => i + k = List.length l) (List.length l) (0 : Nat) fun (i13 s13 : Nat) (j13 : Nat → Value) => Adv.split (19 : Nat) (Adv.chk (25 : Nat) none (Adv.chk (26 : Nat) (some (Value.int IntKind.i64 (List.getD l s13 (0 : Int)))) (Adv.chk (29 : Nat) none (Adv.chk (30 : Nat) (some (Value.int IntKind.i64 (List.getD l s13 (0 : Int)))) (Adv.split (31 : Nat) Adv.nil Adv.nil))))) Adv.nil)) (by kernel_rfl) (by kernel_rfl) (p := (((↑(List.length l) : Int) != (↑(List.length l) : Int)) = true → Value.bool false = Value.bool true) ∧ (((↑(List.length l) : Int) != (↑(List.length l) : Int)) = false → (List.length l + (0 : Nat) = List.length l ∧ Value.int IntKind.i64 (0 : Int) = Value.int IntKind.i64 (0 : Int) ∧ Heap.mk (nat_lit 8) Trie.leaf = Heap.mk (nat_lit 8) Trie.leaf) ∧ ∀ (i13 s13 : Nat) (j13 : Nat → Value), i13 + s13 = List.length l → (decide ((↑s13 : Int) < (↑(List.length l) : Int)) = true → ((0 : Int) ≤ (↑s13 : Int) ∧ (↑s13 : Int) < (↑(List.length l) : Int)) ∧ Ask.holds Tryd.prog (Ask.part (Array.toList (Array.mk (izL l))) (Int.toNat (↑(Int.toNat (↑s13 : Int) * nat_lit 1) : Int)) (nat_lit 1) [Value.int IntKind.i64 (List.getD l s13 (0 : Int))]) ∧ ((0 : Int) ≤ (↑s13 : Int) ∧ (↑s13 : Int) < (↑(List.length l) : Int)) ∧ Ask.holds Tryd.prog (Ask.part (Array.toList (Array.mk (izL l))) (Int.toNat (↑(Int.toNat (↑s13 : Int) * nat_lit 1) : Int)) (nat_lit 1) [Value.int IntKind.i64 (List.getD l s13 (0 : Int))]) ∧ ((List.getD l s13 (0 : Int) != List.getD l s13 (0 : Int)) = true → Value.bool false = Value.bool true) ∧ ((List.getD l s13 (0 : Int) != List.getD l s13 (0 : Int)) = false → ∃ (i13' : Nat), ∃ (s13' : Nat), i13' < i13 ∧ i13' + s13' = List.length l ∧ Value.int IntKind.i64 (IntKind.wrap IntKind.i64 ((↑s13 : Int) + (1 : Int))) = Value.int IntKind.i64 (↑s13' : Int) ∧ True ∧ true = true ∧ True)) ∧ (decide ((↑s13 : Int) < (↑(List.length l) : Int)) = false → Value.bool true = Value.bool true))) (by kernel_rfl) (by
    refine ⟨fun h => by simp at h, fun _ => ⟨⟨by omega, rfl, rfl⟩, fun i k j q1 => ⟨fun h1 => ?_, fun _ => rfl⟩⟩⟩
    have hk : k < l.length := by have := of_decide_eq_true h1; omega
    exact ⟨⟨by omega, by omega⟩, iz_part hk rfl, ⟨by omega, by omega⟩, iz_part hk rfl, fun h => by simp at h, fun _ => ⟨i - 1, k + 1, by omega, by omega, wrap_next k (by omega), trivial, rfl, trivial⟩⟩)
end Go.Proofs.YtidlganponfccaaDoor

end
section
/- The plain law of two sets: what they have in all, and in common; taken away, put back. -/
set_option linter.unusedVariables false
set_option linter.unusedVariables false
set_option linter.unusedSimpArgs false
namespace Go.Proofs.YtidlganponfccaaDoor
open Go Go.Ideal

theorem un2_at {a b : List Int} (ha : CatsOK a) (hb : CatsOK b) (i : Nat) : ∃ X Y : Nat, X < 256 ∧ Y < 256 ∧ a.getD i 0 = X ∧ b.getD i 0 = Y ∧ or8 (or8 0 (a.getD i 0)) (b.getD i 0) = ((X ||| Y : Nat) : Int) ∧ and8 (a.getD i 0) (b.getD i 0) = ((X &&& Y : Nat) : Int) := by
  obtain ⟨X, e1, hX⟩ := ha.get i
  obtain ⟨Y, e2, hY⟩ := hb.get i
  refine ⟨X, Y, hX, hY, e1, e2, ?_, ?_⟩
  · rw [e1, e2]
    have : or8 0 (X : Nat) = ((0 ||| X : Nat) : Int) := or8N (X := 0) (by decide) hX
    rw [this, Nat.zero_or, or8N hX hY]
  · rw [e1, e2, and8N hX hY]
theorem un2_ok {a b : List Int} (ha : CatsOK a) (hb : CatsOK b) : CatsOK (un2 a b) := cats_fun fun i _ => by
  obtain ⟨X, Y, hX, hY, _, _, e, _⟩ := un2_at ha hb i
  exact ⟨_, e, or_lt hX hY⟩
theorem me2_ok {a b : List Int} (ha : CatsOK a) (hb : CatsOK b) : CatsOK (me2 a b) := cats_fun fun i _ => by
  obtain ⟨X, Y, hX, hY, _, _, _, e⟩ := un2_at ha hb i
  exact ⟨_, e, and_lt hX⟩
theorem has_un2 {a b : List Int} (ha : CatsOK a) (hb : CatsOK b) {k : Int} (h0 : 0 ≤ k) (h1 : k < 240) : hasC (un2 a b) k = (hasC a k || hasC b k) := by
  obtain ⟨X, Y, hX, hY, e1, e2, e, _⟩ := un2_at ha hb (k / 8).toNat
  obtain ⟨X', e1', _, b1⟩ := hasC_bit ha h0 h1
  obtain ⟨Y', e2', _, b2⟩ := hasC_bit hb h0 h1
  obtain rfl : X = X' := by omega
  obtain rfl : Y = Y' := by omega
  unfold un2
  rw [hasC_fun (fun i _ => by obtain ⟨X, Y, hX, hY, _, _, e, _⟩ := un2_at ha hb i; exact ⟨_, e, or_lt hX hY⟩) h0 h1 e, b1, b2, Nat.testBit_or]
theorem has_me2 {a b : List Int} (ha : CatsOK a) (hb : CatsOK b) {k : Int} (h0 : 0 ≤ k) (h1 : k < 240) : hasC (me2 a b) k = (hasC a k && hasC b k) := by
  obtain ⟨X, Y, hX, hY, e1, e2, _, e⟩ := un2_at ha hb (k / 8).toNat
  obtain ⟨X', e1', _, b1⟩ := hasC_bit ha h0 h1
  obtain ⟨Y', e2', _, b2⟩ := hasC_bit hb h0 h1
  obtain rfl : X = X' := by omega
  obtain rfl : Y = Y' := by omega
  unfold me2
  rw [hasC_fun (fun i _ => by obtain ⟨X, Y, hX, hY, _, _, _, e⟩ := un2_at ha hb i; exact ⟨_, e, and_lt hX⟩) h0 h1 e, b1, b2, Nat.testBit_and]
theorem cnt_un_me {a b : List Int} (ha : CatsOK a) (hb : CatsOK b) : ∀ n, n ≤ 30 → cntN (un2 a b) n + cntN (me2 a b) n = cntN a n + cntN b n
  | 0, _ => rfl
  | n + 1, hn => by
    have ih := cnt_un_me ha hb n (by omega)
    obtain ⟨X, Y, hX, hY, e1, e2, e3, e4⟩ := un2_at ha hb n
    have p1 : (un2 a b).getD n 0 = ((X ||| Y : Nat) : Int) := by unfold un2; rw [map30 (by omega), e3]
    have p2 : (me2 a b).getD n 0 = ((X &&& Y : Nat) : Int) := by unfold me2; rw [map30 (by omega), e4]
    simp only [cntN, p1, p2, e1, e2, Int.toNat_natCast]
    have := pop_or_and X Y
    omega
theorem count_un_me {a b : List Int} (ha : CatsOK a) (hb : CatsOK b) : countC (un2 a b) + countC (me2 a b) = countC a + countC b := cnt_un_me ha hb 30 (by omega)
theorem zero_ok : CatsOK zeroC := ⟨by simp [zeroC], fun x hx => by
  have := List.eq_of_mem_replicate hx
  omega⟩
theorem has_zero (k : Int) : hasC zeroC k = false := by
  unfold hasC
  have : zeroC.getD (k / 8).toNat 0 = 0 := by
    unfold zeroC
    simp only [List.getD, List.getElem?_replicate]
    split <;> rfl
  rw [this, Int.zero_fdiv]
  have : (and8 0 1 == 1) = false := by decide
  rw [this, Bool.and_false]
/-- Taken away, put back. -/
theorem back_law {a b : List Int} (ha : CatsOK a) (hb : CatsOK b) : withC (withoutC a (listC b)) (listC (me2 a b)) = a := by
  have h1 := without_ok (listC b) ha
  refine cats_ext (with_ok _ h1) ha fun k k0 k1 => ?_
  rw [has_with _ h1 k0 k1, has_without _ ha k0 k1, mem_listC k0 k1, mem_listC k0 k1, has_me2 ha hb k0 k1]
  cases hasC a k <;> cases hasC b k <;> rfl
theorem all_law {a b : List Int} (ha : CatsOK a) (hb : CatsOK b) : withC a (listC b) = un2 a b := by
  refine cats_ext (with_ok _ ha) (un2_ok ha hb) fun k k0 k1 => ?_
  rw [has_with _ ha k0 k1, mem_listC k0 k1, has_un2 ha hb k0 k1]
theorem none_law {a b : List Int} (ha : CatsOK a) (hb : CatsOK b) : me2 (withoutC a (listC b)) b = zeroC := by
  have h1 := without_ok (listC b) ha
  refine cats_ext (me2_ok h1 hb) zero_ok fun k k0 k1 => ?_
  rw [has_me2 h1 hb k0 k1, has_without _ ha k0 k1, mem_listC k0 k1, has_zero]
  cases hasC a k <;> cases hasC b k <;> rfl
theorem listC_length (c : List Int) : (listC c).length ≤ 1000 := Nat.le_trans (listN_length c 240) (by decide)
end Go.Proofs.YtidlganponfccaaDoor

end
section
/- Sets told and read again: the plain law of reading. -/
set_option linter.unusedVariables false
set_option linter.unusedSimpArgs false
namespace Go.Proofs.YtidlganponfccaaDoor
open Go Go.Ideal
theorem str_beq (s t : ByteArray) : (ByteArray.toList s == ByteArray.toList t) = decide (s = t) := by
  rw [Bool.eq_iff_iff, beq_iff_eq, decide_eq_true_iff, Lib.toList_data, Lib.toList_data]
  refine ⟨fun h => ?_, fun h => by rw [h]⟩
  apply ByteArray.ext
  exact Array.toList_inj.1 h
/-! ### cut and put together again -/
theorem cut_app (c : UInt8) (p r : Bs) (h : c ∉ p) : cutF (bs (p ++ c :: r)) c = true ∧ cutA (bs (p ++ c :: r)) c = bs p ∧ cutB (bs (p ++ c :: r)) c = bs r := by
  have e : ixB (bs (p ++ c :: r)) c = (p.length : Int) := by
    unfold ixB; rw [bs_list]; exact indexByte_app c p h r
  unfold cutF cutA cutB
  rw [e, if_pos (by omega), if_pos (by omega)]
  refine ⟨decide_eq_true (by omega), ?_, ?_⟩
  · rw [bs_extract]; simp
  · rw [show ((p.length : Int) + 1).toNat = p.length + 1 from by omega, bs_extract, bs_size]
    congr 1
    rw [List.drop_append, List.drop_eq_nil_of_le (by omega), show p.length + 1 - p.length = 1 from by omega, List.nil_append, List.drop_succ_cons, List.drop_zero, List.take_of_length_le]
    simp only [List.length_append, List.length_cons]; omega
theorem cut_not (c : UInt8) (p : Bs) (h : c ∉ p) : cutF (bs p) c = false ∧ cutA (bs p) c = bs p := by
  have e : ixB (bs p) c = -1 := by
    unfold ixB; rw [bs_list]; exact indexByte_none c p h
  unfold cutF cutA
  rw [e, if_neg (by omega)]
  exact ⟨decide_eq_false (by omega), rfl⟩
/-! ### what is read -/
def rangeI (lo hi : Int) : List Int := (List.range (hi + 1 - lo).toNat).map fun (i : Nat) => lo + (i : Int)
def pieceI (p : Bs) : List Int := rangeI (spLo (bs p)) (spHi (bs p))
def foldP (ps : List Bs) : List Int := ps.foldl (fun c p => withC c (pieceI p)) zeroC
def setP (s : Bs) : List Int := if s = [45] then zeroC else foldP (splitL 44 s)
def okP (s : Bs) : Bool := decide (s = [45]) || (splitL 44 s).all fun p => spOk (bs p)
def parOk (s : ByteArray) : Bool := okP s.data.toList && decide (textC (setP s.data.toList) = s)
def parC (s : ByteArray) : List Int := if parOk s = true then setP s.data.toList else zeroC
theorem foldP_flat (ps : List Bs) : foldP ps = withC zeroC (ps.flatMap pieceI) := by
  unfold foldP withC
  rw [List.foldl_flatMap]
theorem foldP_ok (ps : List Bs) : CatsOK (foldP ps) := by rw [foldP_flat]; exact with_ok _ zero_ok
theorem setP_ok (s : Bs) : CatsOK (setP s) := by unfold setP; split; exact zero_ok; exact foldP_ok _
theorem parC_ok (s : ByteArray) : CatsOK (parC s) := by unfold parC; split; exact setP_ok _; exact zero_ok
theorem par_text {s : ByteArray} (h : parOk s = true) : textC (parC s) = s := by
  unfold parC
  rw [if_pos h]
  unfold parOk at h
  rw [Bool.and_eq_true] at h
  exact of_decide_eq_true h.2
theorem par_not {s : ByteArray} (h : parOk s = false) : parC s = zeroC := by
  unfold parC
  rw [h]; rfl
/-! ### the text of a set is read as that set -/
theorem atoi_dig {n : Nat} (h : n < 240) : atoiOk (bs (dig n)) = true ∧ atoiN (bs (dig n)) = (n : Int) := by
  unfold atoiOk atoiN
  rw [bs_list, dig_atoi (by omega)]
  exact ⟨rfl, rfl⟩
theorem right_nat {n : Nat} (h : n < 240) : rightI (n : Int) = true := rightI_iff.2 ⟨by omega, by omega⟩
theorem piece_dig {n : Nat} (h : n < 240) : spOk (bs (dig n)) = true ∧ pieceI (dig n) = [(n : Int)] := by
  obtain ⟨c1, c2⟩ := cut_not 45 (dig n) (dig_not (by omega) rfl)
  obtain ⟨a1, a2⟩ := atoi_dig h
  unfold pieceI spOk spOne spLo spHi
  rw [c1, c2, a1, a2, right_nat h]
  refine ⟨rfl, ?_⟩
  unfold rangeI
  rw [if_neg (by decide), show ((n : Int) + 1 - n).toNat = 1 from by omega]
  simp [List.range_succ]
theorem piece_two {n m : Nat} (h : n < 240) (k : m < 240) : spOk (bs (dig n ++ 45 :: dig m)) = true ∧ pieceI (dig n ++ 45 :: dig m) = rangeI n m := by
  obtain ⟨c1, c2, c3⟩ := cut_app 45 (dig n) (dig m) (dig_not (by omega) rfl)
  obtain ⟨a1, a2⟩ := atoi_dig h
  obtain ⟨b1, b2⟩ := atoi_dig k
  unfold pieceI spOk spOne spLo spHi
  rw [c1, c2, c3, a1, a2, b1, b2, right_nat h, right_nat k]
  exact ⟨rfl, rfl⟩
theorem range_succ' (lo n : Nat) : rangeI lo ((lo + n : Nat) : Int) = ((List.range (n + 1)).map (lo + ·)).map fun (k : Nat) => (k : Int) := by
  unfold rangeI
  rw [show (((lo + n : Nat) : Int) + 1 - (lo : Int)).toNat = n + 1 from by omega, List.map_map]
  exact List.map_congr_left fun i _ => by simp
theorem runP_read {x n : Nat} (h : x + n < 240) : (∀ p ∈ runP x (x + n), spOk (bs p) = true ∧ p ≠ [45]) ∧ (runP x (x + n)).flatMap pieceI = ((List.range (n + 1)).map (x + ·)).map fun (k : Nat) => (k : Int) := by
  have ne : ∀ {k : Nat}, k < 240 → dig k ≠ [45] := fun {k} hk e => by
    have := dig_not (n := k) (by omega) (c := 45) rfl
    rw [e] at this
    exact this (by simp)
  obtain ⟨a1, a2⟩ := piece_dig (n := x) (by omega)
  obtain ⟨b1, b2⟩ := piece_dig h
  obtain ⟨d1, d2⟩ := piece_two (n := x) (by omega) h
  unfold runP
  split
  · have hn : n = 0 := by omega
    subst hn
    refine ⟨fun p hp => ?_, ?_⟩
    · rw [List.mem_singleton] at hp; subst hp; exact ⟨a1, ne (by omega)⟩
    · simp [a2, List.range_succ]
  · split
    · have hn : n = 1 := by omega
      subst hn
      refine ⟨fun p hp => ?_, ?_⟩
      · rcases List.mem_cons.1 hp with rfl | hp
        · exact ⟨a1, ne (by omega)⟩
        · rw [List.mem_singleton] at hp; subst hp; exact ⟨b1, ne h⟩
      · simp [a2, b2, List.range_succ]
    · refine ⟨fun p hp => ?_, ?_⟩
      · rw [List.mem_singleton] at hp; subst hp
        refine ⟨d1, fun e => ?_⟩
        have k0 := dig_ne (n := x) (by omega)
        cases hd : dig x with
        | nil => exact k0 hd
        | cons q qs =>
          have k1 := dig_not (n := x) (by omega) (c := 45) rfl
          rw [hd, List.cons_append, List.cons.injEq] at e
          rw [hd, e.1] at k1
          exact k1 (by simp)
      · rw [List.flatMap_cons, List.flatMap_nil, List.append_nil, d2, range_succ']
theorem run_take : ∀ (x : Nat) (r : List Nat), x :: r.take (runEnd x r) = (List.range (runEnd x r + 1)).map (x + ·)
  | x, [] => by simp [runEnd, List.range_succ]
  | x, y :: r => by
    unfold runEnd
    split
    · rename_i e
      subst e
      rw [List.take_succ_cons, run_take (x + 1) r, List.range_succ_eq_map (n := runEnd (x + 1) r + 1), List.map_cons, List.map_map, Nat.add_zero]
      congr 1
      exact List.map_congr_left fun i _ => by simp only [Function.comp]; omega
    · simp [List.range_succ]
theorem pieces_read : ∀ l, (∀ y ∈ l, y < 240) → (∀ p ∈ (piecesN l).flatten, spOk (bs p) = true ∧ p ≠ [45]) ∧ (piecesN l).flatten.flatMap pieceI = l.map fun (k : Nat) => (k : Int) := strong (by rw [piecesN_nil]; simp) fun x r ih h => by
  obtain ⟨r1, r2⟩ := runP_read (run_lt h)
  obtain ⟨i1, i2⟩ := ih fun y hy => h y (List.mem_cons_of_mem _ (mem_drop' hy))
  rw [piecesN_cons, List.flatten_cons]
  refine ⟨fun p hp => ?_, ?_⟩
  · rcases List.mem_append.1 hp with k | k
    · exact r1 p k
    · exact i1 p k
  · rw [List.flatMap_append, r2, i2, ← run_take, ← List.map_append]
    congr 1
    rw [List.cons_append, List.take_append_drop]
theorem with_list {c : List Int} (hc : CatsOK c) : withC zeroC (listC c) = c := cats_ext (with_ok _ zero_ok) hc fun k k0 k1 => by
  rw [has_with _ zero_ok k0 k1, mem_listC k0 k1]
  have : hasC zeroC k = false := has_zero k
  rw [this, Bool.false_or]
theorem par_of_text {c : List Int} (hc : CatsOK c) : parOk (textC c) = true ∧ parC (textC c) = c := by
  have key : okP (textC c).data.toList = true ∧ setP (textC c).data.toList = c := by
    obtain ⟨r1, r2⟩ := pieces_read (catsN c) (catsN_lt c)
    unfold textC
    rw [bs_list]
    by_cases e : catsN c = []
    · have h1 : textN (catsN c) = [45] := by unfold textN; rw [if_pos e]
      rw [h1]
      refine ⟨rfl, ?_⟩
      have h2 := with_list hc
      rw [listC_nat, e] at h2
      exact h2
    · have hs := textN_split (catsN_lt c) e
      have hne : textN (catsN c) ≠ [45] := fun k => by
        rw [k] at hs
        have h1 : splitL 44 [45] = [[45]] := rfl
        rw [h1] at hs
        exact (r1 [45] (by rw [← hs]; simp)).2 rfl
      unfold okP setP
      rw [if_neg hne, hs, foldP_flat, r2, ← listC_nat, with_list hc]
      refine ⟨?_, rfl⟩
      rw [Bool.or_eq_true]
      exact .inr (List.all_eq_true.2 fun p hp => (r1 p hp).1)
  have ok : parOk (textC c) = true := by
    unfold parOk
    rw [key.1, key.2]
    simp
  refine ⟨ok, ?_⟩
  unfold parC
  rw [if_pos ok, key.2]
end Go.Proofs.YtidlganponfccaaDoor

end
