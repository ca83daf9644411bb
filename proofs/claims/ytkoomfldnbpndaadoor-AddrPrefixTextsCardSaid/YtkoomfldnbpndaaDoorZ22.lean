/- Texts packed together: CIdx CStrA CStrA2. -/
import Derived.Laws.Externs
import Derived.Lib.Bytealg
import Derived.Tactics
import Derived.WalkKit
import Derived.Test.YtkoomfldnbpndaaDoorZ21
section
/- Where a byte stands in a text, and how often. -/
set_option linter.unusedVariables false
set_option linter.unusedSimpArgs false
set_option maxRecDepth 100000
namespace Go.Proofs.YtkoomfldnbpndaaDoor
open Go Go.Ideal
theorem idxByte_w (s : ByteArray) (c r : Int) (e : Lib.indexByte s.data.toList c.toNat.toUInt8 = r) : CallK Tryd.prog 57 [.string s, .int .u8 c] (.int .i64 r) := CallK.ofSame rfl rfl fun w => by
  have hrun : (callFunc 70 #[.string s, .int .u8 c]).run Tryd.prog w = .ok (.value (.int .i64 r)) w := by
    rw [run_callFunc_extern (e := Extern.BytealgIndexByte.indexByte) Tryd.func70 (by kernel_rfl) (by kernel_rfl) (by kernel_rfl) (by kernel_rfl), Lib.run_indexByteString, e]
    rfl
  go_enter Tryd.func57, Tryd.ntmps57
  go_wp2
  go_ret
  exact ⟨rfl, rfl⟩
set_option maxHeartbeats 2000000 in
set_option maxRecDepth 100000 in
theorem cntDot_w (s : ByteArray) (r : Int) (e : Lib.countByte s.data.toList 46 = r) : CallK Tryd.prog 35 [.string s, .string ⟨#[46]⟩] (.int .i64 r) := CallK.ofSame rfl rfl fun w => by
  go_enter Tryd.func35, Tryd.ntmps35
  go_wp2
  rw [run_callFunc_extern Tryd.func45 (by kernel_rfl) (by kernel_rfl) (by kernel_rfl) (e := Extern.BytealgCount.count) (by kernel_rfl), Lib.run_countString]
  simp only [Result.andThen]
  rw [Oper.upon_value]
  go_wp2
  go_ret
  exact ⟨congrArg (fun r => Ending.returned (.int .i64 r)) e, rfl⟩
end Go.Proofs.YtkoomfldnbpndaaDoor

end
section
/- Texts of addresses: cut at a byte. -/
set_option linter.unusedVariables false
set_option linter.unusedSimpArgs false
set_option maxRecDepth 100000
namespace Go.Proofs.YtkoomfldnbpndaaDoor
open Go Go.Ideal
/-- Where a byte stands first; -1: nowhere. -/
def ixB (s : ByteArray) (c : UInt8) : Int := Lib.indexByte s.data.toList c
theorem ix_lt : ∀ (l : List UInt8) (c : UInt8), Lib.indexByte l c < (l.length : Int) ∧ -1 ≤ Lib.indexByte l c
  | [], _ => by simp [Lib.indexByte]
  | b :: l, c => by
    have ih := ix_lt l c
    simp only [Lib.indexByte, List.length_cons]
    split
    · omega
    · split <;> omega
theorem ixB_lt (s : ByteArray) (c : UInt8) : ixB s c < (s.size : Int) ∧ -1 ≤ ixB s c := ix_lt s.data.toList c
theorem ix46_w (s : ByteArray) : CallK Tryd.prog 57 [.string s, .int .u8 46] (.int .i64 (ixB s 46)) := idxByte_w s 46 _ rfl
theorem ix47_w (s : ByteArray) : CallK Tryd.prog 57 [.string s, .int .u8 47] (.int .i64 (ixB s 47)) := idxByte_w s 47 _ rfl
def cutA (s : ByteArray) (c : UInt8) : ByteArray := if 0 ≤ ixB s c then s.extract 0 (ixB s c).toNat else s
def cutB (s : ByteArray) (c : UInt8) : ByteArray := if 0 ≤ ixB s c then s.extract (ixB s c + 1).toNat s.size else ByteArray.mk #[]
def cutF (s : ByteArray) (c : UInt8) : Bool := decide (0 ≤ ixB s c)
theorem one_eq {s : ByteArray} {c : UInt8} (h : (ByteArray.toList (ByteArray.mk #[c]) == ByteArray.toList s) = true) : s = ByteArray.mk #[c] := by
  rw [beq_iff_eq, Lib.toList_data, Lib.toList_data] at h
  apply ByteArray.ext
  exact (Array.toList_inj.1 h).symm
theorem ixB_one (c : UInt8) : ixB (ByteArray.mk #[c]) c = 0 := by simp [ixB, Lib.indexByte]
theorem cut_tuple {s : ByteArray} {c : UInt8} (hs : s.size ≤ 1000) (h : 0 ≤ ixB s c) : Value.tuple (Array.mk [.string (s.extract (Int.toNat 0) (ixB s c).toNat), .string (s.extract (IntKind.i64.wrap (ixB s c + 1)).toNat (Int.toNat (s.size : Int))), .bool true]) = .tuple (Array.mk [.string (cutA s c), .string (cutB s c), .bool (cutF s c)]) := by
  have := ixB_lt s c
  unfold cutA cutB cutF
  rw [if_pos h, if_pos h, decide_eq_true h, wrap_in (by omega) (by omega)]
  rfl
theorem cutSlash_w (s : ByteArray) (hs : s.size ≤ 1000) : CallK Tryd.prog 23 [.string s, .string ⟨#[47]⟩] (.tuple (Array.mk [.string (cutA s 47), .string (cutB s 47), .bool (cutF s 47)])) := CallK.via progOK (pfs []) [] 100 (Adv.split (30 : Nat) (Adv.chk (50 : Nat) none Adv.nil) (Adv.pur (43 : Nat) (Value.int IntKind.i64 (ixB s (47 : UInt8))) (Adv.split (48 : Nat) (Adv.chk (53 : Nat) none (Adv.chk (59 : Nat) none Adv.nil)) Adv.nil))) (by kernel_rfl) (by kernel_rfl) (p := ((ByteArray.toList (ByteArray.mk #[(47 : UInt8)]) == ByteArray.toList s) = true → ((0 : Int) ≤ (1 : Int) ∧ (1 : Int) ≤ (↑(ByteArray.size s) : Int) ∧ (↑(ByteArray.size s) : Int) ≤ (↑(ByteArray.size s) : Int)) ∧ Value.tuple (Array.mk [Value.string (ByteArray.extract s (0 : Nat) (Int.toNat (0 : Int))), Value.string (ByteArray.extract s (Int.toNat (1 : Int)) (Int.toNat (↑(ByteArray.size s) : Int))), Value.bool true]) = Value.tuple (Array.mk [Value.string (cutA s (47 : UInt8)), Value.string (cutB s (47 : UInt8)), Value.bool (cutF s (47 : UInt8))])) ∧ ((ByteArray.toList (ByteArray.mk #[(47 : UInt8)]) == ByteArray.toList s) = false → CallK Tryd.prog (nat_lit 57) [Value.string s, Value.int IntKind.u8 (47 : Int)] (Value.int IntKind.i64 (ixB s (47 : UInt8))) ∧ (decide (ixB s (47 : UInt8) ≥ (0 : Int)) = true → ((0 : Int) ≤ (0 : Int) ∧ (0 : Int) ≤ ixB s (47 : UInt8) ∧ ixB s (47 : UInt8) ≤ (↑(ByteArray.size s) : Int)) ∧ ((0 : Int) ≤ IntKind.wrap IntKind.i64 (ixB s (47 : UInt8) + (1 : Int)) ∧ IntKind.wrap IntKind.i64 (ixB s (47 : UInt8) + (1 : Int)) ≤ (↑(ByteArray.size s) : Int) ∧ (↑(ByteArray.size s) : Int) ≤ (↑(ByteArray.size s) : Int)) ∧ Value.tuple (Array.mk [Value.string (ByteArray.extract s (Int.toNat (0 : Int)) (Int.toNat (ixB s (47 : UInt8)))), Value.string (ByteArray.extract s (Int.toNat (IntKind.wrap IntKind.i64 (ixB s (47 : UInt8) + (1 : Int)))) (Int.toNat (↑(ByteArray.size s) : Int))), Value.bool true]) = Value.tuple (Array.mk [Value.string (cutA s (47 : UInt8)), Value.string (cutB s (47 : UInt8)), Value.bool (cutF s (47 : UInt8))])) ∧ (decide (ixB s (47 : UInt8) ≥ (0 : Int)) = false → Value.tuple (Array.mk [Value.string s, Value.string (ByteArray.mk #[]), Value.bool false]) = Value.tuple (Array.mk [Value.string (cutA s (47 : UInt8)), Value.string (cutB s (47 : UInt8)), Value.bool (cutF s (47 : UInt8))])))) (by kernel_rfl) (by
    have hb := ixB_lt s 47
    refine ⟨fun h => ?_, fun _ => ⟨ix47_w s, fun h => ?_, fun h => ?_⟩⟩
    · have e := one_eq h
      subst e
      refine ⟨⟨by omega, by decide, by omega⟩, ?_⟩
      have := cut_tuple (s := ByteArray.mk #[47]) (c := 47) (by decide) (by rw [ixB_one]; decide)
      rw [ixB_one] at this
      exact this
    · have h0 : 0 ≤ ixB s 47 := of_decide_eq_true h
      have e := cut_tuple hs h0
      have e1 : IntKind.i64.wrap (ixB s 47 + 1) = ixB s 47 + 1 := wrap_in (by omega) (by omega)
      exact ⟨⟨by omega, by omega, by omega⟩, ⟨by rw [e1]; omega, by rw [e1]; omega, by omega⟩, e⟩
    · have h0 : ¬ 0 ≤ ixB s 47 := of_decide_eq_false h
      unfold cutA cutB cutF
      rw [if_neg h0, if_neg h0, decide_eq_false h0])
end Go.Proofs.YtkoomfldnbpndaaDoor

end
section
/- Texts: split at dots. -/
set_option linter.unusedVariables false
set_option linter.unusedSimpArgs false
set_option maxRecDepth 100000
namespace Go.Proofs.YtkoomfldnbpndaaDoor
open Go Go.Ideal
theorem cnt46_w (s : ByteArray) : CallK Tryd.prog 35 [.string s, .string ⟨#[46]⟩] (.int .i64 (sepN 46 s : Nat)) := cntDot_w s _ rfl
theorem index46_w (s : ByteArray) : CallK Tryd.prog 36 [.string s, .string ⟨#[46]⟩] (.int .i64 (ixB s 46)) := CallK.via progOK (pfs []) [] 100 (Adv.split (19 : Nat) Adv.nil (Adv.pur (32 : Nat) (Value.int IntKind.i64 (ixB s (46 : UInt8))) Adv.nil)) (by kernel_rfl) (by kernel_rfl) (p := ((ByteArray.toList (ByteArray.mk #[(46 : UInt8)]) == ByteArray.toList s) = true → Value.int IntKind.i64 (0 : Int) = Value.int IntKind.i64 (ixB s (46 : UInt8))) ∧ ((ByteArray.toList (ByteArray.mk #[(46 : UInt8)]) == ByteArray.toList s) = false → CallK Tryd.prog (nat_lit 57) [Value.string s, Value.int IntKind.u8 (46 : Int)] (Value.int IntKind.i64 (ixB s (46 : UInt8))) ∧ Value.int IntKind.i64 (ixB s (46 : UInt8)) = Value.int IntKind.i64 (ixB s (46 : UInt8)))) (by kernel_rfl) (by
    refine ⟨fun h => ?_, fun _ => ⟨ix46_w s, rfl⟩⟩
    have e := one_eq h
    subst e
    rw [ixB_one])
theorem split46_w (s : ByteArray) (hs : s.size ≤ 1000) : CallK Tryd.prog 16 [.string s, .string ⟨#[46]⟩] (splitV 46 s) := CallK.frzR progOK (pfs []) [] 100 (Adv.pur (25 : Nat) (Value.int IntKind.i64 (↑(sepN (46 : UInt8) s) : Int)) (Adv.chk (37 : Nat) none (Adv.loop (46 : Nat) (fun (i : Nat) => [((10 : Nat), Value.int IntKind.i64 (↑i : Int)), ((0 : Nat), Value.string (restB (46 : UInt8) s i))]) ((fun (h : Heap) (i : Nat) => Heap.set h (8 : Nat) (Blk.cells (partsL (46 : UInt8) s i) (9 : TypeId) Mode.fix)) (Heap.mk (nat_lit 9) (Trie.node none Trie.leaf (Trie.node none (Trie.node none (Trie.node (some (Blk.cells (zerosI (Value.cellList (Value.string (ByteArray.mk #[]))) (Int.toNat (if IntKind.wrap IntKind.i64 ((↑(ByteArray.size s) : Int) + (1 : Int)) < IntKind.wrap IntKind.i64 ((↑(sepN (46 : UInt8) s) : Int) + (1 : Int)) then IntKind.wrap IntKind.i64 ((↑(ByteArray.size s) : Int) + (1 : Int)) else IntKind.wrap IntKind.i64 ((↑(sepN (46 : UInt8) s) : Int) + (1 : Int))))) (nat_lit 9) Mode.fix)) Trie.leaf Trie.leaf) Trie.leaf) Trie.leaf)))) (fun (k i : Nat) => k + i = sepN (46 : UInt8) s) (sepN (46 : UInt8) s) (0 : Nat) fun (i46 s46 : Nat) (j46 : Nat → Value) => Adv.split (51 : Nat) (Adv.pur (56 : Nat) (Value.int IntKind.i64 (ixB (restB (46 : UInt8) s s46) (46 : UInt8))) (Adv.split (61 : Nat) (Adv.chk (67 : Nat) none (Adv.chk (68 : Nat) none (Adv.chk (73 : Nat) none Adv.nil))) (Adv.chk (70 : Nat) none (Adv.chk (71 : Nat) none (Adv.chk (72 : Nat) none (Adv.chk (79 : Nat) none Adv.nil)))))) (Adv.chk (57 : Nat) none (Adv.chk (58 : Nat) none (Adv.chk (63 : Nat) none Adv.nil)))))) (by kernel_rfl) (by kernel_rfl) (p := CallK Tryd.prog (nat_lit 35) [Value.string s, Value.string (ByteArray.mk #[(46 : UInt8)])] (Value.int IntKind.i64 (↑(sepN (46 : UInt8) s) : Int)) ∧ (((0 : Int) ≤ if IntKind.wrap IntKind.i64 ((↑(ByteArray.size s) : Int) + (1 : Int)) < IntKind.wrap IntKind.i64 ((↑(sepN (46 : UInt8) s) : Int) + (1 : Int)) then IntKind.wrap IntKind.i64 ((↑(ByteArray.size s) : Int) + (1 : Int)) else IntKind.wrap IntKind.i64 ((↑(sepN (46 : UInt8) s) : Int) + (1 : Int))) ∧ ((if IntKind.wrap IntKind.i64 ((↑(ByteArray.size s) : Int) + (1 : Int)) < IntKind.wrap IntKind.i64 ((↑(sepN (46 : UInt8) s) : Int) + (1 : Int)) then IntKind.wrap IntKind.i64 ((↑(ByteArray.size s) : Int) + (1 : Int)) else IntKind.wrap IntKind.i64 ((↑(sepN (46 : UInt8) s) : Int) + (1 : Int))) ≤ if IntKind.wrap IntKind.i64 ((↑(ByteArray.size s) : Int) + (1 : Int)) < IntKind.wrap IntKind.i64 ((↑(sepN (46 : UInt8) s) : Int) + (1 : Int)) then IntKind.wrap IntKind.i64 ((↑(ByteArray.size s) : Int) + (1 : Int)) else IntKind.wrap IntKind.i64 ((↑(sepN (46 : UInt8) s) : Int) + (1 : Int))) ∧ (if IntKind.wrap IntKind.i64 ((↑(ByteArray.size s) : Int) + (1 : Int)) < IntKind.wrap IntKind.i64 ((↑(sepN (46 : UInt8) s) : Int) + (1 : Int)) then IntKind.wrap IntKind.i64 ((↑(ByteArray.size s) : Int) + (1 : Int)) else IntKind.wrap IntKind.i64 ((↑(sepN (46 : UInt8) s) : Int) + (1 : Int))) * ((↑(TypeInfo.bytes (Tables.types (Program.toTables Tryd.prog))[(9 : Nat)]) : Int) + (1 : Int)) ≤ (1099511627776 : Int)) ∧ (sepN (46 : UInt8) s + (0 : Nat) = sepN (46 : UInt8) s ∧ (Value.int IntKind.i64 (0 : Int) = Value.int IntKind.i64 (0 : Int) ∧ Value.string s = Value.string (restB (46 : UInt8) s (0 : Nat))) ∧ Heap.mk (nat_lit 9) (Trie.node none Trie.leaf (Trie.node none (Trie.node none (Trie.node (some (Blk.cells (zerosI (Value.cellList (Value.string (ByteArray.mk #[]))) (Int.toNat (if IntKind.wrap IntKind.i64 ((↑(ByteArray.size s) : Int) + (1 : Int)) < IntKind.wrap IntKind.i64 ((↑(sepN (46 : UInt8) s) : Int) + (1 : Int)) then IntKind.wrap IntKind.i64 ((↑(ByteArray.size s) : Int) + (1 : Int)) else IntKind.wrap IntKind.i64 ((↑(sepN (46 : UInt8) s) : Int) + (1 : Int))))) (nat_lit 9) Mode.fix)) Trie.leaf Trie.leaf) Trie.leaf) Trie.leaf)) = Heap.mk (nat_lit 9) (Trie.node none Trie.leaf (Trie.node none (Trie.node none (Trie.node (some (Blk.cells (partsL (46 : UInt8) s (0 : Nat)) (nat_lit 9) Mode.fix)) Trie.leaf Trie.leaf) Trie.leaf) Trie.leaf))) ∧ ∀ (i46 s46 : Nat) (j46 : Nat → Value), i46 + s46 = sepN (46 : UInt8) s → (decide ((↑s46 : Int) < IntKind.wrap IntKind.i64 ((if IntKind.wrap IntKind.i64 ((↑(ByteArray.size s) : Int) + (1 : Int)) < IntKind.wrap IntKind.i64 ((↑(sepN (46 : UInt8) s) : Int) + (1 : Int)) then IntKind.wrap IntKind.i64 ((↑(ByteArray.size s) : Int) + (1 : Int)) else IntKind.wrap IntKind.i64 ((↑(sepN (46 : UInt8) s) : Int) + (1 : Int))) - (1 : Int))) = true → CallK Tryd.prog (nat_lit 36) [Value.string (restB (46 : UInt8) s s46), Value.string (ByteArray.mk #[(46 : UInt8)])] (Value.int IntKind.i64 (ixB (restB (46 : UInt8) s s46) (46 : UInt8))) ∧ (decide (ixB (restB (46 : UInt8) s s46) (46 : UInt8) < (0 : Int)) = true → ((0 : Int) ≤ (↑s46 : Int) ∧ (↑s46 : Int) < (↑(Int.toNat (if IntKind.wrap IntKind.i64 ((↑(ByteArray.size s) : Int) + (1 : Int)) < IntKind.wrap IntKind.i64 ((↑(sepN (46 : UInt8) s) : Int) + (1 : Int)) then IntKind.wrap IntKind.i64 ((↑(ByteArray.size s) : Int) + (1 : Int)) else IntKind.wrap IntKind.i64 ((↑(sepN (46 : UInt8) s) : Int) + (1 : Int)))) : Int)) ∧ nat_lit 0 + Int.toNat (↑s46 : Int) * nat_lit 1 + nat_lit 1 ≤ List.length (partsL (46 : UInt8) s s46) ∧ ((0 : Int) ≤ IntKind.wrap IntKind.i64 ((↑s46 : Int) + (1 : Int)) ∧ IntKind.wrap IntKind.i64 ((↑s46 : Int) + (1 : Int)) ≤ (↑(Int.toNat (if IntKind.wrap IntKind.i64 ((↑(ByteArray.size s) : Int) + (1 : Int)) < IntKind.wrap IntKind.i64 ((↑(sepN (46 : UInt8) s) : Int) + (1 : Int)) then IntKind.wrap IntKind.i64 ((↑(ByteArray.size s) : Int) + (1 : Int)) else IntKind.wrap IntKind.i64 ((↑(sepN (46 : UInt8) s) : Int) + (1 : Int)))) : Int)) ∧ True ∧ BorR (Heap.mk (nat_lit 9) (Trie.node none Trie.leaf (Trie.node none (Trie.node none (Trie.node (some (Blk.cells (splice (partsL (46 : UInt8) s s46) (nat_lit 0 + Int.toNat (↑s46 : Int) * nat_lit 1) (Value.cellList (Value.string (restB (46 : UInt8) s s46)))) (nat_lit 9) Mode.fix)) Trie.leaf Trie.leaf) Trie.leaf) Trie.leaf))) (Value.slice (some (Addr.mk (nat_lit 8) (nat_lit 0) none)) (Int.toNat (IntKind.wrap IntKind.i64 ((↑s46 : Int) + (1 : Int)))) (Int.toNat (if IntKind.wrap IntKind.i64 ((↑(ByteArray.size s) : Int) + (1 : Int)) < IntKind.wrap IntKind.i64 ((↑(sepN (46 : UInt8) s) : Int) + (1 : Int)) then IntKind.wrap IntKind.i64 ((↑(ByteArray.size s) : Int) + (1 : Int)) else IntKind.wrap IntKind.i64 ((↑(sepN (46 : UInt8) s) : Int) + (1 : Int))))) (splitV (46 : UInt8) s)) ∧ (decide (ixB (restB (46 : UInt8) s s46) (46 : UInt8) < (0 : Int)) = false → ((0 : Int) ≤ (0 : Int) ∧ (0 : Int) ≤ IntKind.wrap IntKind.i64 (ixB (restB (46 : UInt8) s s46) (46 : UInt8) + (0 : Int)) ∧ IntKind.wrap IntKind.i64 (ixB (restB (46 : UInt8) s s46) (46 : UInt8) + (0 : Int)) ≤ (↑(ByteArray.size (restB (46 : UInt8) s s46)) : Int)) ∧ ((0 : Int) ≤ (↑s46 : Int) ∧ (↑s46 : Int) < (↑(Int.toNat (if IntKind.wrap IntKind.i64 ((↑(ByteArray.size s) : Int) + (1 : Int)) < IntKind.wrap IntKind.i64 ((↑(sepN (46 : UInt8) s) : Int) + (1 : Int)) then IntKind.wrap IntKind.i64 ((↑(ByteArray.size s) : Int) + (1 : Int)) else IntKind.wrap IntKind.i64 ((↑(sepN (46 : UInt8) s) : Int) + (1 : Int)))) : Int)) ∧ nat_lit 0 + Int.toNat (↑s46 : Int) * nat_lit 1 + nat_lit 1 ≤ List.length (partsL (46 : UInt8) s s46) ∧ ((0 : Int) ≤ IntKind.wrap IntKind.i64 (ixB (restB (46 : UInt8) s s46) (46 : UInt8) + (1 : Int)) ∧ IntKind.wrap IntKind.i64 (ixB (restB (46 : UInt8) s s46) (46 : UInt8) + (1 : Int)) ≤ (↑(ByteArray.size (restB (46 : UInt8) s s46)) : Int) ∧ (↑(ByteArray.size (restB (46 : UInt8) s s46)) : Int) ≤ (↑(ByteArray.size (restB (46 : UInt8) s s46)) : Int)) ∧ ∃ (i46' : Nat), ∃ (s46' : Nat), i46' < i46 ∧ i46' + s46' = sepN (46 : UInt8) s ∧ (Value.int IntKind.i64 (IntKind.wrap IntKind.i64 ((↑s46 : Int) + (1 : Int))) = Value.int IntKind.i64 (↑s46' : Int) ∧ Value.string (ByteArray.extract (restB (46 : UInt8) s s46) (Int.toNat (IntKind.wrap IntKind.i64 (ixB (restB (46 : UInt8) s s46) (46 : UInt8) + (1 : Int)))) (Int.toNat (↑(ByteArray.size (restB (46 : UInt8) s s46)) : Int))) = Value.string (restB (46 : UInt8) s s46')) ∧ (some (Blk.cells (splice (partsL (46 : UInt8) s s46) (nat_lit 0 + Int.toNat (↑s46 : Int) * nat_lit 1) (Value.cellList (Value.string (ByteArray.extract (restB (46 : UInt8) s s46) (Int.toNat (0 : Int)) (Int.toNat (IntKind.wrap IntKind.i64 (ixB (restB (46 : UInt8) s s46) (46 : UInt8) + (0 : Int)))))))) (nat_lit 9) Mode.fix) = some (Blk.cells (partsL (46 : UInt8) s s46') (nat_lit 9) Mode.fix) ∧ True) ∧ true = true ∧ List.all (partsL (46 : UInt8) s s46') (refsOK (nat_lit 8) (nat_lit 9)) = true ∧ True)) ∧ (decide ((↑s46 : Int) < IntKind.wrap IntKind.i64 ((if IntKind.wrap IntKind.i64 ((↑(ByteArray.size s) : Int) + (1 : Int)) < IntKind.wrap IntKind.i64 ((↑(sepN (46 : UInt8) s) : Int) + (1 : Int)) then IntKind.wrap IntKind.i64 ((↑(ByteArray.size s) : Int) + (1 : Int)) else IntKind.wrap IntKind.i64 ((↑(sepN (46 : UInt8) s) : Int) + (1 : Int))) - (1 : Int))) = false → ((0 : Int) ≤ (↑s46 : Int) ∧ (↑s46 : Int) < (↑(Int.toNat (if IntKind.wrap IntKind.i64 ((↑(ByteArray.size s) : Int) + (1 : Int)) < IntKind.wrap IntKind.i64 ((↑(sepN (46 : UInt8) s) : Int) + (1 : Int)) then IntKind.wrap IntKind.i64 ((↑(ByteArray.size s) : Int) + (1 : Int)) else IntKind.wrap IntKind.i64 ((↑(sepN (46 : UInt8) s) : Int) + (1 : Int)))) : Int)) ∧ nat_lit 0 + Int.toNat (↑s46 : Int) * nat_lit 1 + nat_lit 1 ≤ List.length (partsL (46 : UInt8) s s46) ∧ ((0 : Int) ≤ IntKind.wrap IntKind.i64 ((↑s46 : Int) + (1 : Int)) ∧ IntKind.wrap IntKind.i64 ((↑s46 : Int) + (1 : Int)) ≤ (↑(Int.toNat (if IntKind.wrap IntKind.i64 ((↑(ByteArray.size s) : Int) + (1 : Int)) < IntKind.wrap IntKind.i64 ((↑(sepN (46 : UInt8) s) : Int) + (1 : Int)) then IntKind.wrap IntKind.i64 ((↑(ByteArray.size s) : Int) + (1 : Int)) else IntKind.wrap IntKind.i64 ((↑(sepN (46 : UInt8) s) : Int) + (1 : Int)))) : Int)) ∧ True ∧ BorR (Heap.mk (nat_lit 9) (Trie.node none Trie.leaf (Trie.node none (Trie.node none (Trie.node (some (Blk.cells (splice (partsL (46 : UInt8) s s46) (nat_lit 0 + Int.toNat (↑s46 : Int) * nat_lit 1) (Value.cellList (Value.string (restB (46 : UInt8) s s46)))) (nat_lit 9) Mode.fix)) Trie.leaf Trie.leaf) Trie.leaf) Trie.leaf))) (Value.slice (some (Addr.mk (nat_lit 8) (nat_lit 0) none)) (Int.toNat (IntKind.wrap IntKind.i64 ((↑s46 : Int) + (1 : Int)))) (Int.toNat (if IntKind.wrap IntKind.i64 ((↑(ByteArray.size s) : Int) + (1 : Int)) < IntKind.wrap IntKind.i64 ((↑(sepN (46 : UInt8) s) : Int) + (1 : Int)) then IntKind.wrap IntKind.i64 ((↑(ByteArray.size s) : Int) + (1 : Int)) else IntKind.wrap IntKind.i64 ((↑(sepN (46 : UInt8) s) : Int) + (1 : Int))))) (splitV (46 : UInt8) s))) (by kernel_rfl) (by
    have hN := sepN_le 46 s
    have hl := sepN_len 46 s
    have e1 : IntKind.i64.wrap ((sepN 46 s : Int) + 1) = (sepN 46 s : Int) + 1 := wrap_in (by omega) (by omega)
    have e2 : IntKind.i64.wrap ((s.size : Int) + 1) = (s.size : Int) + 1 := wrap_in (by omega) (by omega)
    have e3 : (if (s.size : Int) + 1 < (sepN 46 s : Int) + 1 then (s.size : Int) + 1 else (sepN 46 s : Int) + 1) = (sepN 46 s : Int) + 1 := by split <;> omega
    have e4 : ((sepN 46 s : Int) + 1).toNat = sepN 46 s + 1 := by omega
    have e5 : IntKind.i64.wrap ((sepN 46 s : Int) + 1 - 1) = (sepN 46 s : Int) := by rw [wrap_in (by omega) (by omega)]; omega
    simp only [e1, e2, e3, e4, e5]
    have tail : ∀ k : Nat, k = sepN 46 s → splice (partsL 46 s k) (0 + (k : Int).toNat * 1) (Value.cellList (.string (restB 46 s k))) = strsV (splitL 46 s.data.toList) := fun k hk => by
      rw [last_bs 46 s hk, show 0 + (k : Int).toNat * 1 = k from by omega]
      have := partsL_next 46 s (i := k) (by omega)
      refine Eq.trans this ?_
      rw [hk, partsL_end]
    have fin : ∀ k : Nat, k = sepN 46 s → (IntKind.i64.wrap ((k : Int) + 1)).toNat = (splitL 46 s.data.toList).length := fun k hk => by
      rw [wrap_in (by omega) (by omega)]; omega
    have wr : ∀ k : Nat, k ≤ sepN 46 s → IntKind.i64.wrap ((k : Int) + 1) = ((k + 1 : Nat) : Int) := fun k hk => by
      rw [wrap_in (by omega) (by omega)]; omega
    refine ⟨cnt46_w s, ⟨by omega, by omega, ?_⟩, ⟨by omega, ⟨by first | exact rfl | exact trivial, congrArg Value.string (restB_zero 46 s).symm⟩, blk8 ?_⟩, fun i k j q => ⟨fun h1 => ⟨index46_w _, fun h2 => ?_, fun h2 => ?_⟩, fun h1 => ?_⟩⟩
    · have : ((Tryd.prog.toTables.types[9]).bytes : Int) = 16 := rfl
      rw [this]; omega
    · exact zeros_strs (splitL 46 s.data.toList) _ hl.symm
    · have hk : k = sepN 46 s := by
        have h2 := of_decide_eq_true h2
        have h1 := of_decide_eq_true h1
        have hlt : k < sepN 46 s := by omega
        have := ix_more 46 s hlt
        unfold ixB at h2
        omega
      refine ⟨⟨by omega, by omega⟩, by rw [partsL_len 46 s (by omega)]; omega, ⟨by rw [wr k (by omega)]; omega, by rw [wr k (by omega)]; omega⟩, trivial, bor_strs (splitL 46 s.data.toList) rfl (tail k hk) (fin k hk) hl.symm ?_⟩
      unfold splitV
      rw [hl]
    · have hlt : k < sepN 46 s := by have h1 := of_decide_eq_true h1; omega
      have hx := ix_more 46 s hlt
      have hc := cut_more 46 s hlt
      have hz := restB_size 46 s k
      have hx2 : ixB (restB 46 s k) 46 = ((pcL 46 s k).length : Int) := hx
      rw [hx2]
      have w0 : IntKind.i64.wrap (((pcL 46 s k).length : Int) + 0) = ((pcL 46 s k).length : Int) := by rw [wrap_in (by omega) (by omega)]; omega
      have w1 : IntKind.i64.wrap (((pcL 46 s k).length : Int) + 1) = (((pcL 46 s k).length + 1 : Nat) : Int) := by rw [wrap_in (by omega) (by omega)]; omega
      rw [w0, w1]
      refine ⟨⟨by omega, by omega, by omega⟩, ⟨by omega, by omega⟩, by rw [partsL_len 46 s (by omega)]; omega, ⟨by omega, by omega, by omega⟩, i - 1, k + 1, by omega, by omega, ⟨congrArg (Value.int .i64) (wr k (by omega)), congrArg Value.string ?_⟩, ⟨congrArg (fun c => some (Blk.cells c 9 .fix)) ?_, trivial⟩, by first | exact rfl | exact trivial, refs_parts 46 s (k + 1) _ _, trivial⟩
      · simp only [Int.toNat_natCast]; exact hc.2.1
      · simp only [Int.toNat_natCast]; rw [show Int.toNat 0 = 0 from rfl, hc.1, show 0 + k * 1 = k from by omega]
        exact partsL_next 46 s (by omega)
    · have hk : k = sepN 46 s := by have h1 := of_decide_eq_false h1; omega
      refine ⟨⟨by omega, by omega⟩, by rw [partsL_len 46 s (by omega)]; omega, ⟨by rw [wr k (by omega)]; omega, by rw [wr k (by omega)]; omega⟩, trivial, bor_strs (splitL 46 s.data.toList) rfl (tail k hk) (fin k hk) hl.symm ?_⟩
      unfold splitV
      rw [hl])
end Go.Proofs.YtkoomfldnbpndaaDoor

end
