/- Texts packed together: CLaw33. -/
import Derived.Test.YtepijhnfeafmaaaZ22
section
/- Of any config and interface whose any slot is, and any frame's wait: the walk of the law. -/
set_option linter.unusedVariables false
set_option linter.unusedSimpArgs false
set_option maxRecDepth 100000
namespace Go.Proofs.Ytepijhnfeafmaaa
open Go Go.Ideal

theorem labelsC_le (c : Conf) (i : Int) : (labelsC c i).length ≤ c.labels.length := by
  unfold labelsC
  split
  · exact Nat.le_trans (List.length_filter_le _ _) (by simp)
  · exact Nat.zero_le _
theorem waits_w (c : Conf) (i slot label place : Int) (hw : ConfWf c) : CallK Try.prog 6 [confV c, .int .i64 i, .int .i64 slot, .int .i64 label, .int .i64 place] (.bool true) :=
  CallK.via progOK (pfs []) [] 100 (Adv.jn (4 : Nat) True [(nat_lit 37, Value.bool (greatC c || decide (place > (50 : Int)) && decide (place ≤ (1000000 : Int))))]
  (Heap.mk (nat_lit 1) (Trie.node (some (Blk.cells (confL c) (nat_lit 31) Mode.fix)) Trie.leaf Trie.leaf))
  (Adv.pur (6 : Nat) (Value.bool (greatC c))
    (Adv.split (7 : Nat) Adv.nil (Adv.split (10 : Nat) (Adv.split (15 : Nat) Adv.nil (Adv.pur (16 : Nat) (Value.bool true) Adv.nil)) (Adv.pur (14 : Nat) (Value.bool true) Adv.nil))))
  fun (j4 : Nat → Value) =>
  Adv.cnd (5 : Nat) (Adv.pur (7 : Nat) (Value.bool true) Adv.nil)
    (Adv.pur (9 : Nat) (Value.iface (nat_lit 1000000) (Value.tuple (Array.mk [Value.int IntKind.i64 (↑(List.length (labelsC c i)) : Int), Value.agg (Array.mk (intsL (labelsC c i)))])))
      (Adv.cas (14 : Nat) ((↑(List.length (labelsC c i)) : Int) == (0 : Int))
        (Adv.pur (14 : Nat) (Value.tuple (Array.mk [Value.pointer none, Value.int IntKind.i64 (1 : Int)])) (Adv.cnk (25 : Nat) true Adv.nil))
        (Adv.pur (14 : Nat)
          (Value.tuple
            (Array.mk
              [Value.iface (nat_lit 1000001)
                  (Value.tuple
                    (Array.mk
                      [Value.int IntKind.i64 (0 : Int),
                        Value.agg
                          (Array.mk
                            [Value.iface (nat_lit 1000000) (Value.tuple (Array.mk [Value.int IntKind.i64 (↑(List.length (labelsC c i)) : Int), Value.agg (Array.mk (intsL (labelsC c i)))])),
                              Value.int IntKind.i64 (Quot.queue (Conf.quotas c))])])),
                Value.int IntKind.i64 (0 : Int)]))
          (Adv.cnk (25 : Nat) false
            (Adv.pur (36 : Nat) (Value.int IntKind.i64 (↑(List.length (labelsC c i)) : Int))
              (Adv.cnd (41 : Nat) Adv.nil
                (Adv.pur (47 : Nat) (Value.tuple (Array.mk [Value.int IntKind.i64 (waitW (labelsC c i) slot label place), Value.bool (askedB (labelsC c i) slot label place)]))
                  (Adv.pur (57 : Nat)
                    (Value.tuple
                      (Array.mk
                        [Value.int IntKind.i64 (if askedB (labelsC c i) (0 : Int) label place = true then (place + (1 : Int)) * (↑(List.length (labelsC c i)) : Int) else (0 : Int)),
                          Value.bool (askedB (labelsC c i) (0 : Int) label place)]))
                    (Adv.loop (68 : Nat) (fun (k : Nat) => [((19 : Nat), Value.int IntKind.i64 (↑k : Int)), ((18 : Nat), Value.bool (inB (labelsC c i) label k))])
                      ((fun (h : Heap) (x : Nat) => h) (Heap.mk (nat_lit 1) (Trie.node (some (Blk.cells (confL c) (nat_lit 31) Mode.fix)) Trie.leaf Trie.leaf)))
                      (fun (m k : Nat) => m + k = List.length (labelsC c i)) (List.length (labelsC c i)) (0 : Nat) fun (i68 s68 : Nat) (j68 : Nat → Value) =>
                      Adv.cnd (75 : Nat)
                        (Adv.split (78 : Nat) Adv.nil (Adv.chk (81 : Nat) none (Adv.chk (82 : Nat) (some (Value.int IntKind.i64 (↑(List.getD (labelsC c i) s68 (0 : Nat)) : Int))) Adv.nil)))
                        (Adv.jn (77 : Nat) True
                          [(nat_lit 124,
                              Value.bool
                                (bif decide (slot < (0 : Int)) then
                                  (if slot < (0 : Int) then (-1 : Int) else (↑(List.getD (labelsC c i) (Int.toNat (Int.tmod slot (↑(List.length (labelsC c i)) : Int))) (0 : Nat)) : Int)) !=
                                      (-1 : Int) ||
                                    decide (slot ≥ (0 : Int)) &&
                                      (if slot < (0 : Int) then (-1 : Int) else (↑(List.getD (labelsC c i) (Int.toNat (Int.tmod slot (↑(List.length (labelsC c i)) : Int))) (0 : Nat)) : Int)) !=
                                        (↑(List.getD (labelsC c i) (Int.toNat (Int.tmod slot (↑(List.length (labelsC c i)) : Int))) (0 : Nat)) : Int)
                                else
                                  decide (slot ≥ (0 : Int)) &&
                                    (if slot < (0 : Int) then (-1 : Int) else (↑(List.getD (labelsC c i) (Int.toNat (Int.tmod slot (↑(List.length (labelsC c i)) : Int))) (0 : Nat)) : Int)) !=
                                      (↑(List.getD (labelsC c i) (Int.toNat (Int.tmod slot (↑(List.length (labelsC c i)) : Int))) (0 : Nat)) : Int)))]
                          (Heap.mk (nat_lit 1) (Trie.node (some (Blk.cells (confL c) (nat_lit 31) Mode.fix)) Trie.leaf Trie.leaf))
                          (Adv.split (80 : Nat)
                            (Adv.pur (83 : Nat)
                              (Value.int IntKind.i64
                                (if slot < (0 : Int) then (-1 : Int) else (↑(List.getD (labelsC c i) (Int.toNat (Int.tmod slot (↑(List.length (labelsC c i)) : Int))) (0 : Nat)) : Int)))
                              (Adv.split (86 : Nat) Adv.nil
                                (Adv.split (89 : Nat)
                                  (Adv.pur (92 : Nat)
                                    (Value.int IntKind.i64
                                      (if slot < (0 : Int) then (-1 : Int) else (↑(List.getD (labelsC c i) (Int.toNat (Int.tmod slot (↑(List.length (labelsC c i)) : Int))) (0 : Nat)) : Int)))
                                    (Adv.chk (97 : Nat) none
                                      (Adv.chk (98 : Nat) none
                                        (Adv.chk (99 : Nat) (some (Value.int IntKind.i64 (↑(List.getD (labelsC c i) (Int.toNat (Int.tmod slot (↑(List.length (labelsC c i)) : Int))) (0 : Nat)) : Int)))
                                          Adv.nil))))
                                  Adv.nil)))
                            (Adv.split (85 : Nat)
                              (Adv.pur (88 : Nat)
                                (Value.int IntKind.i64
                                  (if slot < (0 : Int) then (-1 : Int) else (↑(List.getD (labelsC c i) (Int.toNat (Int.tmod slot (↑(List.length (labelsC c i)) : Int))) (0 : Nat)) : Int)))
                                (Adv.chk (93 : Nat) none
                                  (Adv.chk (94 : Nat) none
                                    (Adv.chk (95 : Nat) (some (Value.int IntKind.i64 (↑(List.getD (labelsC c i) (Int.toNat (Int.tmod slot (↑(List.length (labelsC c i)) : Int))) (0 : Nat)) : Int)))
                                      Adv.nil))))
                              Adv.nil))
                          fun (j77 : Nat → Value) =>
                          Adv.cnd (78 : Nat) Adv.nil
                            (Adv.jn (79 : Nat) True [(nat_lit 20, Value.bool (inB (labelsC c i) label s68 && (decide (place ≥ (0 : Int)) && decide (place ≤ (1000000 : Int)))))]
                              (Heap.mk (nat_lit 1) (Trie.node (some (Blk.cells (confL c) (nat_lit 31) Mode.fix)) Trie.leaf Trie.leaf))
                              (Adv.split (81 : Nat) (Adv.split (85 : Nat) Adv.nil Adv.nil) Adv.nil) fun (j79 : Nat → Value) =>
                              Adv.jn (81 : Nat) True
                                [(nat_lit 161,
                                    Value.bool
                                      (bif inB (labelsC c i) label s68 && (decide (place ≥ (0 : Int)) && decide (place ≤ (1000000 : Int))) then
                                        !askedB (labelsC c i) slot label place == decide (slot ≥ (0 : Int)) ||
                                          (!askedB (labelsC c i) (0 : Int) label place == (inB (labelsC c i) label s68 && (decide (place ≥ (0 : Int)) && decide (place ≤ (1000000 : Int)))) ||
                                            bif !askedB (labelsC c i) slot label place then
                                              waitW (labelsC c i) slot label place != (0 : Int) ||
                                                !askedB (labelsC c i) (0 : Int) label place &&
                                                  (if askedB (labelsC c i) (0 : Int) label place = true then (place + (1 : Int)) * (↑(List.length (labelsC c i)) : Int) else (0 : Int)) != (0 : Int)
                                            else
                                              !askedB (labelsC c i) (0 : Int) label place &&
                                                (if askedB (labelsC c i) (0 : Int) label place = true then (place + (1 : Int)) * (↑(List.length (labelsC c i)) : Int) else (0 : Int)) != (0 : Int))
                                      else
                                        !askedB (labelsC c i) slot label place == false ||
                                          (!askedB (labelsC c i) (0 : Int) label place == (inB (labelsC c i) label s68 && (decide (place ≥ (0 : Int)) && decide (place ≤ (1000000 : Int)))) ||
                                            bif !askedB (labelsC c i) slot label place then
                                              waitW (labelsC c i) slot label place != (0 : Int) ||
                                                !askedB (labelsC c i) (0 : Int) label place &&
                                                  (if askedB (labelsC c i) (0 : Int) label place = true then (place + (1 : Int)) * (↑(List.length (labelsC c i)) : Int) else (0 : Int)) != (0 : Int)
                                            else
                                              !askedB (labelsC c i) (0 : Int) label place &&
                                                (if askedB (labelsC c i) (0 : Int) label place = true then (place + (1 : Int)) * (↑(List.length (labelsC c i)) : Int) else (0 : Int)) != (0 : Int))))]
                                (Heap.mk (nat_lit 1) (Trie.node (some (Blk.cells (confL c) (nat_lit 31) Mode.fix)) Trie.leaf Trie.leaf))
                                (Adv.split (84 : Nat)
                                  (Adv.split (89 : Nat) Adv.nil
                                    (Adv.split (94 : Nat) Adv.nil
                                      (Adv.split (97 : Nat) (Adv.split (102 : Nat) Adv.nil (Adv.split (105 : Nat) Adv.nil Adv.nil)) (Adv.split (103 : Nat) Adv.nil Adv.nil))))
                                  (Adv.split (87 : Nat) Adv.nil
                                    (Adv.split (92 : Nat) Adv.nil
                                      (Adv.split (95 : Nat) (Adv.split (100 : Nat) Adv.nil (Adv.split (103 : Nat) Adv.nil Adv.nil)) (Adv.split (101 : Nat) Adv.nil Adv.nil)))))
                                fun (j81 : Nat → Value) =>
                                Adv.cnd (82 : Nat) Adv.nil
                                  (Adv.cnd (87 : Nat) Adv.nil
                                    (Adv.chk (97 : Nat) none
                                      (Adv.loop (100 : Nat)
                                        (fun (s : Int × Int × Int) =>
                                          [((21 : Nat), Value.int IntKind.i64 (Prod.fst s)), ((22 : Nat), Value.int IntKind.i64 (Prod.fst (Prod.snd s))),
                                            ((23 : Nat), Value.int IntKind.i64 (Prod.snd (Prod.snd s)))])
                                        ((fun (h : Heap) (x : Int × Int × Int) => h) (Heap.mk (nat_lit 1) (Trie.node (some (Blk.cells (confL c) (nat_lit 31) Mode.fix)) Trie.leaf Trie.leaf)))
                                        (fun (m : Nat) (s : Int × Int × Int) => WaitInv (labelsC c i) label slot place m s)
                                        (Int.toNat (waitI (↑(List.length (labelsC c i)) : Int) (placeI (labelsC c i) label) (Int.tmod slot (↑(List.length (labelsC c i)) : Int)) place))
                                        (place + (1 : Int), (0 : Int), Int.tmod slot (↑(List.length (labelsC c i)) : Int)) fun (i100 : Nat) (s100 : Int × Int × Int) (j100 : Nat → Value) =>
                                        Adv.cnd (105 : Nat)
                                          (Adv.chk (110 : Nat) none
                                            (Adv.chk (111 : Nat) (some (Value.int IntKind.i64 (↑(List.getD (labelsC c i) (Int.toNat (Prod.snd (Prod.snd s100))) (0 : Nat)) : Int)))
                                              (Adv.cnd (114 : Nat) (Adv.chk (126 : Nat) none Adv.nil) (Adv.chk (123 : Nat) none Adv.nil))))
                                          (Adv.jn (106 : Nat) True
                                            [(nat_lit 10,
                                                Value.bool
                                                  (waitW (labelsC c i) slot label place == Prod.fst (Prod.snd s100) &&
                                                    (if askedB (labelsC c i) (0 : Int) label place = true then (place + (1 : Int)) * (↑(List.length (labelsC c i)) : Int) else (0 : Int)) ==
                                                      IntKind.wrap IntKind.i64 (IntKind.wrap IntKind.i64 (place + (1 : Int)) * (↑(List.length (labelsC c i)) : Int))))]
                                            (Heap.mk (nat_lit 1) (Trie.node (some (Blk.cells (confL c) (nat_lit 31) Mode.fix)) Trie.leaf Trie.leaf)) (Adv.split (110 : Nat) Adv.nil Adv.nil)
                                            fun (j106 : Nat → Value) => Adv.nil)))))))))))))))) (by kernel_rfl) (by kernel_rfl) (p := (CallK Try.prog (nat_lit 15) [Value.agg (Array.mk (confL c))] (Value.bool (greatC c)) ∧
    (greatC c = true →
        True ∧
          Value.bool true = Value.bool (greatC c || decide (place > (50 : Int)) && decide (place ≤ (1000000 : Int))) ∧
            true = true ∧ some (Blk.cells (confL c) (nat_lit 31) Mode.fix) = some (Blk.cells (confL c) (nat_lit 31) Mode.fix) ∧ True) ∧
      (greatC c = false →
        (decide (place > (50 : Int)) = true →
            (decide (place ≤ (1000000 : Int)) = true →
                True ∧
                  Value.bool true = Value.bool (greatC c || decide (place > (50 : Int)) && decide (place ≤ (1000000 : Int))) ∧
                    true = true ∧ some (Blk.cells (confL c) (nat_lit 31) Mode.fix) = some (Blk.cells (confL c) (nat_lit 31) Mode.fix) ∧ True) ∧
              (decide (place ≤ (1000000 : Int)) = false →
                CallK Try.prog (nat_lit 26) [] (Value.bool true) ∧
                  True ∧
                    Value.bool false = Value.bool (greatC c || decide (place > (50 : Int)) && decide (place ≤ (1000000 : Int))) ∧
                      true = true ∧ some (Blk.cells (confL c) (nat_lit 31) Mode.fix) = some (Blk.cells (confL c) (nat_lit 31) Mode.fix) ∧ True)) ∧
          (decide (place > (50 : Int)) = false →
            CallK Try.prog (nat_lit 26) [] (Value.bool true) ∧
              True ∧
                Value.bool false = Value.bool (greatC c || decide (place > (50 : Int)) && decide (place ≤ (1000000 : Int))) ∧
                  true = true ∧ some (Blk.cells (confL c) (nat_lit 31) Mode.fix) = some (Blk.cells (confL c) (nat_lit 31) Mode.fix) ∧ True))) ∧
  (True →
    ∀ (j4 : Nat → Value),
      ((greatC c || decide (place > (50 : Int)) && decide (place ≤ (1000000 : Int))) = true → CallK Try.prog (nat_lit 26) [] (Value.bool true) ∧ Value.bool true = Value.bool true) ∧
        ((greatC c || decide (place > (50 : Int)) && decide (place ≤ (1000000 : Int))) = false →
          CallK Try.prog (nat_lit 27) [Value.agg (Array.mk (confL c)), Value.int IntKind.i64 i]
              (Value.iface (nat_lit 1000000) (Value.tuple (Array.mk [Value.int IntKind.i64 (↑(List.length (labelsC c i)) : Int), Value.agg (Array.mk (intsL (labelsC c i)))]))) ∧
            (((↑(List.length (labelsC c i)) : Int) == (0 : Int)) = true →
                CallK Try.prog (nat_lit 28) [Value.agg (Array.mk (confL c)), Value.int IntKind.i64 i] (Value.tuple (Array.mk [Value.pointer none, Value.int IntKind.i64 (1 : Int)])) ∧
                  ((↑(List.length (labelsC c i)) : Int) == (0 : Int)) = true ∧ Value.bool true = Value.bool true) ∧
              (((↑(List.length (labelsC c i)) : Int) == (0 : Int)) = false →
                CallK Try.prog (nat_lit 28) [Value.agg (Array.mk (confL c)), Value.int IntKind.i64 i]
                    (Value.tuple
                      (Array.mk
                        [Value.iface (nat_lit 1000001)
                            (Value.tuple
                              (Array.mk
                                [Value.int IntKind.i64 (0 : Int),
                                  Value.agg
                                    (Array.mk
                                      [Value.iface (nat_lit 1000000) (Value.tuple (Array.mk [Value.int IntKind.i64 (↑(List.length (labelsC c i)) : Int), Value.agg (Array.mk (intsL (labelsC c i)))])),
                                        Value.int IntKind.i64 (Quot.queue (Conf.quotas c))])])),
                          Value.int IntKind.i64 (0 : Int)])) ∧
                  ((↑(List.length (labelsC c i)) : Int) == (0 : Int)) = false ∧
                    CallK Try.prog (nat_lit 29)
                        [Value.iface (nat_lit 1000001)
                            (Value.tuple
                              (Array.mk
                                [Value.int IntKind.i64 (0 : Int),
                                  Value.agg
                                    (Array.mk
                                      [Value.iface (nat_lit 1000000) (Value.tuple (Array.mk [Value.int IntKind.i64 (↑(List.length (labelsC c i)) : Int), Value.agg (Array.mk (intsL (labelsC c i)))])),
                                        Value.int IntKind.i64 (Quot.queue (Conf.quotas c))])]))]
                        (Value.int IntKind.i64 (↑(List.length (labelsC c i)) : Int)) ∧
                      (((↑(List.length (labelsC c i)) : Int) != (↑(List.length (labelsC c i)) : Int)) = true → Value.bool false = Value.bool true) ∧
                        (((↑(List.length (labelsC c i)) : Int) != (↑(List.length (labelsC c i)) : Int)) = false →
                          CallK Try.prog (nat_lit 30)
                              [Value.iface (nat_lit 1000001)
                                  (Value.tuple
                                    (Array.mk
                                      [Value.int IntKind.i64 (0 : Int),
                                        Value.agg
                                          (Array.mk
                                            [Value.iface (nat_lit 1000000)
                                                (Value.tuple (Array.mk [Value.int IntKind.i64 (↑(List.length (labelsC c i)) : Int), Value.agg (Array.mk (intsL (labelsC c i)))])),
                                              Value.int IntKind.i64 (Quot.queue (Conf.quotas c))])])),
                                Value.int IntKind.i64 slot, Value.int IntKind.i64 label, Value.int IntKind.i64 place]
                              (Value.tuple (Array.mk [Value.int IntKind.i64 (waitW (labelsC c i) slot label place), Value.bool (askedB (labelsC c i) slot label place)])) ∧
                            CallK Try.prog (nat_lit 31)
                                [Value.iface (nat_lit 1000001)
                                    (Value.tuple
                                      (Array.mk
                                        [Value.int IntKind.i64 (0 : Int),
                                          Value.agg
                                            (Array.mk
                                              [Value.iface (nat_lit 1000000)
                                                  (Value.tuple (Array.mk [Value.int IntKind.i64 (↑(List.length (labelsC c i)) : Int), Value.agg (Array.mk (intsL (labelsC c i)))])),
                                                Value.int IntKind.i64 (Quot.queue (Conf.quotas c))])])),
                                  Value.int IntKind.i64 label, Value.int IntKind.i64 place]
                                (Value.tuple
                                  (Array.mk
                                    [Value.int IntKind.i64 (if askedB (labelsC c i) (0 : Int) label place = true then (place + (1 : Int)) * (↑(List.length (labelsC c i)) : Int) else (0 : Int)),
                                      Value.bool (askedB (labelsC c i) (0 : Int) label place)])) ∧
                              (List.length (labelsC c i) + (0 : Nat) = List.length (labelsC c i) ∧
                                  (Value.int IntKind.i64 (0 : Int) = Value.int IntKind.i64 (0 : Int) ∧ Value.bool false = Value.bool false) ∧
                                    Heap.mk (nat_lit 1) (Trie.node (some (Blk.cells (confL c) (nat_lit 31) Mode.fix)) Trie.leaf Trie.leaf) =
                                      Heap.mk (nat_lit 1) (Trie.node (some (Blk.cells (confL c) (nat_lit 31) Mode.fix)) Trie.leaf Trie.leaf)) ∧
                                ∀ (i68 s68 : Nat) (j68 : Nat → Value),
                                  i68 + s68 = List.length (labelsC c i) →
                                    (decide ((↑s68 : Int) < (↑(List.length (labelsC c i)) : Int)) = true →
                                        (inB (labelsC c i) label s68 = true →
                                            ∃ (i68' : Nat),
                                              ∃ (s68' : Nat),
                                                i68' < i68 ∧
                                                  i68' + s68' = List.length (labelsC c i) ∧
                                                    (Value.int IntKind.i64 (IntKind.wrap IntKind.i64 ((↑s68 : Int) + (1 : Int))) = Value.int IntKind.i64 (↑s68' : Int) ∧
                                                        Value.bool true = Value.bool (inB (labelsC c i) label s68')) ∧
                                                      (some (Blk.cells (confL c) (nat_lit 31) Mode.fix) = some (Blk.cells (confL c) (nat_lit 31) Mode.fix) ∧ True) ∧ true = true ∧ true = true ∧ True) ∧
                                          (inB (labelsC c i) label s68 = false →
                                            ((0 : Int) ≤ (↑s68 : Int) ∧ (↑s68 : Int) < (↑(List.length (labelsC c i)) : Int)) ∧
                                              Ask.holds Try.prog
                                                  (Ask.part (Array.toList (Array.mk (intsL (labelsC c i)))) (Int.toNat (↑(Int.toNat (↑s68 : Int) * nat_lit 1) : Int)) (nat_lit 1)
                                                    [Value.int IntKind.i64 (↑(List.getD (labelsC c i) s68 (0 : Nat)) : Int)]) ∧
                                                ∃ (i68' : Nat),
                                                  ∃ (s68' : Nat),
                                                    i68' < i68 ∧
                                                      i68' + s68' = List.length (labelsC c i) ∧
                                                        (Value.int IntKind.i64 (IntKind.wrap IntKind.i64 ((↑s68 : Int) + (1 : Int))) = Value.int IntKind.i64 (↑s68' : Int) ∧
                                                            Value.bool ((↑(List.getD (labelsC c i) s68 (0 : Nat)) : Int) == label) = Value.bool (inB (labelsC c i) label s68')) ∧
                                                          (some (Blk.cells (confL c) (nat_lit 31) Mode.fix) = some (Blk.cells (confL c) (nat_lit 31) Mode.fix) ∧ True) ∧
                                                            true = true ∧ true = true ∧ True)) ∧
                                      (decide ((↑s68 : Int) < (↑(List.length (labelsC c i)) : Int)) = false →
                                        ((decide (slot < (0 : Int)) = true →
                                              CallK Try.prog (nat_lit 32)
                                                  [Value.iface (nat_lit 1000001)
                                                      (Value.tuple
                                                        (Array.mk
                                                          [Value.int IntKind.i64 (0 : Int),
                                                            Value.agg
                                                              (Array.mk
                                                                [Value.iface (nat_lit 1000000)
                                                                    (Value.tuple (Array.mk [Value.int IntKind.i64 (↑(List.length (labelsC c i)) : Int), Value.agg (Array.mk (intsL (labelsC c i)))])),
                                                                  Value.int IntKind.i64 (Quot.queue (Conf.quotas c))])])),
                                                    Value.int IntKind.i64 slot]
                                                  (Value.int IntKind.i64
                                                    (if slot < (0 : Int) then (-1 : Int)
                                                    else (↑(List.getD (labelsC c i) (Int.toNat (Int.tmod slot (↑(List.length (labelsC c i)) : Int))) (0 : Nat)) : Int))) ∧
                                                (((if slot < (0 : Int) then (-1 : Int)
                                                        else (↑(List.getD (labelsC c i) (Int.toNat (Int.tmod slot (↑(List.length (labelsC c i)) : Int))) (0 : Nat)) : Int)) !=
                                                        (-1 : Int)) =
                                                      true →
                                                    True ∧
                                                      True ∧
                                                        Value.bool true =
                                                            Value.bool
                                                              (bif decide (slot < (0 : Int)) then
                                                                (if slot < (0 : Int) then (-1 : Int)
                                                                    else (↑(List.getD (labelsC c i) (Int.toNat (Int.tmod slot (↑(List.length (labelsC c i)) : Int))) (0 : Nat)) : Int)) !=
                                                                    (-1 : Int) ||
                                                                  decide (slot ≥ (0 : Int)) &&
                                                                    (if slot < (0 : Int) then (-1 : Int)
                                                                      else (↑(List.getD (labelsC c i) (Int.toNat (Int.tmod slot (↑(List.length (labelsC c i)) : Int))) (0 : Nat)) : Int)) !=
                                                                      (↑(List.getD (labelsC c i) (Int.toNat (Int.tmod slot (↑(List.length (labelsC c i)) : Int))) (0 : Nat)) : Int)
                                                              else
                                                                decide (slot ≥ (0 : Int)) &&
                                                                  (if slot < (0 : Int) then (-1 : Int)
                                                                    else (↑(List.getD (labelsC c i) (Int.toNat (Int.tmod slot (↑(List.length (labelsC c i)) : Int))) (0 : Nat)) : Int)) !=
                                                                    (↑(List.getD (labelsC c i) (Int.toNat (Int.tmod slot (↑(List.length (labelsC c i)) : Int))) (0 : Nat)) : Int)) ∧
                                                          true = true ∧ some (Blk.cells (confL c) (nat_lit 31) Mode.fix) = some (Blk.cells (confL c) (nat_lit 31) Mode.fix) ∧ True) ∧
                                                  (((if slot < (0 : Int) then (-1 : Int)
                                                        else (↑(List.getD (labelsC c i) (Int.toNat (Int.tmod slot (↑(List.length (labelsC c i)) : Int))) (0 : Nat)) : Int)) !=
                                                        (-1 : Int)) =
                                                      false →
                                                    (decide (slot ≥ (0 : Int)) = true →
                                                        CallK Try.prog (nat_lit 32)
                                                            [Value.iface (nat_lit 1000001)
                                                                (Value.tuple
                                                                  (Array.mk
                                                                    [Value.int IntKind.i64 (0 : Int),
                                                                      Value.agg
                                                                        (Array.mk
                                                                          [Value.iface (nat_lit 1000000)
                                                                              (Value.tuple
                                                                                (Array.mk [Value.int IntKind.i64 (↑(List.length (labelsC c i)) : Int), Value.agg (Array.mk (intsL (labelsC c i)))])),
                                                                            Value.int IntKind.i64 (Quot.queue (Conf.quotas c))])])),
                                                              Value.int IntKind.i64 slot]
                                                            (Value.int IntKind.i64
                                                              (if slot < (0 : Int) then (-1 : Int)
                                                              else (↑(List.getD (labelsC c i) (Int.toNat (Int.tmod slot (↑(List.length (labelsC c i)) : Int))) (0 : Nat)) : Int))) ∧
                                                          (↑(List.length (labelsC c i)) : Int) ≠ (0 : Int) ∧
                                                            ((0 : Int) ≤ Int.tmod slot (↑(List.length (labelsC c i)) : Int) ∧
                                                                Int.tmod slot (↑(List.length (labelsC c i)) : Int) < (↑(List.length (labelsC c i)) : Int)) ∧
                                                              Ask.holds Try.prog
                                                                  (Ask.part (Array.toList (Array.mk (intsL (labelsC c i))))
                                                                    (Int.toNat (↑(Int.toNat (Int.tmod slot (↑(List.length (labelsC c i)) : Int)) * nat_lit 1) : Int)) (nat_lit 1)
                                                                    [Value.int IntKind.i64
                                                                        (↑(List.getD (labelsC c i) (Int.toNat (Int.tmod slot (↑(List.length (labelsC c i)) : Int))) (0 : Nat)) : Int)]) ∧
                                                                True ∧
                                                                  True ∧
                                                                    Value.bool
                                                                          ((if slot < (0 : Int) then (-1 : Int)
                                                                            else (↑(List.getD (labelsC c i) (Int.toNat (Int.tmod slot (↑(List.length (labelsC c i)) : Int))) (0 : Nat)) : Int)) !=
                                                                            (↑(List.getD (labelsC c i) (Int.toNat (Int.tmod slot (↑(List.length (labelsC c i)) : Int))) (0 : Nat)) : Int)) =
                                                                        Value.bool
                                                                          (bif decide (slot < (0 : Int)) then
                                                                            (if slot < (0 : Int) then (-1 : Int)
                                                                                else (↑(List.getD (labelsC c i) (Int.toNat (Int.tmod slot (↑(List.length (labelsC c i)) : Int))) (0 : Nat)) : Int)) !=
                                                                                (-1 : Int) ||
                                                                              decide (slot ≥ (0 : Int)) &&
                                                                                (if slot < (0 : Int) then (-1 : Int)
                                                                                  else (↑(List.getD (labelsC c i) (Int.toNat (Int.tmod slot (↑(List.length (labelsC c i)) : Int))) (0 : Nat)) : Int)) !=
                                                                                  (↑(List.getD (labelsC c i) (Int.toNat (Int.tmod slot (↑(List.length (labelsC c i)) : Int))) (0 : Nat)) : Int)
                                                                          else
                                                                            decide (slot ≥ (0 : Int)) &&
                                                                              (if slot < (0 : Int) then (-1 : Int)
                                                                                else (↑(List.getD (labelsC c i) (Int.toNat (Int.tmod slot (↑(List.length (labelsC c i)) : Int))) (0 : Nat)) : Int)) !=
                                                                                (↑(List.getD (labelsC c i) (Int.toNat (Int.tmod slot (↑(List.length (labelsC c i)) : Int))) (0 : Nat)) : Int)) ∧
                                                                      true = true ∧ some (Blk.cells (confL c) (nat_lit 31) Mode.fix) = some (Blk.cells (confL c) (nat_lit 31) Mode.fix) ∧ True) ∧
                                                      (decide (slot ≥ (0 : Int)) = false →
                                                        True ∧
                                                          True ∧
                                                            Value.bool false =
                                                                Value.bool
                                                                  (bif decide (slot < (0 : Int)) then
                                                                    (if slot < (0 : Int) then (-1 : Int)
                                                                        else (↑(List.getD (labelsC c i) (Int.toNat (Int.tmod slot (↑(List.length (labelsC c i)) : Int))) (0 : Nat)) : Int)) !=
                                                                        (-1 : Int) ||
                                                                      decide (slot ≥ (0 : Int)) &&
                                                                        (if slot < (0 : Int) then (-1 : Int)
                                                                          else (↑(List.getD (labelsC c i) (Int.toNat (Int.tmod slot (↑(List.length (labelsC c i)) : Int))) (0 : Nat)) : Int)) !=
                                                                          (↑(List.getD (labelsC c i) (Int.toNat (Int.tmod slot (↑(List.length (labelsC c i)) : Int))) (0 : Nat)) : Int)
                                                                  else
                                                                    decide (slot ≥ (0 : Int)) &&
                                                                      (if slot < (0 : Int) then (-1 : Int)
                                                                        else (↑(List.getD (labelsC c i) (Int.toNat (Int.tmod slot (↑(List.length (labelsC c i)) : Int))) (0 : Nat)) : Int)) !=
                                                                        (↑(List.getD (labelsC c i) (Int.toNat (Int.tmod slot (↑(List.length (labelsC c i)) : Int))) (0 : Nat)) : Int)) ∧
                                                              true = true ∧ some (Blk.cells (confL c) (nat_lit 31) Mode.fix) = some (Blk.cells (confL c) (nat_lit 31) Mode.fix) ∧ True))) ∧
                                            (decide (slot < (0 : Int)) = false →
                                              (decide (slot ≥ (0 : Int)) = true →
                                                  CallK Try.prog (nat_lit 32)
                                                      [Value.iface (nat_lit 1000001)
                                                          (Value.tuple
                                                            (Array.mk
                                                              [Value.int IntKind.i64 (0 : Int),
                                                                Value.agg
                                                                  (Array.mk
                                                                    [Value.iface (nat_lit 1000000)
                                                                        (Value.tuple
                                                                          (Array.mk [Value.int IntKind.i64 (↑(List.length (labelsC c i)) : Int), Value.agg (Array.mk (intsL (labelsC c i)))])),
                                                                      Value.int IntKind.i64 (Quot.queue (Conf.quotas c))])])),
                                                        Value.int IntKind.i64 slot]
                                                      (Value.int IntKind.i64
                                                        (if slot < (0 : Int) then (-1 : Int)
                                                        else (↑(List.getD (labelsC c i) (Int.toNat (Int.tmod slot (↑(List.length (labelsC c i)) : Int))) (0 : Nat)) : Int))) ∧
                                                    (↑(List.length (labelsC c i)) : Int) ≠ (0 : Int) ∧
                                                      ((0 : Int) ≤ Int.tmod slot (↑(List.length (labelsC c i)) : Int) ∧
                                                          Int.tmod slot (↑(List.length (labelsC c i)) : Int) < (↑(List.length (labelsC c i)) : Int)) ∧
                                                        Ask.holds Try.prog
                                                            (Ask.part (Array.toList (Array.mk (intsL (labelsC c i))))
                                                              (Int.toNat (↑(Int.toNat (Int.tmod slot (↑(List.length (labelsC c i)) : Int)) * nat_lit 1) : Int)) (nat_lit 1)
                                                              [Value.int IntKind.i64 (↑(List.getD (labelsC c i) (Int.toNat (Int.tmod slot (↑(List.length (labelsC c i)) : Int))) (0 : Nat)) : Int)]) ∧
                                                          True ∧
                                                            True ∧
                                                              Value.bool
                                                                    ((if slot < (0 : Int) then (-1 : Int)
                                                                      else (↑(List.getD (labelsC c i) (Int.toNat (Int.tmod slot (↑(List.length (labelsC c i)) : Int))) (0 : Nat)) : Int)) !=
                                                                      (↑(List.getD (labelsC c i) (Int.toNat (Int.tmod slot (↑(List.length (labelsC c i)) : Int))) (0 : Nat)) : Int)) =
                                                                  Value.bool
                                                                    (bif decide (slot < (0 : Int)) then
                                                                      (if slot < (0 : Int) then (-1 : Int)
                                                                          else (↑(List.getD (labelsC c i) (Int.toNat (Int.tmod slot (↑(List.length (labelsC c i)) : Int))) (0 : Nat)) : Int)) !=
                                                                          (-1 : Int) ||
                                                                        decide (slot ≥ (0 : Int)) &&
                                                                          (if slot < (0 : Int) then (-1 : Int)
                                                                            else (↑(List.getD (labelsC c i) (Int.toNat (Int.tmod slot (↑(List.length (labelsC c i)) : Int))) (0 : Nat)) : Int)) !=
                                                                            (↑(List.getD (labelsC c i) (Int.toNat (Int.tmod slot (↑(List.length (labelsC c i)) : Int))) (0 : Nat)) : Int)
                                                                    else
                                                                      decide (slot ≥ (0 : Int)) &&
                                                                        (if slot < (0 : Int) then (-1 : Int)
                                                                          else (↑(List.getD (labelsC c i) (Int.toNat (Int.tmod slot (↑(List.length (labelsC c i)) : Int))) (0 : Nat)) : Int)) !=
                                                                          (↑(List.getD (labelsC c i) (Int.toNat (Int.tmod slot (↑(List.length (labelsC c i)) : Int))) (0 : Nat)) : Int)) ∧
                                                                true = true ∧ some (Blk.cells (confL c) (nat_lit 31) Mode.fix) = some (Blk.cells (confL c) (nat_lit 31) Mode.fix) ∧ True) ∧
                                                (decide (slot ≥ (0 : Int)) = false →
                                                  True ∧
                                                    True ∧
                                                      Value.bool false =
                                                          Value.bool
                                                            (bif decide (slot < (0 : Int)) then
                                                              (if slot < (0 : Int) then (-1 : Int)
                                                                  else (↑(List.getD (labelsC c i) (Int.toNat (Int.tmod slot (↑(List.length (labelsC c i)) : Int))) (0 : Nat)) : Int)) !=
                                                                  (-1 : Int) ||
                                                                decide (slot ≥ (0 : Int)) &&
                                                                  (if slot < (0 : Int) then (-1 : Int)
                                                                    else (↑(List.getD (labelsC c i) (Int.toNat (Int.tmod slot (↑(List.length (labelsC c i)) : Int))) (0 : Nat)) : Int)) !=
                                                                    (↑(List.getD (labelsC c i) (Int.toNat (Int.tmod slot (↑(List.length (labelsC c i)) : Int))) (0 : Nat)) : Int)
                                                            else
                                                              decide (slot ≥ (0 : Int)) &&
                                                                (if slot < (0 : Int) then (-1 : Int)
                                                                  else (↑(List.getD (labelsC c i) (Int.toNat (Int.tmod slot (↑(List.length (labelsC c i)) : Int))) (0 : Nat)) : Int)) !=
                                                                  (↑(List.getD (labelsC c i) (Int.toNat (Int.tmod slot (↑(List.length (labelsC c i)) : Int))) (0 : Nat)) : Int)) ∧
                                                        true = true ∧ some (Blk.cells (confL c) (nat_lit 31) Mode.fix) = some (Blk.cells (confL c) (nat_lit 31) Mode.fix) ∧ True))) ∧
                                          (True →
                                            ∀ (j77 : Nat → Value),
                                              ((bif decide (slot < (0 : Int)) then
                                                      (if slot < (0 : Int) then (-1 : Int)
                                                          else (↑(List.getD (labelsC c i) (Int.toNat (Int.tmod slot (↑(List.length (labelsC c i)) : Int))) (0 : Nat)) : Int)) !=
                                                          (-1 : Int) ||
                                                        decide (slot ≥ (0 : Int)) &&
                                                          (if slot < (0 : Int) then (-1 : Int)
                                                            else (↑(List.getD (labelsC c i) (Int.toNat (Int.tmod slot (↑(List.length (labelsC c i)) : Int))) (0 : Nat)) : Int)) !=
                                                            (↑(List.getD (labelsC c i) (Int.toNat (Int.tmod slot (↑(List.length (labelsC c i)) : Int))) (0 : Nat)) : Int)
                                                    else
                                                      decide (slot ≥ (0 : Int)) &&
                                                        (if slot < (0 : Int) then (-1 : Int)
                                                          else (↑(List.getD (labelsC c i) (Int.toNat (Int.tmod slot (↑(List.length (labelsC c i)) : Int))) (0 : Nat)) : Int)) !=
                                                          (↑(List.getD (labelsC c i) (Int.toNat (Int.tmod slot (↑(List.length (labelsC c i)) : Int))) (0 : Nat)) : Int)) =
                                                    true →
                                                  Value.bool false = Value.bool true) ∧
                                                ((bif decide (slot < (0 : Int)) then
                                                      (if slot < (0 : Int) then (-1 : Int)
                                                          else (↑(List.getD (labelsC c i) (Int.toNat (Int.tmod slot (↑(List.length (labelsC c i)) : Int))) (0 : Nat)) : Int)) !=
                                                          (-1 : Int) ||
                                                        decide (slot ≥ (0 : Int)) &&
                                                          (if slot < (0 : Int) then (-1 : Int)
                                                            else (↑(List.getD (labelsC c i) (Int.toNat (Int.tmod slot (↑(List.length (labelsC c i)) : Int))) (0 : Nat)) : Int)) !=
                                                            (↑(List.getD (labelsC c i) (Int.toNat (Int.tmod slot (↑(List.length (labelsC c i)) : Int))) (0 : Nat)) : Int)
                                                    else
                                                      decide (slot ≥ (0 : Int)) &&
                                                        (if slot < (0 : Int) then (-1 : Int)
                                                          else (↑(List.getD (labelsC c i) (Int.toNat (Int.tmod slot (↑(List.length (labelsC c i)) : Int))) (0 : Nat)) : Int)) !=
                                                          (↑(List.getD (labelsC c i) (Int.toNat (Int.tmod slot (↑(List.length (labelsC c i)) : Int))) (0 : Nat)) : Int)) =
                                                    false →
                                                  ((inB (labelsC c i) label s68 = true →
                                                        (decide (place ≥ (0 : Int)) = true →
                                                            True ∧
                                                              Value.bool (decide (place ≤ (1000000 : Int))) =
                                                                  Value.bool (inB (labelsC c i) label s68 && (decide (place ≥ (0 : Int)) && decide (place ≤ (1000000 : Int)))) ∧
                                                                true = true ∧ some (Blk.cells (confL c) (nat_lit 31) Mode.fix) = some (Blk.cells (confL c) (nat_lit 31) Mode.fix) ∧ True) ∧
                                                          (decide (place ≥ (0 : Int)) = false →
                                                            True ∧
                                                              Value.bool false = Value.bool (inB (labelsC c i) label s68 && (decide (place ≥ (0 : Int)) && decide (place ≤ (1000000 : Int)))) ∧
                                                                true = true ∧ some (Blk.cells (confL c) (nat_lit 31) Mode.fix) = some (Blk.cells (confL c) (nat_lit 31) Mode.fix) ∧ True)) ∧
                                                      (inB (labelsC c i) label s68 = false →
                                                        True ∧
                                                          Value.bool false = Value.bool (inB (labelsC c i) label s68 && (decide (place ≥ (0 : Int)) && decide (place ≤ (1000000 : Int)))) ∧
                                                            true = true ∧ some (Blk.cells (confL c) (nat_lit 31) Mode.fix) = some (Blk.cells (confL c) (nat_lit 31) Mode.fix) ∧ True)) ∧
                                                    (True →
                                                      ∀ (j79 : Nat → Value),
                                                        (((inB (labelsC c i) label s68 && (decide (place ≥ (0 : Int)) && decide (place ≤ (1000000 : Int)))) = true →
                                                              ((!askedB (labelsC c i) slot label place == decide (slot ≥ (0 : Int))) = true →
                                                                  True ∧
                                                                    Value.bool true =
                                                                        Value.bool
                                                                          (bif inB (labelsC c i) label s68 && (decide (place ≥ (0 : Int)) && decide (place ≤ (1000000 : Int))) then
                                                                            !askedB (labelsC c i) slot label place == decide (slot ≥ (0 : Int)) ||
                                                                              (!askedB (labelsC c i) (0 : Int) label place ==
                                                                                    (inB (labelsC c i) label s68 && (decide (place ≥ (0 : Int)) && decide (place ≤ (1000000 : Int)))) ||
                                                                                bif !askedB (labelsC c i) slot label place then
                                                                                  waitW (labelsC c i) slot label place != (0 : Int) ||
                                                                                    !askedB (labelsC c i) (0 : Int) label place &&
                                                                                      (if askedB (labelsC c i) (0 : Int) label place = true then
                                                                                          (place + (1 : Int)) * (↑(List.length (labelsC c i)) : Int)
                                                                                        else (0 : Int)) !=
                                                                                        (0 : Int)
                                                                                else
                                                                                  !askedB (labelsC c i) (0 : Int) label place &&
                                                                                    (if askedB (labelsC c i) (0 : Int) label place = true then
                                                                                        (place + (1 : Int)) * (↑(List.length (labelsC c i)) : Int)
                                                                                      else (0 : Int)) !=
                                                                                      (0 : Int))
                                                                          else
                                                                            !askedB (labelsC c i) slot label place == false ||
                                                                              (!askedB (labelsC c i) (0 : Int) label place ==
                                                                                    (inB (labelsC c i) label s68 && (decide (place ≥ (0 : Int)) && decide (place ≤ (1000000 : Int)))) ||
                                                                                bif !askedB (labelsC c i) slot label place then
                                                                                  waitW (labelsC c i) slot label place != (0 : Int) ||
                                                                                    !askedB (labelsC c i) (0 : Int) label place &&
                                                                                      (if askedB (labelsC c i) (0 : Int) label place = true then
                                                                                          (place + (1 : Int)) * (↑(List.length (labelsC c i)) : Int)
                                                                                        else (0 : Int)) !=
                                                                                        (0 : Int)
                                                                                else
                                                                                  !askedB (labelsC c i) (0 : Int) label place &&
                                                                                    (if askedB (labelsC c i) (0 : Int) label place = true then
                                                                                        (place + (1 : Int)) * (↑(List.length (labelsC c i)) : Int)
                                                                                      else (0 : Int)) !=
                                                                                      (0 : Int))) ∧
                                                                      true = true ∧ some (Blk.cells (confL c) (nat_lit 31) Mode.fix) = some (Blk.cells (confL c) (nat_lit 31) Mode.fix) ∧ True) ∧
                                                                ((!askedB (labelsC c i) slot label place == decide (slot ≥ (0 : Int))) = false →
                                                                  ((!askedB (labelsC c i) (0 : Int) label place ==
                                                                            (inB (labelsC c i) label s68 && (decide (place ≥ (0 : Int)) && decide (place ≤ (1000000 : Int))))) =
                                                                        true →
                                                                      True ∧
                                                                        Value.bool true =
                                                                            Value.bool
                                                                              (bif inB (labelsC c i) label s68 && (decide (place ≥ (0 : Int)) && decide (place ≤ (1000000 : Int))) then
                                                                                !askedB (labelsC c i) slot label place == decide (slot ≥ (0 : Int)) ||
                                                                                  (!askedB (labelsC c i) (0 : Int) label place ==
                                                                                        (inB (labelsC c i) label s68 && (decide (place ≥ (0 : Int)) && decide (place ≤ (1000000 : Int)))) ||
                                                                                    bif !askedB (labelsC c i) slot label place then
                                                                                      waitW (labelsC c i) slot label place != (0 : Int) ||
                                                                                        !askedB (labelsC c i) (0 : Int) label place &&
                                                                                          (if askedB (labelsC c i) (0 : Int) label place = true then
                                                                                              (place + (1 : Int)) * (↑(List.length (labelsC c i)) : Int)
                                                                                            else (0 : Int)) !=
                                                                                            (0 : Int)
                                                                                    else
                                                                                      !askedB (labelsC c i) (0 : Int) label place &&
                                                                                        (if askedB (labelsC c i) (0 : Int) label place = true then
                                                                                            (place + (1 : Int)) * (↑(List.length (labelsC c i)) : Int)
                                                                                          else (0 : Int)) !=
                                                                                          (0 : Int))
                                                                              else
                                                                                !askedB (labelsC c i) slot label place == false ||
                                                                                  (!askedB (labelsC c i) (0 : Int) label place ==
                                                                                        (inB (labelsC c i) label s68 && (decide (place ≥ (0 : Int)) && decide (place ≤ (1000000 : Int)))) ||
                                                                                    bif !askedB (labelsC c i) slot label place then
                                                                                      waitW (labelsC c i) slot label place != (0 : Int) ||
                                                                                        !askedB (labelsC c i) (0 : Int) label place &&
                                                                                          (if askedB (labelsC c i) (0 : Int) label place = true then
                                                                                              (place + (1 : Int)) * (↑(List.length (labelsC c i)) : Int)
                                                                                            else (0 : Int)) !=
                                                                                            (0 : Int)
                                                                                    else
                                                                                      !askedB (labelsC c i) (0 : Int) label place &&
                                                                                        (if askedB (labelsC c i) (0 : Int) label place = true then
                                                                                            (place + (1 : Int)) * (↑(List.length (labelsC c i)) : Int)
                                                                                          else (0 : Int)) !=
                                                                                          (0 : Int))) ∧
                                                                          true = true ∧ some (Blk.cells (confL c) (nat_lit 31) Mode.fix) = some (Blk.cells (confL c) (nat_lit 31) Mode.fix) ∧ True) ∧
                                                                    ((!askedB (labelsC c i) (0 : Int) label place ==
                                                                            (inB (labelsC c i) label s68 && (decide (place ≥ (0 : Int)) && decide (place ≤ (1000000 : Int))))) =
                                                                        false →
                                                                      ((!askedB (labelsC c i) slot label place) = true →
                                                                          ((waitW (labelsC c i) slot label place != (0 : Int)) = true →
                                                                              True ∧
                                                                                Value.bool true =
                                                                                    Value.bool
                                                                                      (bif inB (labelsC c i) label s68 && (decide (place ≥ (0 : Int)) && decide (place ≤ (1000000 : Int))) then
                                                                                        !askedB (labelsC c i) slot label place == decide (slot ≥ (0 : Int)) ||
                                                                                          (!askedB (labelsC c i) (0 : Int) label place ==
                                                                                                (inB (labelsC c i) label s68 && (decide (place ≥ (0 : Int)) && decide (place ≤ (1000000 : Int)))) ||
                                                                                            bif !askedB (labelsC c i) slot label place then
                                                                                              waitW (labelsC c i) slot label place != (0 : Int) ||
                                                                                                !askedB (labelsC c i) (0 : Int) label place &&
                                                                                                  (if askedB (labelsC c i) (0 : Int) label place = true then
                                                                                                      (place + (1 : Int)) * (↑(List.length (labelsC c i)) : Int)
                                                                                                    else (0 : Int)) !=
                                                                                                    (0 : Int)
                                                                                            else
                                                                                              !askedB (labelsC c i) (0 : Int) label place &&
                                                                                                (if askedB (labelsC c i) (0 : Int) label place = true then
                                                                                                    (place + (1 : Int)) * (↑(List.length (labelsC c i)) : Int)
                                                                                                  else (0 : Int)) !=
                                                                                                  (0 : Int))
                                                                                      else
                                                                                        !askedB (labelsC c i) slot label place == false ||
                                                                                          (!askedB (labelsC c i) (0 : Int) label place ==
                                                                                                (inB (labelsC c i) label s68 && (decide (place ≥ (0 : Int)) && decide (place ≤ (1000000 : Int)))) ||
                                                                                            bif !askedB (labelsC c i) slot label place then
                                                                                              waitW (labelsC c i) slot label place != (0 : Int) ||
                                                                                                !askedB (labelsC c i) (0 : Int) label place &&
                                                                                                  (if askedB (labelsC c i) (0 : Int) label place = true then
                                                                                                      (place + (1 : Int)) * (↑(List.length (labelsC c i)) : Int)
                                                                                                    else (0 : Int)) !=
                                                                                                    (0 : Int)
                                                                                            else
                                                                                              !askedB (labelsC c i) (0 : Int) label place &&
                                                                                                (if askedB (labelsC c i) (0 : Int) label place = true then
                                                                                                    (place + (1 : Int)) * (↑(List.length (labelsC c i)) : Int)
                                                                                                  else (0 : Int)) !=
                                                                                                  (0 : Int))) ∧
                                                                                  true = true ∧
                                                                                    some (Blk.cells (confL c) (nat_lit 31) Mode.fix) = some (Blk.cells (confL c) (nat_lit 31) Mode.fix) ∧ True) ∧
                                                                            ((waitW (labelsC c i) slot label place != (0 : Int)) = false →
                                                                              ((!askedB (labelsC c i) (0 : Int) label place) = true →
                                                                                  True ∧
                                                                                    Value.bool
                                                                                          ((if askedB (labelsC c i) (0 : Int) label place = true then
                                                                                              (place + (1 : Int)) * (↑(List.length (labelsC c i)) : Int)
                                                                                            else (0 : Int)) !=
                                                                                            (0 : Int)) =
                                                                                        Value.bool
                                                                                          (bif inB (labelsC c i) label s68 && (decide (place ≥ (0 : Int)) && decide (place ≤ (1000000 : Int))) then
                                                                                            !askedB (labelsC c i) slot label place == decide (slot ≥ (0 : Int)) ||
                                                                                              (!askedB (labelsC c i) (0 : Int) label place ==
                                                                                                    (inB (labelsC c i) label s68 && (decide (place ≥ (0 : Int)) && decide (place ≤ (1000000 : Int)))) ||
                                                                                                bif !askedB (labelsC c i) slot label place then
                                                                                                  waitW (labelsC c i) slot label place != (0 : Int) ||
                                                                                                    !askedB (labelsC c i) (0 : Int) label place &&
                                                                                                      (if askedB (labelsC c i) (0 : Int) label place = true then
                                                                                                          (place + (1 : Int)) * (↑(List.length (labelsC c i)) : Int)
                                                                                                        else (0 : Int)) !=
                                                                                                        (0 : Int)
                                                                                                else
                                                                                                  !askedB (labelsC c i) (0 : Int) label place &&
                                                                                                    (if askedB (labelsC c i) (0 : Int) label place = true then
                                                                                                        (place + (1 : Int)) * (↑(List.length (labelsC c i)) : Int)
                                                                                                      else (0 : Int)) !=
                                                                                                      (0 : Int))
                                                                                          else
                                                                                            !askedB (labelsC c i) slot label place == false ||
                                                                                              (!askedB (labelsC c i) (0 : Int) label place ==
                                                                                                    (inB (labelsC c i) label s68 && (decide (place ≥ (0 : Int)) && decide (place ≤ (1000000 : Int)))) ||
                                                                                                bif !askedB (labelsC c i) slot label place then
                                                                                                  waitW (labelsC c i) slot label place != (0 : Int) ||
                                                                                                    !askedB (labelsC c i) (0 : Int) label place &&
                                                                                                      (if askedB (labelsC c i) (0 : Int) label place = true then
                                                                                                          (place + (1 : Int)) * (↑(List.length (labelsC c i)) : Int)
                                                                                                        else (0 : Int)) !=
                                                                                                        (0 : Int)
                                                                                                else
                                                                                                  !askedB (labelsC c i) (0 : Int) label place &&
                                                                                                    (if askedB (labelsC c i) (0 : Int) label place = true then
                                                                                                        (place + (1 : Int)) * (↑(List.length (labelsC c i)) : Int)
                                                                                                      else (0 : Int)) !=
                                                                                                      (0 : Int))) ∧
                                                                                      true = true ∧
                                                                                        some (Blk.cells (confL c) (nat_lit 31) Mode.fix) = some (Blk.cells (confL c) (nat_lit 31) Mode.fix) ∧ True) ∧
                                                                                ((!askedB (labelsC c i) (0 : Int) label place) = false →
                                                                                  True ∧
                                                                                    Value.bool false =
                                                                                        Value.bool
                                                                                          (bif inB (labelsC c i) label s68 && (decide (place ≥ (0 : Int)) && decide (place ≤ (1000000 : Int))) then
                                                                                            !askedB (labelsC c i) slot label place == decide (slot ≥ (0 : Int)) ||
                                                                                              (!askedB (labelsC c i) (0 : Int) label place ==
                                                                                                    (inB (labelsC c i) label s68 && (decide (place ≥ (0 : Int)) && decide (place ≤ (1000000 : Int)))) ||
                                                                                                bif !askedB (labelsC c i) slot label place then
                                                                                                  waitW (labelsC c i) slot label place != (0 : Int) ||
                                                                                                    !askedB (labelsC c i) (0 : Int) label place &&
                                                                                                      (if askedB (labelsC c i) (0 : Int) label place = true then
                                                                                                          (place + (1 : Int)) * (↑(List.length (labelsC c i)) : Int)
                                                                                                        else (0 : Int)) !=
                                                                                                        (0 : Int)
                                                                                                else
                                                                                                  !askedB (labelsC c i) (0 : Int) label place &&
                                                                                                    (if askedB (labelsC c i) (0 : Int) label place = true then
                                                                                                        (place + (1 : Int)) * (↑(List.length (labelsC c i)) : Int)
                                                                                                      else (0 : Int)) !=
                                                                                                      (0 : Int))
                                                                                          else
                                                                                            !askedB (labelsC c i) slot label place == false ||
                                                                                              (!askedB (labelsC c i) (0 : Int) label place ==
                                                                                                    (inB (labelsC c i) label s68 && (decide (place ≥ (0 : Int)) && decide (place ≤ (1000000 : Int)))) ||
                                                                                                bif !askedB (labelsC c i) slot label place then
                                                                                                  waitW (labelsC c i) slot label place != (0 : Int) ||
                                                                                                    !askedB (labelsC c i) (0 : Int) label place &&
                                                                                                      (if askedB (labelsC c i) (0 : Int) label place = true then
                                                                                                          (place + (1 : Int)) * (↑(List.length (labelsC c i)) : Int)
                                                                                                        else (0 : Int)) !=
                                                                                                        (0 : Int)
                                                                                                else
                                                                                                  !askedB (labelsC c i) (0 : Int) label place &&
                                                                                                    (if askedB (labelsC c i) (0 : Int) label place = true then
                                                                                                        (place + (1 : Int)) * (↑(List.length (labelsC c i)) : Int)
                                                                                                      else (0 : Int)) !=
                                                                                                      (0 : Int))) ∧
                                                                                      true = true ∧
                                                                                        some (Blk.cells (confL c) (nat_lit 31) Mode.fix) = some (Blk.cells (confL c) (nat_lit 31) Mode.fix) ∧ True))) ∧
                                                                        ((!askedB (labelsC c i) slot label place) = false →
                                                                          ((!askedB (labelsC c i) (0 : Int) label place) = true →
                                                                              True ∧
                                                                                Value.bool
                                                                                      ((if askedB (labelsC c i) (0 : Int) label place = true then
                                                                                          (place + (1 : Int)) * (↑(List.length (labelsC c i)) : Int)
                                                                                        else (0 : Int)) !=
                                                                                        (0 : Int)) =
                                                                                    Value.bool
                                                                                      (bif inB (labelsC c i) label s68 && (decide (place ≥ (0 : Int)) && decide (place ≤ (1000000 : Int))) then
                                                                                        !askedB (labelsC c i) slot label place == decide (slot ≥ (0 : Int)) ||
                                                                                          (!askedB (labelsC c i) (0 : Int) label place ==
                                                                                                (inB (labelsC c i) label s68 && (decide (place ≥ (0 : Int)) && decide (place ≤ (1000000 : Int)))) ||
                                                                                            bif !askedB (labelsC c i) slot label place then
                                                                                              waitW (labelsC c i) slot label place != (0 : Int) ||
                                                                                                !askedB (labelsC c i) (0 : Int) label place &&
                                                                                                  (if askedB (labelsC c i) (0 : Int) label place = true then
                                                                                                      (place + (1 : Int)) * (↑(List.length (labelsC c i)) : Int)
                                                                                                    else (0 : Int)) !=
                                                                                                    (0 : Int)
                                                                                            else
                                                                                              !askedB (labelsC c i) (0 : Int) label place &&
                                                                                                (if askedB (labelsC c i) (0 : Int) label place = true then
                                                                                                    (place + (1 : Int)) * (↑(List.length (labelsC c i)) : Int)
                                                                                                  else (0 : Int)) !=
                                                                                                  (0 : Int))
                                                                                      else
                                                                                        !askedB (labelsC c i) slot label place == false ||
                                                                                          (!askedB (labelsC c i) (0 : Int) label place ==
                                                                                                (inB (labelsC c i) label s68 && (decide (place ≥ (0 : Int)) && decide (place ≤ (1000000 : Int)))) ||
                                                                                            bif !askedB (labelsC c i) slot label place then
                                                                                              waitW (labelsC c i) slot label place != (0 : Int) ||
                                                                                                !askedB (labelsC c i) (0 : Int) label place &&
                                                                                                  (if askedB (labelsC c i) (0 : Int) label place = true then
                                                                                                      (place + (1 : Int)) * (↑(List.length (labelsC c i)) : Int)
                                                                                                    else (0 : Int)) !=
                                                                                                    (0 : Int)
                                                                                            else
                                                                                              !askedB (labelsC c i) (0 : Int) label place &&
                                                                                                (if askedB (labelsC c i) (0 : Int) label place = true then
                                                                                                    (place + (1 : Int)) * (↑(List.length (labelsC c i)) : Int)
                                                                                                  else (0 : Int)) !=
                                                                                                  (0 : Int))) ∧
                                                                                  true = true ∧
                                                                                    some (Blk.cells (confL c) (nat_lit 31) Mode.fix) = some (Blk.cells (confL c) (nat_lit 31) Mode.fix) ∧ True) ∧
                                                                            ((!askedB (labelsC c i) (0 : Int) label place) = false →
                                                                              True ∧
                                                                                Value.bool false =
                                                                                    Value.bool
                                                                                      (bif inB (labelsC c i) label s68 && (decide (place ≥ (0 : Int)) && decide (place ≤ (1000000 : Int))) then
                                                                                        !askedB (labelsC c i) slot label place == decide (slot ≥ (0 : Int)) ||
                                                                                          (!askedB (labelsC c i) (0 : Int) label place ==
                                                                                                (inB (labelsC c i) label s68 && (decide (place ≥ (0 : Int)) && decide (place ≤ (1000000 : Int)))) ||
                                                                                            bif !askedB (labelsC c i) slot label place then
                                                                                              waitW (labelsC c i) slot label place != (0 : Int) ||
                                                                                                !askedB (labelsC c i) (0 : Int) label place &&
                                                                                                  (if askedB (labelsC c i) (0 : Int) label place = true then
                                                                                                      (place + (1 : Int)) * (↑(List.length (labelsC c i)) : Int)
                                                                                                    else (0 : Int)) !=
                                                                                                    (0 : Int)
                                                                                            else
                                                                                              !askedB (labelsC c i) (0 : Int) label place &&
                                                                                                (if askedB (labelsC c i) (0 : Int) label place = true then
                                                                                                    (place + (1 : Int)) * (↑(List.length (labelsC c i)) : Int)
                                                                                                  else (0 : Int)) !=
                                                                                                  (0 : Int))
                                                                                      else
                                                                                        !askedB (labelsC c i) slot label place == false ||
                                                                                          (!askedB (labelsC c i) (0 : Int) label place ==
                                                                                                (inB (labelsC c i) label s68 && (decide (place ≥ (0 : Int)) && decide (place ≤ (1000000 : Int)))) ||
                                                                                            bif !askedB (labelsC c i) slot label place then
                                                                                              waitW (labelsC c i) slot label place != (0 : Int) ||
                                                                                                !askedB (labelsC c i) (0 : Int) label place &&
                                                                                                  (if askedB (labelsC c i) (0 : Int) label place = true then
                                                                                                      (place + (1 : Int)) * (↑(List.length (labelsC c i)) : Int)
                                                                                                    else (0 : Int)) !=
                                                                                                    (0 : Int)
                                                                                            else
                                                                                              !askedB (labelsC c i) (0 : Int) label place &&
                                                                                                (if askedB (labelsC c i) (0 : Int) label place = true then
                                                                                                    (place + (1 : Int)) * (↑(List.length (labelsC c i)) : Int)
                                                                                                  else (0 : Int)) !=
                                                                                                  (0 : Int))) ∧
                                                                                  true = true ∧
                                                                                    some (Blk.cells (confL c) (nat_lit 31) Mode.fix) = some (Blk.cells (confL c) (nat_lit 31) Mode.fix) ∧ True))))) ∧
                                                            ((inB (labelsC c i) label s68 && (decide (place ≥ (0 : Int)) && decide (place ≤ (1000000 : Int)))) = false →
                                                              ((!askedB (labelsC c i) slot label place == false) = true →
                                                                  True ∧
                                                                    Value.bool true =
                                                                        Value.bool
                                                                          (bif inB (labelsC c i) label s68 && (decide (place ≥ (0 : Int)) && decide (place ≤ (1000000 : Int))) then
                                                                            !askedB (labelsC c i) slot label place == decide (slot ≥ (0 : Int)) ||
                                                                              (!askedB (labelsC c i) (0 : Int) label place ==
                                                                                    (inB (labelsC c i) label s68 && (decide (place ≥ (0 : Int)) && decide (place ≤ (1000000 : Int)))) ||
                                                                                bif !askedB (labelsC c i) slot label place then
                                                                                  waitW (labelsC c i) slot label place != (0 : Int) ||
                                                                                    !askedB (labelsC c i) (0 : Int) label place &&
                                                                                      (if askedB (labelsC c i) (0 : Int) label place = true then
                                                                                          (place + (1 : Int)) * (↑(List.length (labelsC c i)) : Int)
                                                                                        else (0 : Int)) !=
                                                                                        (0 : Int)
                                                                                else
                                                                                  !askedB (labelsC c i) (0 : Int) label place &&
                                                                                    (if askedB (labelsC c i) (0 : Int) label place = true then
                                                                                        (place + (1 : Int)) * (↑(List.length (labelsC c i)) : Int)
                                                                                      else (0 : Int)) !=
                                                                                      (0 : Int))
                                                                          else
                                                                            !askedB (labelsC c i) slot label place == false ||
                                                                              (!askedB (labelsC c i) (0 : Int) label place ==
                                                                                    (inB (labelsC c i) label s68 && (decide (place ≥ (0 : Int)) && decide (place ≤ (1000000 : Int)))) ||
                                                                                bif !askedB (labelsC c i) slot label place then
                                                                                  waitW (labelsC c i) slot label place != (0 : Int) ||
                                                                                    !askedB (labelsC c i) (0 : Int) label place &&
                                                                                      (if askedB (labelsC c i) (0 : Int) label place = true then
                                                                                          (place + (1 : Int)) * (↑(List.length (labelsC c i)) : Int)
                                                                                        else (0 : Int)) !=
                                                                                        (0 : Int)
                                                                                else
                                                                                  !askedB (labelsC c i) (0 : Int) label place &&
                                                                                    (if askedB (labelsC c i) (0 : Int) label place = true then
                                                                                        (place + (1 : Int)) * (↑(List.length (labelsC c i)) : Int)
                                                                                      else (0 : Int)) !=
                                                                                      (0 : Int))) ∧
                                                                      true = true ∧ some (Blk.cells (confL c) (nat_lit 31) Mode.fix) = some (Blk.cells (confL c) (nat_lit 31) Mode.fix) ∧ True) ∧
                                                                ((!askedB (labelsC c i) slot label place == false) = false →
                                                                  ((!askedB (labelsC c i) (0 : Int) label place ==
                                                                            (inB (labelsC c i) label s68 && (decide (place ≥ (0 : Int)) && decide (place ≤ (1000000 : Int))))) =
                                                                        true →
                                                                      True ∧
                                                                        Value.bool true =
                                                                            Value.bool
                                                                              (bif inB (labelsC c i) label s68 && (decide (place ≥ (0 : Int)) && decide (place ≤ (1000000 : Int))) then
                                                                                !askedB (labelsC c i) slot label place == decide (slot ≥ (0 : Int)) ||
                                                                                  (!askedB (labelsC c i) (0 : Int) label place ==
                                                                                        (inB (labelsC c i) label s68 && (decide (place ≥ (0 : Int)) && decide (place ≤ (1000000 : Int)))) ||
                                                                                    bif !askedB (labelsC c i) slot label place then
                                                                                      waitW (labelsC c i) slot label place != (0 : Int) ||
                                                                                        !askedB (labelsC c i) (0 : Int) label place &&
                                                                                          (if askedB (labelsC c i) (0 : Int) label place = true then
                                                                                              (place + (1 : Int)) * (↑(List.length (labelsC c i)) : Int)
                                                                                            else (0 : Int)) !=
                                                                                            (0 : Int)
                                                                                    else
                                                                                      !askedB (labelsC c i) (0 : Int) label place &&
                                                                                        (if askedB (labelsC c i) (0 : Int) label place = true then
                                                                                            (place + (1 : Int)) * (↑(List.length (labelsC c i)) : Int)
                                                                                          else (0 : Int)) !=
                                                                                          (0 : Int))
                                                                              else
                                                                                !askedB (labelsC c i) slot label place == false ||
                                                                                  (!askedB (labelsC c i) (0 : Int) label place ==
                                                                                        (inB (labelsC c i) label s68 && (decide (place ≥ (0 : Int)) && decide (place ≤ (1000000 : Int)))) ||
                                                                                    bif !askedB (labelsC c i) slot label place then
                                                                                      waitW (labelsC c i) slot label place != (0 : Int) ||
                                                                                        !askedB (labelsC c i) (0 : Int) label place &&
                                                                                          (if askedB (labelsC c i) (0 : Int) label place = true then
                                                                                              (place + (1 : Int)) * (↑(List.length (labelsC c i)) : Int)
                                                                                            else (0 : Int)) !=
                                                                                            (0 : Int)
                                                                                    else
                                                                                      !askedB (labelsC c i) (0 : Int) label place &&
                                                                                        (if askedB (labelsC c i) (0 : Int) label place = true then
                                                                                            (place + (1 : Int)) * (↑(List.length (labelsC c i)) : Int)
                                                                                          else (0 : Int)) !=
                                                                                          (0 : Int))) ∧
                                                                          true = true ∧ some (Blk.cells (confL c) (nat_lit 31) Mode.fix) = some (Blk.cells (confL c) (nat_lit 31) Mode.fix) ∧ True) ∧
                                                                    ((!askedB (labelsC c i) (0 : Int) label place ==
                                                                            (inB (labelsC c i) label s68 && (decide (place ≥ (0 : Int)) && decide (place ≤ (1000000 : Int))))) =
                                                                        false →
                                                                      ((!askedB (labelsC c i) slot label place) = true →
                                                                          ((waitW (labelsC c i) slot label place != (0 : Int)) = true →
                                                                              True ∧
                                                                                Value.bool true =
                                                                                    Value.bool
                                                                                      (bif inB (labelsC c i) label s68 && (decide (place ≥ (0 : Int)) && decide (place ≤ (1000000 : Int))) then
                                                                                        !askedB (labelsC c i) slot label place == decide (slot ≥ (0 : Int)) ||
                                                                                          (!askedB (labelsC c i) (0 : Int) label place ==
                                                                                                (inB (labelsC c i) label s68 && (decide (place ≥ (0 : Int)) && decide (place ≤ (1000000 : Int)))) ||
                                                                                            bif !askedB (labelsC c i) slot label place then
                                                                                              waitW (labelsC c i) slot label place != (0 : Int) ||
                                                                                                !askedB (labelsC c i) (0 : Int) label place &&
                                                                                                  (if askedB (labelsC c i) (0 : Int) label place = true then
                                                                                                      (place + (1 : Int)) * (↑(List.length (labelsC c i)) : Int)
                                                                                                    else (0 : Int)) !=
                                                                                                    (0 : Int)
                                                                                            else
                                                                                              !askedB (labelsC c i) (0 : Int) label place &&
                                                                                                (if askedB (labelsC c i) (0 : Int) label place = true then
                                                                                                    (place + (1 : Int)) * (↑(List.length (labelsC c i)) : Int)
                                                                                                  else (0 : Int)) !=
                                                                                                  (0 : Int))
                                                                                      else
                                                                                        !askedB (labelsC c i) slot label place == false ||
                                                                                          (!askedB (labelsC c i) (0 : Int) label place ==
                                                                                                (inB (labelsC c i) label s68 && (decide (place ≥ (0 : Int)) && decide (place ≤ (1000000 : Int)))) ||
                                                                                            bif !askedB (labelsC c i) slot label place then
                                                                                              waitW (labelsC c i) slot label place != (0 : Int) ||
                                                                                                !askedB (labelsC c i) (0 : Int) label place &&
                                                                                                  (if askedB (labelsC c i) (0 : Int) label place = true then
                                                                                                      (place + (1 : Int)) * (↑(List.length (labelsC c i)) : Int)
                                                                                                    else (0 : Int)) !=
                                                                                                    (0 : Int)
                                                                                            else
                                                                                              !askedB (labelsC c i) (0 : Int) label place &&
                                                                                                (if askedB (labelsC c i) (0 : Int) label place = true then
                                                                                                    (place + (1 : Int)) * (↑(List.length (labelsC c i)) : Int)
                                                                                                  else (0 : Int)) !=
                                                                                                  (0 : Int))) ∧
                                                                                  true = true ∧
                                                                                    some (Blk.cells (confL c) (nat_lit 31) Mode.fix) = some (Blk.cells (confL c) (nat_lit 31) Mode.fix) ∧ True) ∧
                                                                            ((waitW (labelsC c i) slot label place != (0 : Int)) = false →
                                                                              ((!askedB (labelsC c i) (0 : Int) label place) = true →
                                                                                  True ∧
                                                                                    Value.bool
                                                                                          ((if askedB (labelsC c i) (0 : Int) label place = true then
                                                                                              (place + (1 : Int)) * (↑(List.length (labelsC c i)) : Int)
                                                                                            else (0 : Int)) !=
                                                                                            (0 : Int)) =
                                                                                        Value.bool
                                                                                          (bif inB (labelsC c i) label s68 && (decide (place ≥ (0 : Int)) && decide (place ≤ (1000000 : Int))) then
                                                                                            !askedB (labelsC c i) slot label place == decide (slot ≥ (0 : Int)) ||
                                                                                              (!askedB (labelsC c i) (0 : Int) label place ==
                                                                                                    (inB (labelsC c i) label s68 && (decide (place ≥ (0 : Int)) && decide (place ≤ (1000000 : Int)))) ||
                                                                                                bif !askedB (labelsC c i) slot label place then
                                                                                                  waitW (labelsC c i) slot label place != (0 : Int) ||
                                                                                                    !askedB (labelsC c i) (0 : Int) label place &&
                                                                                                      (if askedB (labelsC c i) (0 : Int) label place = true then
                                                                                                          (place + (1 : Int)) * (↑(List.length (labelsC c i)) : Int)
                                                                                                        else (0 : Int)) !=
                                                                                                        (0 : Int)
                                                                                                else
                                                                                                  !askedB (labelsC c i) (0 : Int) label place &&
                                                                                                    (if askedB (labelsC c i) (0 : Int) label place = true then
                                                                                                        (place + (1 : Int)) * (↑(List.length (labelsC c i)) : Int)
                                                                                                      else (0 : Int)) !=
                                                                                                      (0 : Int))
                                                                                          else
                                                                                            !askedB (labelsC c i) slot label place == false ||
                                                                                              (!askedB (labelsC c i) (0 : Int) label place ==
                                                                                                    (inB (labelsC c i) label s68 && (decide (place ≥ (0 : Int)) && decide (place ≤ (1000000 : Int)))) ||
                                                                                                bif !askedB (labelsC c i) slot label place then
                                                                                                  waitW (labelsC c i) slot label place != (0 : Int) ||
                                                                                                    !askedB (labelsC c i) (0 : Int) label place &&
                                                                                                      (if askedB (labelsC c i) (0 : Int) label place = true then
                                                                                                          (place + (1 : Int)) * (↑(List.length (labelsC c i)) : Int)
                                                                                                        else (0 : Int)) !=
                                                                                                        (0 : Int)
                                                                                                else
                                                                                                  !askedB (labelsC c i) (0 : Int) label place &&
                                                                                                    (if askedB (labelsC c i) (0 : Int) label place = true then
                                                                                                        (place + (1 : Int)) * (↑(List.length (labelsC c i)) : Int)
                                                                                                      else (0 : Int)) !=
                                                                                                      (0 : Int))) ∧
                                                                                      true = true ∧
                                                                                        some (Blk.cells (confL c) (nat_lit 31) Mode.fix) = some (Blk.cells (confL c) (nat_lit 31) Mode.fix) ∧ True) ∧
                                                                                ((!askedB (labelsC c i) (0 : Int) label place) = false →
                                                                                  True ∧
                                                                                    Value.bool false =
                                                                                        Value.bool
                                                                                          (bif inB (labelsC c i) label s68 && (decide (place ≥ (0 : Int)) && decide (place ≤ (1000000 : Int))) then
                                                                                            !askedB (labelsC c i) slot label place == decide (slot ≥ (0 : Int)) ||
                                                                                              (!askedB (labelsC c i) (0 : Int) label place ==
                                                                                                    (inB (labelsC c i) label s68 && (decide (place ≥ (0 : Int)) && decide (place ≤ (1000000 : Int)))) ||
                                                                                                bif !askedB (labelsC c i) slot label place then
                                                                                                  waitW (labelsC c i) slot label place != (0 : Int) ||
                                                                                                    !askedB (labelsC c i) (0 : Int) label place &&
                                                                                                      (if askedB (labelsC c i) (0 : Int) label place = true then
                                                                                                          (place + (1 : Int)) * (↑(List.length (labelsC c i)) : Int)
                                                                                                        else (0 : Int)) !=
                                                                                                        (0 : Int)
                                                                                                else
                                                                                                  !askedB (labelsC c i) (0 : Int) label place &&
                                                                                                    (if askedB (labelsC c i) (0 : Int) label place = true then
                                                                                                        (place + (1 : Int)) * (↑(List.length (labelsC c i)) : Int)
                                                                                                      else (0 : Int)) !=
                                                                                                      (0 : Int))
                                                                                          else
                                                                                            !askedB (labelsC c i) slot label place == false ||
                                                                                              (!askedB (labelsC c i) (0 : Int) label place ==
                                                                                                    (inB (labelsC c i) label s68 && (decide (place ≥ (0 : Int)) && decide (place ≤ (1000000 : Int)))) ||
                                                                                                bif !askedB (labelsC c i) slot label place then
                                                                                                  waitW (labelsC c i) slot label place != (0 : Int) ||
                                                                                                    !askedB (labelsC c i) (0 : Int) label place &&
                                                                                                      (if askedB (labelsC c i) (0 : Int) label place = true then
                                                                                                          (place + (1 : Int)) * (↑(List.length (labelsC c i)) : Int)
                                                                                                        else (0 : Int)) !=
                                                                                                        (0 : Int)
                                                                                                else
                                                                                                  !askedB (labelsC c i) (0 : Int) label place &&
                                                                                                    (if askedB (labelsC c i) (0 : Int) label place = true then
                                                                                                        (place + (1 : Int)) * (↑(List.length (labelsC c i)) : Int)
                                                                                                      else (0 : Int)) !=
                                                                                                      (0 : Int))) ∧
                                                                                      true = true ∧
                                                                                        some (Blk.cells (confL c) (nat_lit 31) Mode.fix) = some (Blk.cells (confL c) (nat_lit 31) Mode.fix) ∧ True))) ∧
                                                                        ((!askedB (labelsC c i) slot label place) = false →
                                                                          ((!askedB (labelsC c i) (0 : Int) label place) = true →
                                                                              True ∧
                                                                                Value.bool
                                                                                      ((if askedB (labelsC c i) (0 : Int) label place = true then
                                                                                          (place + (1 : Int)) * (↑(List.length (labelsC c i)) : Int)
                                                                                        else (0 : Int)) !=
                                                                                        (0 : Int)) =
                                                                                    Value.bool
                                                                                      (bif inB (labelsC c i) label s68 && (decide (place ≥ (0 : Int)) && decide (place ≤ (1000000 : Int))) then
                                                                                        !askedB (labelsC c i) slot label place == decide (slot ≥ (0 : Int)) ||
                                                                                          (!askedB (labelsC c i) (0 : Int) label place ==
                                                                                                (inB (labelsC c i) label s68 && (decide (place ≥ (0 : Int)) && decide (place ≤ (1000000 : Int)))) ||
                                                                                            bif !askedB (labelsC c i) slot label place then
                                                                                              waitW (labelsC c i) slot label place != (0 : Int) ||
                                                                                                !askedB (labelsC c i) (0 : Int) label place &&
                                                                                                  (if askedB (labelsC c i) (0 : Int) label place = true then
                                                                                                      (place + (1 : Int)) * (↑(List.length (labelsC c i)) : Int)
                                                                                                    else (0 : Int)) !=
                                                                                                    (0 : Int)
                                                                                            else
                                                                                              !askedB (labelsC c i) (0 : Int) label place &&
                                                                                                (if askedB (labelsC c i) (0 : Int) label place = true then
                                                                                                    (place + (1 : Int)) * (↑(List.length (labelsC c i)) : Int)
                                                                                                  else (0 : Int)) !=
                                                                                                  (0 : Int))
                                                                                      else
                                                                                        !askedB (labelsC c i) slot label place == false ||
                                                                                          (!askedB (labelsC c i) (0 : Int) label place ==
                                                                                                (inB (labelsC c i) label s68 && (decide (place ≥ (0 : Int)) && decide (place ≤ (1000000 : Int)))) ||
                                                                                            bif !askedB (labelsC c i) slot label place then
                                                                                              waitW (labelsC c i) slot label place != (0 : Int) ||
                                                                                                !askedB (labelsC c i) (0 : Int) label place &&
                                                                                                  (if askedB (labelsC c i) (0 : Int) label place = true then
                                                                                                      (place + (1 : Int)) * (↑(List.length (labelsC c i)) : Int)
                                                                                                    else (0 : Int)) !=
                                                                                                    (0 : Int)
                                                                                            else
                                                                                              !askedB (labelsC c i) (0 : Int) label place &&
                                                                                                (if askedB (labelsC c i) (0 : Int) label place = true then
                                                                                                    (place + (1 : Int)) * (↑(List.length (labelsC c i)) : Int)
                                                                                                  else (0 : Int)) !=
                                                                                                  (0 : Int))) ∧
                                                                                  true = true ∧
                                                                                    some (Blk.cells (confL c) (nat_lit 31) Mode.fix) = some (Blk.cells (confL c) (nat_lit 31) Mode.fix) ∧ True) ∧
                                                                            ((!askedB (labelsC c i) (0 : Int) label place) = false →
                                                                              True ∧
                                                                                Value.bool false =
                                                                                    Value.bool
                                                                                      (bif inB (labelsC c i) label s68 && (decide (place ≥ (0 : Int)) && decide (place ≤ (1000000 : Int))) then
                                                                                        !askedB (labelsC c i) slot label place == decide (slot ≥ (0 : Int)) ||
                                                                                          (!askedB (labelsC c i) (0 : Int) label place ==
                                                                                                (inB (labelsC c i) label s68 && (decide (place ≥ (0 : Int)) && decide (place ≤ (1000000 : Int)))) ||
                                                                                            bif !askedB (labelsC c i) slot label place then
                                                                                              waitW (labelsC c i) slot label place != (0 : Int) ||
                                                                                                !askedB (labelsC c i) (0 : Int) label place &&
                                                                                                  (if askedB (labelsC c i) (0 : Int) label place = true then
                                                                                                      (place + (1 : Int)) * (↑(List.length (labelsC c i)) : Int)
                                                                                                    else (0 : Int)) !=
                                                                                                    (0 : Int)
                                                                                            else
                                                                                              !askedB (labelsC c i) (0 : Int) label place &&
                                                                                                (if askedB (labelsC c i) (0 : Int) label place = true then
                                                                                                    (place + (1 : Int)) * (↑(List.length (labelsC c i)) : Int)
                                                                                                  else (0 : Int)) !=
                                                                                                  (0 : Int))
                                                                                      else
                                                                                        !askedB (labelsC c i) slot label place == false ||
                                                                                          (!askedB (labelsC c i) (0 : Int) label place ==
                                                                                                (inB (labelsC c i) label s68 && (decide (place ≥ (0 : Int)) && decide (place ≤ (1000000 : Int)))) ||
                                                                                            bif !askedB (labelsC c i) slot label place then
                                                                                              waitW (labelsC c i) slot label place != (0 : Int) ||
                                                                                                !askedB (labelsC c i) (0 : Int) label place &&
                                                                                                  (if askedB (labelsC c i) (0 : Int) label place = true then
                                                                                                      (place + (1 : Int)) * (↑(List.length (labelsC c i)) : Int)
                                                                                                    else (0 : Int)) !=
                                                                                                    (0 : Int)
                                                                                            else
                                                                                              !askedB (labelsC c i) (0 : Int) label place &&
                                                                                                (if askedB (labelsC c i) (0 : Int) label place = true then
                                                                                                    (place + (1 : Int)) * (↑(List.length (labelsC c i)) : Int)
                                                                                                  else (0 : Int)) !=
                                                                                                  (0 : Int))) ∧
                                                                                  true = true ∧
                                                                                    some (Blk.cells (confL c) (nat_lit 31) Mode.fix) = some (Blk.cells (confL c) (nat_lit 31) Mode.fix) ∧ True)))))) ∧
                                                          (True →
                                                            ∀ (j81 : Nat → Value),
                                                              ((bif inB (labelsC c i) label s68 && (decide (place ≥ (0 : Int)) && decide (place ≤ (1000000 : Int))) then
                                                                      !askedB (labelsC c i) slot label place == decide (slot ≥ (0 : Int)) ||
                                                                        (!askedB (labelsC c i) (0 : Int) label place ==
                                                                              (inB (labelsC c i) label s68 && (decide (place ≥ (0 : Int)) && decide (place ≤ (1000000 : Int)))) ||
                                                                          bif !askedB (labelsC c i) slot label place then
                                                                            waitW (labelsC c i) slot label place != (0 : Int) ||
                                                                              !askedB (labelsC c i) (0 : Int) label place &&
                                                                                (if askedB (labelsC c i) (0 : Int) label place = true then (place + (1 : Int)) * (↑(List.length (labelsC c i)) : Int)
                                                                                  else (0 : Int)) !=
                                                                                  (0 : Int)
                                                                          else
                                                                            !askedB (labelsC c i) (0 : Int) label place &&
                                                                              (if askedB (labelsC c i) (0 : Int) label place = true then (place + (1 : Int)) * (↑(List.length (labelsC c i)) : Int)
                                                                                else (0 : Int)) !=
                                                                                (0 : Int))
                                                                    else
                                                                      !askedB (labelsC c i) slot label place == false ||
                                                                        (!askedB (labelsC c i) (0 : Int) label place ==
                                                                              (inB (labelsC c i) label s68 && (decide (place ≥ (0 : Int)) && decide (place ≤ (1000000 : Int)))) ||
                                                                          bif !askedB (labelsC c i) slot label place then
                                                                            waitW (labelsC c i) slot label place != (0 : Int) ||
                                                                              !askedB (labelsC c i) (0 : Int) label place &&
                                                                                (if askedB (labelsC c i) (0 : Int) label place = true then (place + (1 : Int)) * (↑(List.length (labelsC c i)) : Int)
                                                                                  else (0 : Int)) !=
                                                                                  (0 : Int)
                                                                          else
                                                                            !askedB (labelsC c i) (0 : Int) label place &&
                                                                              (if askedB (labelsC c i) (0 : Int) label place = true then (place + (1 : Int)) * (↑(List.length (labelsC c i)) : Int)
                                                                                else (0 : Int)) !=
                                                                                (0 : Int))) =
                                                                    true →
                                                                  Value.bool false = Value.bool true) ∧
                                                                ((bif inB (labelsC c i) label s68 && (decide (place ≥ (0 : Int)) && decide (place ≤ (1000000 : Int))) then
                                                                      !askedB (labelsC c i) slot label place == decide (slot ≥ (0 : Int)) ||
                                                                        (!askedB (labelsC c i) (0 : Int) label place ==
                                                                              (inB (labelsC c i) label s68 && (decide (place ≥ (0 : Int)) && decide (place ≤ (1000000 : Int)))) ||
                                                                          bif !askedB (labelsC c i) slot label place then
                                                                            waitW (labelsC c i) slot label place != (0 : Int) ||
                                                                              !askedB (labelsC c i) (0 : Int) label place &&
                                                                                (if askedB (labelsC c i) (0 : Int) label place = true then (place + (1 : Int)) * (↑(List.length (labelsC c i)) : Int)
                                                                                  else (0 : Int)) !=
                                                                                  (0 : Int)
                                                                          else
                                                                            !askedB (labelsC c i) (0 : Int) label place &&
                                                                              (if askedB (labelsC c i) (0 : Int) label place = true then (place + (1 : Int)) * (↑(List.length (labelsC c i)) : Int)
                                                                                else (0 : Int)) !=
                                                                                (0 : Int))
                                                                    else
                                                                      !askedB (labelsC c i) slot label place == false ||
                                                                        (!askedB (labelsC c i) (0 : Int) label place ==
                                                                              (inB (labelsC c i) label s68 && (decide (place ≥ (0 : Int)) && decide (place ≤ (1000000 : Int)))) ||
                                                                          bif !askedB (labelsC c i) slot label place then
                                                                            waitW (labelsC c i) slot label place != (0 : Int) ||
                                                                              !askedB (labelsC c i) (0 : Int) label place &&
                                                                                (if askedB (labelsC c i) (0 : Int) label place = true then (place + (1 : Int)) * (↑(List.length (labelsC c i)) : Int)
                                                                                  else (0 : Int)) !=
                                                                                  (0 : Int)
                                                                          else
                                                                            !askedB (labelsC c i) (0 : Int) label place &&
                                                                              (if askedB (labelsC c i) (0 : Int) label place = true then (place + (1 : Int)) * (↑(List.length (labelsC c i)) : Int)
                                                                                else (0 : Int)) !=
                                                                                (0 : Int))) =
                                                                    false →
                                                                  ((!askedB (labelsC c i) slot label place) = true → Value.bool true = Value.bool true) ∧
                                                                    ((!askedB (labelsC c i) slot label place) = false →
                                                                      (↑(List.length (labelsC c i)) : Int) ≠ (0 : Int) ∧
                                                                        (WaitInv (labelsC c i) label slot place
                                                                              (Int.toNat
                                                                                (waitI (↑(List.length (labelsC c i)) : Int) (placeI (labelsC c i) label)
                                                                                  (Int.tmod slot (↑(List.length (labelsC c i)) : Int)) place))
                                                                              (place + (1 : Int), (0 : Int), Int.tmod slot (↑(List.length (labelsC c i)) : Int)) ∧
                                                                            (Value.int IntKind.i64 (IntKind.wrap IntKind.i64 (place + (1 : Int))) =
                                                                                  Value.int IntKind.i64 (Prod.fst (place + (1 : Int), (0 : Int), Int.tmod slot (↑(List.length (labelsC c i)) : Int))) ∧
                                                                                Value.int IntKind.i64 (0 : Int) = Value.int IntKind.i64 (0 : Int) ∧
                                                                                  Value.int IntKind.i64 (Int.tmod slot (↑(List.length (labelsC c i)) : Int)) =
                                                                                    Value.int IntKind.i64
                                                                                      (Prod.snd (Prod.snd (place + (1 : Int), (0 : Int), Int.tmod slot (↑(List.length (labelsC c i)) : Int))))) ∧
                                                                              Heap.mk (nat_lit 1) (Trie.node (some (Blk.cells (confL c) (nat_lit 31) Mode.fix)) Trie.leaf Trie.leaf) =
                                                                                Heap.mk (nat_lit 1) (Trie.node (some (Blk.cells (confL c) (nat_lit 31) Mode.fix)) Trie.leaf Trie.leaf)) ∧
                                                                          ∀ (i100 : Nat) (s100 : Int × Int × Int) (j100 : Nat → Value),
                                                                            WaitInv (labelsC c i) label slot place i100 s100 →
                                                                              (decide (Prod.fst s100 > (0 : Int)) = true →
                                                                                  ((0 : Int) ≤ Prod.snd (Prod.snd s100) ∧ Prod.snd (Prod.snd s100) < (↑(List.length (labelsC c i)) : Int)) ∧
                                                                                    Ask.holds Try.prog
                                                                                        (Ask.part (Array.toList (Array.mk (intsL (labelsC c i))))
                                                                                          (Int.toNat (↑(Int.toNat (Prod.snd (Prod.snd s100)) * nat_lit 1) : Int)) (nat_lit 1)
                                                                                          [Value.int IntKind.i64 (↑(List.getD (labelsC c i) (Int.toNat (Prod.snd (Prod.snd s100))) (0 : Nat)) : Int)]) ∧
                                                                                      (((↑(List.getD (labelsC c i) (Int.toNat (Prod.snd (Prod.snd s100))) (0 : Nat)) : Int) == label) = true →
                                                                                          (↑(List.length (labelsC c i)) : Int) ≠ (0 : Int) ∧
                                                                                            ∃ (i100' : Nat),
                                                                                              ∃ (s100' : Int × Int × Int),
                                                                                                i100' < i100 ∧
                                                                                                  WaitInv (labelsC c i) label slot place i100' s100' ∧
                                                                                                    (Value.int IntKind.i64 (IntKind.wrap IntKind.i64 (Prod.fst s100 - (1 : Int))) =
                                                                                                          Value.int IntKind.i64 (Prod.fst s100') ∧
                                                                                                        Value.int IntKind.i64 (IntKind.wrap IntKind.i64 (Prod.fst (Prod.snd s100) + (1 : Int))) =
                                                                                                            Value.int IntKind.i64 (Prod.fst (Prod.snd s100')) ∧
                                                                                                          Value.int IntKind.i64
                                                                                                              (Int.tmod (IntKind.wrap IntKind.i64 (Prod.snd (Prod.snd s100) + (1 : Int)))
                                                                                                                (↑(List.length (labelsC c i)) : Int)) =
                                                                                                            Value.int IntKind.i64 (Prod.snd (Prod.snd s100'))) ∧
                                                                                                      (some (Blk.cells (confL c) (nat_lit 31) Mode.fix) =
                                                                                                            some (Blk.cells (confL c) (nat_lit 31) Mode.fix) ∧
                                                                                                          True) ∧
                                                                                                        true = true ∧ true = true ∧ True) ∧
                                                                                        (((↑(List.getD (labelsC c i) (Int.toNat (Prod.snd (Prod.snd s100))) (0 : Nat)) : Int) == label) = false →
                                                                                          (↑(List.length (labelsC c i)) : Int) ≠ (0 : Int) ∧
                                                                                            ∃ (i100' : Nat),
                                                                                              ∃ (s100' : Int × Int × Int),
                                                                                                i100' < i100 ∧
                                                                                                  WaitInv (labelsC c i) label slot place i100' s100' ∧
                                                                                                    (Value.int IntKind.i64 (Prod.fst s100) = Value.int IntKind.i64 (Prod.fst s100') ∧
                                                                                                        Value.int IntKind.i64 (IntKind.wrap IntKind.i64 (Prod.fst (Prod.snd s100) + (1 : Int))) =
                                                                                                            Value.int IntKind.i64 (Prod.fst (Prod.snd s100')) ∧
                                                                                                          Value.int IntKind.i64
                                                                                                              (Int.tmod (IntKind.wrap IntKind.i64 (Prod.snd (Prod.snd s100) + (1 : Int)))
                                                                                                                (↑(List.length (labelsC c i)) : Int)) =
                                                                                                            Value.int IntKind.i64 (Prod.snd (Prod.snd s100'))) ∧
                                                                                                      (some (Blk.cells (confL c) (nat_lit 31) Mode.fix) =
                                                                                                            some (Blk.cells (confL c) (nat_lit 31) Mode.fix) ∧
                                                                                                          True) ∧
                                                                                                        true = true ∧ true = true ∧ True)) ∧
                                                                                (decide (Prod.fst s100 > (0 : Int)) = false →
                                                                                  (((waitW (labelsC c i) slot label place == Prod.fst (Prod.snd s100)) = true →
                                                                                        True ∧
                                                                                          Value.bool
                                                                                                ((if askedB (labelsC c i) (0 : Int) label place = true then
                                                                                                    (place + (1 : Int)) * (↑(List.length (labelsC c i)) : Int)
                                                                                                  else (0 : Int)) ==
                                                                                                  IntKind.wrap IntKind.i64
                                                                                                    (IntKind.wrap IntKind.i64 (place + (1 : Int)) * (↑(List.length (labelsC c i)) : Int))) =
                                                                                              Value.bool
                                                                                                (waitW (labelsC c i) slot label place == Prod.fst (Prod.snd s100) &&
                                                                                                  (if askedB (labelsC c i) (0 : Int) label place = true then
                                                                                                      (place + (1 : Int)) * (↑(List.length (labelsC c i)) : Int)
                                                                                                    else (0 : Int)) ==
                                                                                                    IntKind.wrap IntKind.i64
                                                                                                      (IntKind.wrap IntKind.i64 (place + (1 : Int)) * (↑(List.length (labelsC c i)) : Int))) ∧
                                                                                            true = true ∧
                                                                                              some (Blk.cells (confL c) (nat_lit 31) Mode.fix) = some (Blk.cells (confL c) (nat_lit 31) Mode.fix) ∧
                                                                                                True) ∧
                                                                                      ((waitW (labelsC c i) slot label place == Prod.fst (Prod.snd s100)) = false →
                                                                                        True ∧
                                                                                          Value.bool false =
                                                                                              Value.bool
                                                                                                (waitW (labelsC c i) slot label place == Prod.fst (Prod.snd s100) &&
                                                                                                  (if askedB (labelsC c i) (0 : Int) label place = true then
                                                                                                      (place + (1 : Int)) * (↑(List.length (labelsC c i)) : Int)
                                                                                                    else (0 : Int)) ==
                                                                                                    IntKind.wrap IntKind.i64
                                                                                                      (IntKind.wrap IntKind.i64 (place + (1 : Int)) * (↑(List.length (labelsC c i)) : Int))) ∧
                                                                                            true = true ∧
                                                                                              some (Blk.cells (confL c) (nat_lit 31) Mode.fix) = some (Blk.cells (confL c) (nat_lit 31) Mode.fix) ∧
                                                                                                True)) ∧
                                                                                    (True →
                                                                                      ∀ (j106 : Nat → Value),
                                                                                        Value.bool
                                                                                            (waitW (labelsC c i) slot label place == Prod.fst (Prod.snd s100) &&
                                                                                              (if askedB (labelsC c i) (0 : Int) label place = true then
                                                                                                  (place + (1 : Int)) * (↑(List.length (labelsC c i)) : Int)
                                                                                                else (0 : Int)) ==
                                                                                                IntKind.wrap IntKind.i64
                                                                                                  (IntKind.wrap IntKind.i64 (place + (1 : Int)) * (↑(List.length (labelsC c i)) : Int))) =
                                                                                          Value.bool true)))))))))))))) (by kernel_rfl) (by
    refine ⟨?_, fun _ j4 => ⟨fun h => ⟨awake33_w, rfl⟩, fun hg => ?_⟩⟩
    · repeat' (first | exact great_w _ | exact awake33_w | with_reducible rfl | exact trivial | apply And.intro | intro)
      all_goals first | (simp only [*, cond_true, cond_false, Bool.true_or, Bool.false_or, Bool.or_true, Bool.or_false, Bool.true_and, Bool.false_and, Bool.and_true, Bool.and_false, Bool.not_true, Bool.not_false, Bool.true_eq_false, Bool.false_eq_true, if_true, if_false, eq_self]; done) | grind
    have g : greatC c = false := by cases h : greatC c <;> simp_all
    have hb : ¬ (place > 50 ∧ place ≤ 1000000) := fun ⟨h1, h2⟩ => by simp [h1, h2] at hg
    have hok := hw.ok g
    have hll := great_len g
    have hl : (labelsC c i).length ≤ 1000 := Nat.le_trans (labelsC_le c i) hll
    refine ⟨cycle_w c i hw g, fun h0 => ⟨planNew_t c i hok hll h0, h0, rfl⟩, fun h0 => ?_⟩
    have hpos : 0 < (labelsC c i).length := by
      rcases Nat.eq_zero_or_pos (labelsC c i).length with e | e
      · rw [e] at h0; simp at h0
      · exact e
    refine ⟨planNew_f c i hok hll h0, h0, planLen_w _ _, fun h => by simp at h, fun _ => ⟨wait_w _ _ _ _ _ hpos hl, worst_w _ _ _ _ hpos hl, ⟨by omega, ⟨rfl, rfl⟩, rfl⟩, fun m k j hm => ⟨fun h1 => ?_, fun h1 => ?_⟩⟩⟩
    · have hk : k < (labelsC c i).length := by have := of_decide_eq_true h1; omega
      exact ⟨fun h2 => ⟨m - 1, k + 1, by omega, by omega, ⟨wrap_next k (by omega), by rw [inB_yes h2]⟩, ⟨rfl, trivial⟩, rfl, rfl, trivial⟩, fun h2 => ⟨⟨by omega, by omega⟩, ints_part hk rfl, m - 1, k + 1, by omega, by omega, ⟨wrap_next k (by omega), by rw [inB_no hk h2]⟩, ⟨rfl, trivial⟩, rfl, rfl, trivial⟩⟩
    obtain rfl : k = (labelsC c i).length := by have := of_decide_eq_false h1; omega
    have htm : 0 ≤ slot → 0 ≤ slot.tmod ((labelsC c i).length : Int) ∧ slot.tmod ((labelsC c i).length : Int) < (labelsC c i).length := fun h => tmod_range h (by omega)
    refine ⟨?_, fun _ j77 => ⟨fun h => ?_, fun _ => ⟨?_, fun _ j79 => ⟨?_, fun _ j81 => ⟨fun h => ?_, fun _ => ⟨fun _ => rfl, fun ha => ?_⟩⟩⟩⟩⟩⟩
    · repeat' (first | exact whose_w _ _ _ hpos hl | with_reducible rfl | exact trivial | exact ints_part (by grind) rfl | apply And.intro | intro)
      all_goals grind
    · exfalso; revert h
      by_cases h5 : slot < 0 <;> simp [h5]
    · repeat' (first | with_reducible rfl | exact trivial | apply And.intro | intro)
      all_goals first | (simp only [*, cond_true, cond_false, Bool.true_or, Bool.false_or, Bool.or_true, Bool.or_false, Bool.true_and, Bool.false_and, Bool.and_true, Bool.and_false, Bool.not_true, Bool.not_false, Bool.true_eq_false, Bool.false_eq_true, if_true, if_false, eq_self]; done) | grind
    · repeat' (first | with_reducible rfl | exact trivial | apply And.intro | intro)
      all_goals first | (simp only [*, cond_true, cond_false, Bool.true_or, Bool.false_or, Bool.or_true, Bool.or_false, Bool.true_and, Bool.false_and, Bool.and_true, Bool.and_false, Bool.not_true, Bool.not_false, Bool.true_eq_false, Bool.false_eq_true, if_true, if_false, eq_self]; done) | grind
    · exfalso; revert h; rw [inB_all]
      by_cases a1 : 0 ≤ slot <;> by_cases a2 : 0 ≤ place <;> by_cases a3 : place ≤ 1000000 <;> by_cases a4 : 0 ≤ placeI (labelsC c i) label <;> simp [askedB, waitW, a1, a2, a3, a4]
    have ha' : askedB (labelsC c i) slot label place = true := by simpa using ha
    obtain ⟨a1, a2, a3, a4⟩ := asked_all ha'
    have a5 : place ≤ 50 := by omega
    have hp := place_lt a4
    obtain ⟨t1, t2⟩ := htm a1
    have w0 : waitW (labelsC c i) slot label place = waitI (labelsC c i).length (placeI (labelsC c i) label) (slot.tmod (labelsC c i).length) place := by unfold waitW; rw [if_pos ha']
    have g0 : 0 ≤ gapI (labelsC c i).length (placeI (labelsC c i) label) (slot.tmod (labelsC c i).length) ∧ gapI (labelsC c i).length (placeI (labelsC c i) label) (slot.tmod (labelsC c i).length) < (labelsC c i).length := by unfold gapI; split <;> omega
    have b0 : 0 ≤ place * ((labelsC c i).length : Int) := Int.mul_nonneg a2 (by omega)
    have b1 : place * ((labelsC c i).length : Int) ≤ 50 * 1000 := Int.mul_le_mul a5 (by omega) (by omega) (by omega)
    have w1 : waitI (labelsC c i).length (placeI (labelsC c i) label) (slot.tmod (labelsC c i).length) place ≤ 60000 := by unfold waitI; omega
    refine ⟨by omega, ⟨WaitInv.start a1 a2 a5 a4, ⟨congrArg _ (wrap_in (by omega) (by omega)), rfl, rfl⟩, rfl⟩, fun m s j q => ⟨fun h1 => ?_, fun h1 => ?_⟩⟩
    · have hs : 0 < s.1 := of_decide_eq_true h1
      have ⟨q1, q2, q3, q4, q5, q6, _⟩ := q
      have hit := hit_iff (labelsC_nodup c i) a4 (a := s.2.2.toNat) (by omega)
      have e3 : IntKind.i64.wrap (s.2.2 + 1) = s.2.2 + 1 := wrap_in (by omega) (by omega)
      have e2 : IntKind.i64.wrap (s.2.1 + 1) = s.2.1 + 1 := wrap_in (by omega) (by omega)
      refine ⟨⟨by omega, by omega⟩, ints_part (k := s.2.2.toNat) (by omega) rfl, fun h2 => ?_, fun h2 => ?_⟩
      · obtain ⟨z1, z2⟩ := q.hit a4 hs (by have := hit.1 (by simpa using h2); omega)
        exact ⟨by omega, m - 1, _, by omega, z2, ⟨congrArg _ (wrap_in (by omega) (by omega)), congrArg _ e2, by rw [e3]⟩, ⟨rfl, trivial⟩, rfl, rfl, trivial⟩
      · obtain ⟨z1, z2⟩ := q.miss a4 hs (fun e => absurd (hit.2 (by omega)) (by simpa using h2))
        exact ⟨by omega, m - 1, _, by omega, z2, ⟨rfl, congrArg _ e2, by rw [e3]⟩, ⟨rfl, trivial⟩, rfl, rfl, trivial⟩
    · have hs : ¬ 0 < s.1 := of_decide_eq_false h1
      have e4 := q.end hs
      refine ⟨?_, fun _ j106 => ?_⟩
      · repeat' (first | with_reducible rfl | exact trivial | apply And.intro | intro)
        all_goals first | (simp only [*, cond_true, cond_false, Bool.true_or, Bool.false_or, Bool.or_true, Bool.or_false, Bool.true_and, Bool.false_and, Bool.and_true, Bool.and_false, Bool.not_true, Bool.not_false, Bool.true_eq_false, Bool.false_eq_true, if_true, if_false, eq_self]; done) | grind
      · have e5 : askedB (labelsC c i) 0 label place = true := by rw [← asked_slot a1]; exact ha'
        have e6 : IntKind.i64.wrap (place + 1) = place + 1 := wrap_in (by omega) (by omega)
        have e7 : IntKind.i64.wrap ((place + 1) * ((labelsC c i).length : Int)) = (place + 1) * ((labelsC c i).length : Int) := by
          rw [Int.add_mul]; exact wrap_in (by omega) (by omega)
        rw [w0, e4, e5, e6, e7]; simp)
end Go.Proofs.Ytepijhnfeafmaaa

end
