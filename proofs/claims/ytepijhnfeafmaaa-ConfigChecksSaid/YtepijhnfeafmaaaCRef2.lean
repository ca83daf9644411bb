/- What the document's answer says of configs: interfaces, and the whole. -/
import Derived.Test.YtepijhnfeafmaaaAPrg
import Derived.Test.YtepijhnfeafmaaaCRef
set_option linter.unusedVariables false
set_option linter.unusedSimpArgs false
set_option maxRecDepth 100000
namespace Go.Proofs.Ytepijhnfeafmaaa
open Go Go.Ideal
def FaceOK (x : Face) : Prop := CatsOK x.lo.cats ∧ CatsOK x.hi.cats ∧ CatsOK x.dflt.cats
/-- Data as they are. -/
structure ConfOK (c : Conf) : Prop where
  len : ConfLen c
  addr : AddrOK c
  faces : ∀ x ∈ c.faces, FaceOK x
  dois : ∀ d ∈ c.dois, d.levels.length ≤ 1099511627776 ∧ d.cats.length ≤ 1099511627776
  relabels : ∀ r ∈ c.relabels, PfxOK r.src ∧ PfxOK r.dst
  rules : ∀ r ∈ c.rules, PfxOK r.src ∧ PfxOK r.dst
  routes : ∀ r ∈ c.routes, PfxOK r.to
theorem refFace_w (c : Conf) (i : Nat) (hi : i < c.faces.length) (h : ConfOK c) : CallK Try.prog 61 [confV c, .int .i64 i] (.int .i64 (faceE c (c.faces.take i) (c.faces.getD i default))) :=
  CallK.via progOK (pfs []) [] 100 (Adv.chk (5 : Nat) none
  (Adv.chk (6 : Nat) (some (Value.agg (Array.mk (faceL (List.getD (Conf.faces c) i default)))))
    (Adv.pur (11 : Nat) (Value.int IntKind.i64 (kindI (Face.addr (List.getD (Conf.faces c) i default))))
      (Adv.split (12 : Nat) Adv.nil
        (Adv.loop (14 : Nat) (fun (k : Nat) => [((6 : Nat), Value.int IntKind.i64 (↑k : Int))])
          ((fun (h : Heap) (x : Nat) => h)
            (Heap.mk (nat_lit 2)
              (Trie.node (some (Blk.cells (confL c) (nat_lit 31) Mode.fix)) (Trie.node (some (Blk.cells (faceL (List.getD (Conf.faces c) i default)) (nat_lit 46) Mode.fix)) Trie.leaf Trie.leaf)
                Trie.leaf)))
          (fun (a k : Nat) => a + k = i ∧ ∀ (j : Nat), j < k → (Face.addr (List.getD (Conf.faces c) j default) == Face.addr (List.getD (Conf.faces c) i default)) = false) i (0 : Nat)
          fun (i14 s14 : Nat) (j14 : Nat → Value) =>
          Adv.split (17 : Nat) (Adv.chk (21 : Nat) none (Adv.chk (23 : Nat) (some (Value.int IntKind.u32 (Face.addr (List.getD (Conf.faces c) s14 default)))) (Adv.split (26 : Nat) Adv.nil Adv.nil)))
            (Adv.split (20 : Nat) Adv.nil
              (Adv.split (24 : Nat) Adv.nil
                (Adv.split (29 : Nat) Adv.nil
                  (Adv.split (34 : Nat) Adv.nil
                    (Adv.split (39 : Nat)
                      (Adv.split (43 : Nat) Adv.nil
                        (Adv.split (50 : Nat) Adv.nil
                          (Adv.split (70 : Nat) Adv.nil
                            (Adv.split (76 : Nat) Adv.nil
                              (Adv.split (87 : Nat) Adv.nil
                                (Adv.split (93 : Nat) Adv.nil
                                  (Adv.split (104 : Nat) Adv.nil
                                    (Adv.split (110 : Nat) Adv.nil
                                      (Adv.purs (121 : Nat) (domL (Face.hi (List.getD (Conf.faces c) i default)) (Face.lo (List.getD (Conf.faces c) i default)))
                                        (Adv.purs (128 : Nat) (domL (Face.hi (List.getD (Conf.faces c) i default)) (Face.dflt (List.getD (Conf.faces c) i default)))
                                          (Adv.purs (136 : Nat) (domL (Face.dflt (List.getD (Conf.faces c) i default)) (Face.lo (List.getD (Conf.faces c) i default)))
                                            (Adv.pur (144 : Nat) (Value.int IntKind.i64 (findL (Conf.labels c) (Face.dflt (List.getD (Conf.faces c) i default))))
                                              (Adv.split (145 : Nat) Adv.nil
                                                (Adv.split (149 : Nat)
                                                  (Adv.chks (155 : Nat) (some (Value.bool (lblEq (Face.lo (List.getD (Conf.faces c) i default)) (Face.hi (List.getD (Conf.faces c) i default)))))
                                                    Adv.nil
                                                    (Adv.chks (161 : Nat) (some (Value.bool (lblEq (Face.lo (List.getD (Conf.faces c) i default)) (Face.dflt (List.getD (Conf.faces c) i default)))))
                                                      Adv.nil Adv.nil))
                                                  Adv.nil)))
                                            Adv.nil)
                                          Adv.nil)
                                        Adv.nil)))))))))
                      (Adv.split (59 : Nat) Adv.nil
                        (Adv.split (65 : Nat) Adv.nil
                          (Adv.split (76 : Nat) Adv.nil
                            (Adv.split (82 : Nat) Adv.nil
                              (Adv.split (93 : Nat) Adv.nil
                                (Adv.split (99 : Nat) Adv.nil
                                  (Adv.purs (110 : Nat) (domL (Face.hi (List.getD (Conf.faces c) i default)) (Face.lo (List.getD (Conf.faces c) i default)))
                                    (Adv.purs (117 : Nat) (domL (Face.hi (List.getD (Conf.faces c) i default)) (Face.dflt (List.getD (Conf.faces c) i default)))
                                      (Adv.purs (125 : Nat) (domL (Face.dflt (List.getD (Conf.faces c) i default)) (Face.lo (List.getD (Conf.faces c) i default)))
                                        (Adv.pur (133 : Nat) (Value.int IntKind.i64 (findL (Conf.labels c) (Face.dflt (List.getD (Conf.faces c) i default))))
                                          (Adv.split (134 : Nat) Adv.nil
                                            (Adv.split (138 : Nat)
                                              (Adv.chks (144 : Nat) (some (Value.bool (lblEq (Face.lo (List.getD (Conf.faces c) i default)) (Face.hi (List.getD (Conf.faces c) i default))))) Adv.nil
                                                (Adv.chks (150 : Nat) (some (Value.bool (lblEq (Face.lo (List.getD (Conf.faces c) i default)) (Face.dflt (List.getD (Conf.faces c) i default)))))
                                                  Adv.nil Adv.nil))
                                              Adv.nil)))
                                        Adv.nil)
                                      Adv.nil)
                                    Adv.nil))))))))))))))))) (by kernel_rfl) (by kernel_rfl) (p := ((0 : Int) ≤ (↑i : Int) ∧ (↑i : Int) < (↑(List.length (Conf.faces c)) : Int)) ∧
  Ask.holds Try.prog (Ask.part (Array.toList (Array.mk (facesL (Conf.faces c)))) (Int.toNat (↑(Int.toNat (↑i : Int) * nat_lit 97) : Int)) (nat_lit 97) (faceL (List.getD (Conf.faces c) i default))) ∧
    CallK Try.prog (nat_lit 109) [Value.int IntKind.u32 (Face.addr (List.getD (Conf.faces c) i default))] (Value.int IntKind.i64 (kindI (Face.addr (List.getD (Conf.faces c) i default)))) ∧
      ((kindI (Face.addr (List.getD (Conf.faces c) i default)) != (4 : Int)) = true →
          Value.int IntKind.i64 (1 : Int) = Value.int IntKind.i64 (faceE c (List.take i (Conf.faces c)) (List.getD (Conf.faces c) i default))) ∧
        ((kindI (Face.addr (List.getD (Conf.faces c) i default)) != (4 : Int)) = false →
          ((i + (0 : Nat) = i ∧ ∀ (j : Nat), j < (0 : Nat) → (Face.addr (List.getD (Conf.faces c) j default) == Face.addr (List.getD (Conf.faces c) i default)) = false) ∧
              Value.int IntKind.i64 (0 : Int) = Value.int IntKind.i64 (0 : Int) ∧
                Heap.mk (nat_lit 2)
                    (Trie.node (some (Blk.cells (confL c) (nat_lit 31) Mode.fix)) (Trie.node (some (Blk.cells (faceL (List.getD (Conf.faces c) i default)) (nat_lit 46) Mode.fix)) Trie.leaf Trie.leaf)
                      Trie.leaf) =
                  Heap.mk (nat_lit 2)
                    (Trie.node (some (Blk.cells (confL c) (nat_lit 31) Mode.fix)) (Trie.node (some (Blk.cells (faceL (List.getD (Conf.faces c) i default)) (nat_lit 46) Mode.fix)) Trie.leaf Trie.leaf)
                      Trie.leaf)) ∧
            ∀ (i14 s14 : Nat) (j14 : Nat → Value),
              (i14 + s14 = i ∧ ∀ (j : Nat), j < s14 → (Face.addr (List.getD (Conf.faces c) j default) == Face.addr (List.getD (Conf.faces c) i default)) = false) →
                (decide ((↑s14 : Int) < (↑i : Int)) = true →
                    ((0 : Int) ≤ (↑s14 : Int) ∧ (↑s14 : Int) < (↑(List.length (Conf.faces c)) : Int)) ∧
                      Ask.holds Try.prog
                          (Ask.part (Array.toList (Array.mk (facesL (Conf.faces c)))) (Int.toNat (↑(Int.toNat (↑(Int.toNat (↑s14 : Int) * nat_lit 97) : Int) + nat_lit 0) : Int)) (nat_lit 1)
                            [Value.int IntKind.u32 (Face.addr (List.getD (Conf.faces c) s14 default))]) ∧
                        ((Face.addr (List.getD (Conf.faces c) s14 default) == Face.addr (List.getD (Conf.faces c) i default)) = true →
                            Value.int IntKind.i64 (7 : Int) = Value.int IntKind.i64 (faceE c (List.take i (Conf.faces c)) (List.getD (Conf.faces c) i default))) ∧
                          ((Face.addr (List.getD (Conf.faces c) s14 default) == Face.addr (List.getD (Conf.faces c) i default)) = false →
                            ∃ (i14' : Nat),
                              ∃ (s14' : Nat),
                                i14' < i14 ∧
                                  (i14' + s14' = i ∧ ∀ (j : Nat), j < s14' → (Face.addr (List.getD (Conf.faces c) j default) == Face.addr (List.getD (Conf.faces c) i default)) = false) ∧
                                    Value.int IntKind.i64 (IntKind.wrap IntKind.i64 ((↑s14 : Int) + (1 : Int))) = Value.int IntKind.i64 (↑s14' : Int) ∧
                                      (some (Blk.cells (faceL (List.getD (Conf.faces c) i default)) (nat_lit 46) Mode.fix) =
                                            some (Blk.cells (faceL (List.getD (Conf.faces c) i default)) (nat_lit 46) Mode.fix) ∧
                                          some (Blk.cells (confL c) (nat_lit 31) Mode.fix) = some (Blk.cells (confL c) (nat_lit 31) Mode.fix) ∧ True) ∧
                                        true = true ∧ true = true ∧ true = true ∧ True)) ∧
                  (decide ((↑s14 : Int) < (↑i : Int)) = false →
                    (decide (Face.mtu (List.getD (Conf.faces c) i default) < (68 : Int)) = true →
                        Value.int IntKind.i64 (1 : Int) = Value.int IntKind.i64 (faceE c (List.take i (Conf.faces c)) (List.getD (Conf.faces c) i default))) ∧
                      (decide (Face.mtu (List.getD (Conf.faces c) i default) < (68 : Int)) = false →
                        (decide (Face.mtu (List.getD (Conf.faces c) i default) > (65535 : Int)) = true →
                            Value.int IntKind.i64 (1 : Int) = Value.int IntKind.i64 (faceE c (List.take i (Conf.faces c)) (List.getD (Conf.faces c) i default))) ∧
                          (decide (Face.mtu (List.getD (Conf.faces c) i default) > (65535 : Int)) = false →
                            (decide (Face.mode (List.getD (Conf.faces c) i default) < (0 : Int)) = true →
                                Value.int IntKind.i64 (1 : Int) = Value.int IntKind.i64 (faceE c (List.take i (Conf.faces c)) (List.getD (Conf.faces c) i default))) ∧
                              (decide (Face.mode (List.getD (Conf.faces c) i default) < (0 : Int)) = false →
                                (decide (Face.mode (List.getD (Conf.faces c) i default) > (2 : Int)) = true →
                                    Value.int IntKind.i64 (1 : Int) = Value.int IntKind.i64 (faceE c (List.take i (Conf.faces c)) (List.getD (Conf.faces c) i default))) ∧
                                  (decide (Face.mode (List.getD (Conf.faces c) i default) > (2 : Int)) = false →
                                    ((Face.mode (List.getD (Conf.faces c) i default) == (1 : Int)) = true →
                                        (decide (Face.doi (List.getD (Conf.faces c) i default) < (0 : Int)) = true →
                                            Value.int IntKind.i64 (1 : Int) = Value.int IntKind.i64 (faceE c (List.take i (Conf.faces c)) (List.getD (Conf.faces c) i default))) ∧
                                          (decide (Face.doi (List.getD (Conf.faces c) i default) < (0 : Int)) = false →
                                            (decide (Face.doi (List.getD (Conf.faces c) i default) ≥ (↑(List.length (Conf.dois c)) : Int)) = true →
                                                Value.int IntKind.i64 (1 : Int) = Value.int IntKind.i64 (faceE c (List.take i (Conf.faces c)) (List.getD (Conf.faces c) i default))) ∧
                                              (decide (Face.doi (List.getD (Conf.faces c) i default) ≥ (↑(List.length (Conf.dois c)) : Int)) = false →
                                                (decide (Lbl.level (Face.lo (List.getD (Conf.faces c) i default)) < (0 : Int)) = true →
                                                    Value.int IntKind.i64 (8 : Int) = Value.int IntKind.i64 (faceE c (List.take i (Conf.faces c)) (List.getD (Conf.faces c) i default))) ∧
                                                  (decide (Lbl.level (Face.lo (List.getD (Conf.faces c) i default)) < (0 : Int)) = false →
                                                    (decide (Lbl.level (Face.lo (List.getD (Conf.faces c) i default)) > (255 : Int)) = true →
                                                        Value.int IntKind.i64 (8 : Int) = Value.int IntKind.i64 (faceE c (List.take i (Conf.faces c)) (List.getD (Conf.faces c) i default))) ∧
                                                      (decide (Lbl.level (Face.lo (List.getD (Conf.faces c) i default)) > (255 : Int)) = false →
                                                        (decide (Lbl.level (Face.hi (List.getD (Conf.faces c) i default)) < (0 : Int)) = true →
                                                            Value.int IntKind.i64 (8 : Int) = Value.int IntKind.i64 (faceE c (List.take i (Conf.faces c)) (List.getD (Conf.faces c) i default))) ∧
                                                          (decide (Lbl.level (Face.hi (List.getD (Conf.faces c) i default)) < (0 : Int)) = false →
                                                            (decide (Lbl.level (Face.hi (List.getD (Conf.faces c) i default)) > (255 : Int)) = true →
                                                                Value.int IntKind.i64 (8 : Int) = Value.int IntKind.i64 (faceE c (List.take i (Conf.faces c)) (List.getD (Conf.faces c) i default))) ∧
                                                              (decide (Lbl.level (Face.hi (List.getD (Conf.faces c) i default)) > (255 : Int)) = false →
                                                                (decide (Lbl.level (Face.dflt (List.getD (Conf.faces c) i default)) < (0 : Int)) = true →
                                                                    Value.int IntKind.i64 (8 : Int) =
                                                                      Value.int IntKind.i64 (faceE c (List.take i (Conf.faces c)) (List.getD (Conf.faces c) i default))) ∧
                                                                  (decide (Lbl.level (Face.dflt (List.getD (Conf.faces c) i default)) < (0 : Int)) = false →
                                                                    (decide (Lbl.level (Face.dflt (List.getD (Conf.faces c) i default)) > (255 : Int)) = true →
                                                                        Value.int IntKind.i64 (8 : Int) =
                                                                          Value.int IntKind.i64 (faceE c (List.take i (Conf.faces c)) (List.getD (Conf.faces c) i default))) ∧
                                                                      (decide (Lbl.level (Face.dflt (List.getD (Conf.faces c) i default)) > (255 : Int)) = false →
                                                                        CallK Try.prog (nat_lit 76)
                                                                            [Value.agg (Array.mk (lblL (Face.hi (List.getD (Conf.faces c) i default)))),
                                                                              Value.agg (Array.mk (lblL (Face.lo (List.getD (Conf.faces c) i default))))]
                                                                            (Value.bool (domL (Face.hi (List.getD (Conf.faces c) i default)) (Face.lo (List.getD (Conf.faces c) i default)))) ∧
                                                                          (domL (Face.hi (List.getD (Conf.faces c) i default)) (Face.lo (List.getD (Conf.faces c) i default)) = true →
                                                                              CallK Try.prog (nat_lit 76)
                                                                                  [Value.agg (Array.mk (lblL (Face.hi (List.getD (Conf.faces c) i default)))),
                                                                                    Value.agg (Array.mk (lblL (Face.dflt (List.getD (Conf.faces c) i default))))]
                                                                                  (Value.bool (domL (Face.hi (List.getD (Conf.faces c) i default)) (Face.dflt (List.getD (Conf.faces c) i default)))) ∧
                                                                                (domL (Face.hi (List.getD (Conf.faces c) i default)) (Face.dflt (List.getD (Conf.faces c) i default)) = true →
                                                                                    CallK Try.prog (nat_lit 76)
                                                                                        [Value.agg (Array.mk (lblL (Face.dflt (List.getD (Conf.faces c) i default)))),
                                                                                          Value.agg (Array.mk (lblL (Face.lo (List.getD (Conf.faces c) i default))))]
                                                                                        (Value.bool
                                                                                          (domL (Face.dflt (List.getD (Conf.faces c) i default)) (Face.lo (List.getD (Conf.faces c) i default)))) ∧
                                                                                      (domL (Face.dflt (List.getD (Conf.faces c) i default)) (Face.lo (List.getD (Conf.faces c) i default)) = true →
                                                                                          CallK Try.prog (nat_lit 110)
                                                                                              [Value.iface (nat_lit 1000000)
                                                                                                  (Value.tuple
                                                                                                    (Array.mk
                                                                                                      [Value.int IntKind.i64 (↑(List.length (Conf.labels c)) : Int),
                                                                                                        Value.agg (Array.mk (lblsL (Conf.labels c)))])),
                                                                                                Value.agg (Array.mk (lblL (Face.dflt (List.getD (Conf.faces c) i default))))]
                                                                                              (Value.int IntKind.i64 (findL (Conf.labels c) (Face.dflt (List.getD (Conf.faces c) i default)))) ∧
                                                                                            (decide (findL (Conf.labels c) (Face.dflt (List.getD (Conf.faces c) i default)) < (0 : Int)) = true →
                                                                                                Value.int IntKind.i64 (8 : Int) =
                                                                                                  Value.int IntKind.i64 (faceE c (List.take i (Conf.faces c)) (List.getD (Conf.faces c) i default))) ∧
                                                                                              (decide (findL (Conf.labels c) (Face.dflt (List.getD (Conf.faces c) i default)) < (0 : Int)) = false →
                                                                                                ((Face.mode (List.getD (Conf.faces c) i default) == (0 : Int)) = true →
                                                                                                    Ask.holds Try.prog
                                                                                                        (Ask.eqv (nat_lit 44)
                                                                                                          (Value.agg (Array.mk (lblL (Face.lo (List.getD (Conf.faces c) i default)))))
                                                                                                          (Value.agg (Array.mk (lblL (Face.hi (List.getD (Conf.faces c) i default)))))
                                                                                                          (lblEq (Face.lo (List.getD (Conf.faces c) i default))
                                                                                                            (Face.hi (List.getD (Conf.faces c) i default)))) ∧
                                                                                                      ((!lblEq (Face.lo (List.getD (Conf.faces c) i default))
                                                                                                                (Face.hi (List.getD (Conf.faces c) i default))) =
                                                                                                            true →
                                                                                                          Value.int IntKind.i64 (8 : Int) =
                                                                                                            Value.int IntKind.i64
                                                                                                              (faceE c (List.take i (Conf.faces c)) (List.getD (Conf.faces c) i default))) ∧
                                                                                                        ((!lblEq (Face.lo (List.getD (Conf.faces c) i default))
                                                                                                                (Face.hi (List.getD (Conf.faces c) i default))) =
                                                                                                            false →
                                                                                                          Ask.holds Try.prog
                                                                                                              (Ask.eqv (nat_lit 44)
                                                                                                                (Value.agg (Array.mk (lblL (Face.lo (List.getD (Conf.faces c) i default)))))
                                                                                                                (Value.agg (Array.mk (lblL (Face.dflt (List.getD (Conf.faces c) i default)))))
                                                                                                                (lblEq (Face.lo (List.getD (Conf.faces c) i default))
                                                                                                                  (Face.dflt (List.getD (Conf.faces c) i default)))) ∧
                                                                                                            ((!lblEq (Face.lo (List.getD (Conf.faces c) i default))
                                                                                                                      (Face.dflt (List.getD (Conf.faces c) i default))) =
                                                                                                                  true →
                                                                                                                Value.int IntKind.i64 (8 : Int) =
                                                                                                                  Value.int IntKind.i64
                                                                                                                    (faceE c (List.take i (Conf.faces c)) (List.getD (Conf.faces c) i default))) ∧
                                                                                                              ((!lblEq (Face.lo (List.getD (Conf.faces c) i default))
                                                                                                                      (Face.dflt (List.getD (Conf.faces c) i default))) =
                                                                                                                  false →
                                                                                                                Value.int IntKind.i64 (0 : Int) =
                                                                                                                  Value.int IntKind.i64
                                                                                                                    (faceE c (List.take i (Conf.faces c)) (List.getD (Conf.faces c) i default))))) ∧
                                                                                                  ((Face.mode (List.getD (Conf.faces c) i default) == (0 : Int)) = false →
                                                                                                    Value.int IntKind.i64 (0 : Int) =
                                                                                                      Value.int IntKind.i64
                                                                                                        (faceE c (List.take i (Conf.faces c)) (List.getD (Conf.faces c) i default))))) ∧
                                                                                        (domL (Face.dflt (List.getD (Conf.faces c) i default)) (Face.lo (List.getD (Conf.faces c) i default)) = false →
                                                                                          Value.int IntKind.i64 (8 : Int) =
                                                                                            Value.int IntKind.i64 (faceE c (List.take i (Conf.faces c)) (List.getD (Conf.faces c) i default)))) ∧
                                                                                  (domL (Face.hi (List.getD (Conf.faces c) i default)) (Face.dflt (List.getD (Conf.faces c) i default)) = false →
                                                                                    Value.int IntKind.i64 (8 : Int) =
                                                                                      Value.int IntKind.i64 (faceE c (List.take i (Conf.faces c)) (List.getD (Conf.faces c) i default)))) ∧
                                                                            (domL (Face.hi (List.getD (Conf.faces c) i default)) (Face.lo (List.getD (Conf.faces c) i default)) = false →
                                                                              Value.int IntKind.i64 (8 : Int) =
                                                                                Value.int IntKind.i64 (faceE c (List.take i (Conf.faces c)) (List.getD (Conf.faces c) i default)))))))))))) ∧
                                      ((Face.mode (List.getD (Conf.faces c) i default) == (1 : Int)) = false →
                                        (decide (Lbl.level (Face.lo (List.getD (Conf.faces c) i default)) < (0 : Int)) = true →
                                            Value.int IntKind.i64 (8 : Int) = Value.int IntKind.i64 (faceE c (List.take i (Conf.faces c)) (List.getD (Conf.faces c) i default))) ∧
                                          (decide (Lbl.level (Face.lo (List.getD (Conf.faces c) i default)) < (0 : Int)) = false →
                                            (decide (Lbl.level (Face.lo (List.getD (Conf.faces c) i default)) > (255 : Int)) = true →
                                                Value.int IntKind.i64 (8 : Int) = Value.int IntKind.i64 (faceE c (List.take i (Conf.faces c)) (List.getD (Conf.faces c) i default))) ∧
                                              (decide (Lbl.level (Face.lo (List.getD (Conf.faces c) i default)) > (255 : Int)) = false →
                                                (decide (Lbl.level (Face.hi (List.getD (Conf.faces c) i default)) < (0 : Int)) = true →
                                                    Value.int IntKind.i64 (8 : Int) = Value.int IntKind.i64 (faceE c (List.take i (Conf.faces c)) (List.getD (Conf.faces c) i default))) ∧
                                                  (decide (Lbl.level (Face.hi (List.getD (Conf.faces c) i default)) < (0 : Int)) = false →
                                                    (decide (Lbl.level (Face.hi (List.getD (Conf.faces c) i default)) > (255 : Int)) = true →
                                                        Value.int IntKind.i64 (8 : Int) = Value.int IntKind.i64 (faceE c (List.take i (Conf.faces c)) (List.getD (Conf.faces c) i default))) ∧
                                                      (decide (Lbl.level (Face.hi (List.getD (Conf.faces c) i default)) > (255 : Int)) = false →
                                                        (decide (Lbl.level (Face.dflt (List.getD (Conf.faces c) i default)) < (0 : Int)) = true →
                                                            Value.int IntKind.i64 (8 : Int) = Value.int IntKind.i64 (faceE c (List.take i (Conf.faces c)) (List.getD (Conf.faces c) i default))) ∧
                                                          (decide (Lbl.level (Face.dflt (List.getD (Conf.faces c) i default)) < (0 : Int)) = false →
                                                            (decide (Lbl.level (Face.dflt (List.getD (Conf.faces c) i default)) > (255 : Int)) = true →
                                                                Value.int IntKind.i64 (8 : Int) = Value.int IntKind.i64 (faceE c (List.take i (Conf.faces c)) (List.getD (Conf.faces c) i default))) ∧
                                                              (decide (Lbl.level (Face.dflt (List.getD (Conf.faces c) i default)) > (255 : Int)) = false →
                                                                CallK Try.prog (nat_lit 76)
                                                                    [Value.agg (Array.mk (lblL (Face.hi (List.getD (Conf.faces c) i default)))),
                                                                      Value.agg (Array.mk (lblL (Face.lo (List.getD (Conf.faces c) i default))))]
                                                                    (Value.bool (domL (Face.hi (List.getD (Conf.faces c) i default)) (Face.lo (List.getD (Conf.faces c) i default)))) ∧
                                                                  (domL (Face.hi (List.getD (Conf.faces c) i default)) (Face.lo (List.getD (Conf.faces c) i default)) = true →
                                                                      CallK Try.prog (nat_lit 76)
                                                                          [Value.agg (Array.mk (lblL (Face.hi (List.getD (Conf.faces c) i default)))),
                                                                            Value.agg (Array.mk (lblL (Face.dflt (List.getD (Conf.faces c) i default))))]
                                                                          (Value.bool (domL (Face.hi (List.getD (Conf.faces c) i default)) (Face.dflt (List.getD (Conf.faces c) i default)))) ∧
                                                                        (domL (Face.hi (List.getD (Conf.faces c) i default)) (Face.dflt (List.getD (Conf.faces c) i default)) = true →
                                                                            CallK Try.prog (nat_lit 76)
                                                                                [Value.agg (Array.mk (lblL (Face.dflt (List.getD (Conf.faces c) i default)))),
                                                                                  Value.agg (Array.mk (lblL (Face.lo (List.getD (Conf.faces c) i default))))]
                                                                                (Value.bool (domL (Face.dflt (List.getD (Conf.faces c) i default)) (Face.lo (List.getD (Conf.faces c) i default)))) ∧
                                                                              (domL (Face.dflt (List.getD (Conf.faces c) i default)) (Face.lo (List.getD (Conf.faces c) i default)) = true →
                                                                                  CallK Try.prog (nat_lit 110)
                                                                                      [Value.iface (nat_lit 1000000)
                                                                                          (Value.tuple
                                                                                            (Array.mk
                                                                                              [Value.int IntKind.i64 (↑(List.length (Conf.labels c)) : Int),
                                                                                                Value.agg (Array.mk (lblsL (Conf.labels c)))])),
                                                                                        Value.agg (Array.mk (lblL (Face.dflt (List.getD (Conf.faces c) i default))))]
                                                                                      (Value.int IntKind.i64 (findL (Conf.labels c) (Face.dflt (List.getD (Conf.faces c) i default)))) ∧
                                                                                    (decide (findL (Conf.labels c) (Face.dflt (List.getD (Conf.faces c) i default)) < (0 : Int)) = true →
                                                                                        Value.int IntKind.i64 (8 : Int) =
                                                                                          Value.int IntKind.i64 (faceE c (List.take i (Conf.faces c)) (List.getD (Conf.faces c) i default))) ∧
                                                                                      (decide (findL (Conf.labels c) (Face.dflt (List.getD (Conf.faces c) i default)) < (0 : Int)) = false →
                                                                                        ((Face.mode (List.getD (Conf.faces c) i default) == (0 : Int)) = true →
                                                                                            Ask.holds Try.prog
                                                                                                (Ask.eqv (nat_lit 44) (Value.agg (Array.mk (lblL (Face.lo (List.getD (Conf.faces c) i default)))))
                                                                                                  (Value.agg (Array.mk (lblL (Face.hi (List.getD (Conf.faces c) i default)))))
                                                                                                  (lblEq (Face.lo (List.getD (Conf.faces c) i default))
                                                                                                    (Face.hi (List.getD (Conf.faces c) i default)))) ∧
                                                                                              ((!lblEq (Face.lo (List.getD (Conf.faces c) i default)) (Face.hi (List.getD (Conf.faces c) i default))) =
                                                                                                    true →
                                                                                                  Value.int IntKind.i64 (8 : Int) =
                                                                                                    Value.int IntKind.i64 (faceE c (List.take i (Conf.faces c)) (List.getD (Conf.faces c) i default))) ∧
                                                                                                ((!lblEq (Face.lo (List.getD (Conf.faces c) i default))
                                                                                                        (Face.hi (List.getD (Conf.faces c) i default))) =
                                                                                                    false →
                                                                                                  Ask.holds Try.prog
                                                                                                      (Ask.eqv (nat_lit 44) (Value.agg (Array.mk (lblL (Face.lo (List.getD (Conf.faces c) i default)))))
                                                                                                        (Value.agg (Array.mk (lblL (Face.dflt (List.getD (Conf.faces c) i default)))))
                                                                                                        (lblEq (Face.lo (List.getD (Conf.faces c) i default))
                                                                                                          (Face.dflt (List.getD (Conf.faces c) i default)))) ∧
                                                                                                    ((!lblEq (Face.lo (List.getD (Conf.faces c) i default))
                                                                                                              (Face.dflt (List.getD (Conf.faces c) i default))) =
                                                                                                          true →
                                                                                                        Value.int IntKind.i64 (8 : Int) =
                                                                                                          Value.int IntKind.i64
                                                                                                            (faceE c (List.take i (Conf.faces c)) (List.getD (Conf.faces c) i default))) ∧
                                                                                                      ((!lblEq (Face.lo (List.getD (Conf.faces c) i default))
                                                                                                              (Face.dflt (List.getD (Conf.faces c) i default))) =
                                                                                                          false →
                                                                                                        Value.int IntKind.i64 (0 : Int) =
                                                                                                          Value.int IntKind.i64
                                                                                                            (faceE c (List.take i (Conf.faces c)) (List.getD (Conf.faces c) i default))))) ∧
                                                                                          ((Face.mode (List.getD (Conf.faces c) i default) == (0 : Int)) = false →
                                                                                            Value.int IntKind.i64 (0 : Int) =
                                                                                              Value.int IntKind.i64 (faceE c (List.take i (Conf.faces c)) (List.getD (Conf.faces c) i default))))) ∧
                                                                                (domL (Face.dflt (List.getD (Conf.faces c) i default)) (Face.lo (List.getD (Conf.faces c) i default)) = false →
                                                                                  Value.int IntKind.i64 (8 : Int) =
                                                                                    Value.int IntKind.i64 (faceE c (List.take i (Conf.faces c)) (List.getD (Conf.faces c) i default)))) ∧
                                                                          (domL (Face.hi (List.getD (Conf.faces c) i default)) (Face.dflt (List.getD (Conf.faces c) i default)) = false →
                                                                            Value.int IntKind.i64 (8 : Int) =
                                                                              Value.int IntKind.i64 (faceE c (List.take i (Conf.faces c)) (List.getD (Conf.faces c) i default)))) ∧
                                                                    (domL (Face.hi (List.getD (Conf.faces c) i default)) (Face.lo (List.getD (Conf.faces c) i default)) = false →
                                                                      Value.int IntKind.i64 (8 : Int) =
                                                                        Value.int IntKind.i64 (faceE c (List.take i (Conf.faces c)) (List.getD (Conf.faces c) i default))))))))))))))))) (by kernel_rfl) (by
    have hlen := h.len.faces
    have hf := h.faces _ (getD_mem (d := default) hi)
    refine ⟨⟨by omega, by omega⟩, faces_part hi 0 97 (by omega) rfl rfl, refKind_w _, fun h1 => ?_, fun h1 => ⟨⟨⟨by omega, fun j hj => by omega⟩, rfl, rfl⟩, fun a k j ⟨q1, q2⟩ => ⟨fun h2 => ?_, fun h2 => ?_⟩⟩⟩
    · unfold faceE; rw [if_pos (by simpa using h1)]
    · have hk : k < i := by have := of_decide_eq_true h2; omega
      refine ⟨⟨by omega, by omega⟩, faces_part (k := k) (by omega) 0 1 (by omega) rfl rfl, fun h3 => ?_, fun h3 => ⟨a - 1, k + 1, by omega, ⟨by omega, lt_next q2 h3⟩, wrap_next k (by omega), ⟨rfl, rfl, trivial⟩, rfl, ⟨rfl, rfl, trivial⟩⟩⟩
      unfold faceE; rw [if_neg (by simpa using h1), if_pos ((any_take default (by omega)).2 ⟨k, hk, h3⟩)]
    · have hk : k = i := by have := of_decide_eq_false h2; omega
      subst hk
      have e0 : ((c.faces.take k).any fun q => q.addr == (c.faces.getD k default).addr) = false := any_take_false default (by omega) q2
      have e1 : (kindI (c.faces.getD k default).addr == 4) = true := by simpa using h1
      have e2 := findL_key c.labels (c.faces.getD k default).dflt
      have hl := h.len.labels
      generalize c.faces.getD k default = x at *
      simp only [Value.int.injEq, Value.bool.injEq]
      repeat' (first | exact refDom_w _ _ hf.2.1 hf.1 | exact refDom_w _ _ hf.2.1 hf.2.2 | exact refDom_w _ _ hf.2.2 hf.1 | exact refFind_w _ _ (by omega) | exact lblEq_eqD _ _ | rfl | apply And.intro | intro)
      all_goals grind [faceE, rangedB, inL, rightL])
end Go.Proofs.Ytepijhnfeafmaaa
