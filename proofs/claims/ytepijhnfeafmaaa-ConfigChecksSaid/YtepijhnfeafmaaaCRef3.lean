/- What the document's answer says of configs: the whole. -/
import Derived.Test.YtepijhnfeafmaaaAPrg
import Derived.Test.YtepijhnfeafmaaaCRef2
set_option linter.unusedVariables false
set_option linter.unusedSimpArgs false
set_option maxRecDepth 100000
namespace Go.Proofs.Ytepijhnfeafmaaa
open Go Go.Ideal
theorem idx_at {α : Type} {xs : List α} {p : α → Bool} {d : α} {k : Nat} (hk : k < xs.length) (h : p (xs.getD k d) = true) (no : ∀ j, j < k → p (xs.getD j d) = false) : 0 ≤ idxB xs p ∧ idxB xs p = k := by
  have := idxB_some hk h no
  omega
theorem doms_at {c : Conf} {k : Nat} (hk : k < c.dois.length) (h : doiR (c.dois.getD k default) = false) (no : ∀ j, j < k → (!doiR (c.dois.getD j default)) = false) : domsR c = ((k : Int), 3) := by
  obtain ⟨a, b⟩ := idx_at (p := fun d => !doiR d) hk (by rw [h]; rfl) no
  unfold domsR; rw [if_pos a, b]
theorem doms_none {c : Conf} (no : ∀ j, j < c.dois.length → (!doiR (c.dois.getD j default)) = false) : domsR c = (0, 0) := by
  unfold domsR; rw [idxB_none (d := default) no, if_neg (by decide)]
theorem relabs_at {c : Conf} {k : Nat} (hk : k < c.relabels.length) (h : relabR c.labels.length (c.relabels.getD k default) = false) (no : ∀ j, j < k → (!relabR c.labels.length (c.relabels.getD j default)) = false) : rulesR c = ((k : Int), 3) := by
  obtain ⟨a, b⟩ := idx_at (p := fun d => !relabR c.labels.length d) hk (by rw [h]; rfl) no
  unfold rulesR; rw [if_pos a, b]
theorem relabs_none {c : Conf} (no : ∀ j, j < c.relabels.length → (!relabR c.labels.length (c.relabels.getD j default)) = false) : rulesR c = if 0 ≤ idxB c.rules (fun r => !ruleR r) then (idxB c.rules (fun r => !ruleR r), 3) else (0, 0) := by
  unfold rulesR; rw [idxB_none (d := default) no, if_neg (by decide)]
theorem rules_at {c : Conf} {k : Nat} (nr : ∀ j, j < c.relabels.length → (!relabR c.labels.length (c.relabels.getD j default)) = false) (hk : k < c.rules.length) (h : ruleR (c.rules.getD k default) = false) (no : ∀ j, j < k → (!ruleR (c.rules.getD j default)) = false) : rulesR c = ((k : Int), 3) := by
  obtain ⟨a, b⟩ := idx_at (p := fun d => !ruleR d) hk (by rw [h]; rfl) no
  rw [relabs_none nr, if_pos a, b]
theorem rules_none {c : Conf} (nr : ∀ j, j < c.relabels.length → (!relabR c.labels.length (c.relabels.getD j default)) = false) (no : ∀ j, j < c.rules.length → (!ruleR (c.rules.getD j default)) = false) : rulesR c = (0, 0) := by
  rw [relabs_none nr, idxB_none (d := default) no, if_neg (by decide)]
theorem faces_at {c : Conf} {k : Nat} (hk : k < c.faces.length) (h : faceE c (c.faces.take k) (c.faces.getD k default) ≠ 0) (no : ∀ j, j < k → faceE c (c.faces.take j) (c.faces.getD j default) = 0) : facesR c = ((k : Int), faceE c (c.faces.take k) (c.faces.getD k default)) := by
  unfold facesR; rw [firstBad0_at hk h no]
theorem faces_none {c : Conf} (no : ∀ j, j < c.faces.length → faceE c (c.faces.take j) (c.faces.getD j default) = 0) : facesR c = (0, 0) := by
  unfold facesR; rw [firstBad0_none no]
theorem routs_at {c : Conf} {k : Nat} {e : Int} (hk : k < c.routes.length) (h : routE c k = e) (he : e ≠ 0) (no : ∀ j, j < k → routE c j = 0) : routsR c = ((k : Int), e) := by
  unfold routsR; rw [firstBad0_at hk (by rw [h]; exact he) no, h]
theorem routs_none {c : Conf} (no : ∀ j, j < c.routes.length → routE c j = 0) : routsR c = (0, 0) := by
  unfold routsR; rw [firstBad0_none no]
theorem counts_bad {c : Conf} (h : c.faces.length < 1 ∨ 8 < c.faces.length) : checkR c = (0, 1) := by
  have e : countsR c = (0, 1) := by unfold countsR; rw [if_pos h]
  unfold checkR; rw [e]; rfl
theorem ref17_w (c : Conf) (h : ConfOK c) : CallK Try.prog 18 [confV c] (twoV (checkR c)) :=
  CallK.via progOK (pfs []) [] 100 (Adv.split (6 : Nat) Adv.nil
  (Adv.split (11 : Nat) Adv.nil
    (Adv.pur (15 : Nat) (Value.tuple (Array.mk [Value.int IntKind.i64 (Prod.fst (lblsChk (Conf.labels c))), Value.int IntKind.i64 (Prod.snd (lblsChk (Conf.labels c)))]))
      (Adv.split (22 : Nat) Adv.nil
        (Adv.split (26 : Nat) Adv.nil
          (Adv.loop (28 : Nat) (fun (k : Nat) => [((6 : Nat), Value.int IntKind.i64 (↑k : Int))])
            ((fun (h : Heap) (x : Nat) => h) (Heap.mk (nat_lit 1) (Trie.node (some (Blk.cells (confL c) (nat_lit 31) Mode.fix)) Trie.leaf Trie.leaf)))
            (fun (a k : Nat) => a + k = List.length (Conf.dois c) ∧ ∀ (j : Nat), j < k → (!doiR (List.getD (Conf.dois c) j default)) = false) (List.length (Conf.dois c)) (0 : Nat)
            fun (i28 s28 : Nat) (j28 : Nat → Value) =>
            Adv.split (33 : Nat)
              (Adv.chk (37 : Nat) none
                (Adv.chk (38 : Nat) (some (Value.agg (Array.mk (doiL (List.getD (Conf.dois c) s28 default))))) (Adv.purs (39 : Nat) (doiR (List.getD (Conf.dois c) s28 default)) Adv.nil Adv.nil)))
              (Adv.loop (35 : Nat) (fun (k : Nat) => [((7 : Nat), Value.int IntKind.i64 (↑k : Int))])
                ((fun (h : Heap) (x : Nat) => h) (Heap.mk (nat_lit 1) (Trie.node (some (Blk.cells (confL c) (nat_lit 31) Mode.fix)) Trie.leaf Trie.leaf)))
                (fun (a k : Nat) => a + k = List.length (Conf.faces c) ∧ ∀ (j : Nat), j < k → faceE c (List.take j (Conf.faces c)) (List.getD (Conf.faces c) j default) = (0 : Int))
                (List.length (Conf.faces c)) (0 : Nat) fun (i35 s35 : Nat) (j35 : Nat → Value) =>
                Adv.split (40 : Nat) (Adv.pur (43 : Nat) (Value.int IntKind.i64 (faceE c (List.take s35 (Conf.faces c)) (List.getD (Conf.faces c) s35 default))) (Adv.split (46 : Nat) Adv.nil Adv.nil))
                  (Adv.split (44 : Nat) Adv.nil
                    (Adv.split (49 : Nat) Adv.nil
                      (Adv.split (55 : Nat) Adv.nil
                        (Adv.loop (58 : Nat) (fun (k : Nat) => [((9 : Nat), Value.int IntKind.i64 (↑k : Int))])
                          ((fun (h : Heap) (x : Nat) => h) (Heap.mk (nat_lit 1) (Trie.node (some (Blk.cells (confL c) (nat_lit 31) Mode.fix)) Trie.leaf Trie.leaf)))
                          (fun (a k : Nat) =>
                            a + k = List.length (Conf.relabels c) ∧ ∀ (j : Nat), j < k → (!relabR (↑(List.length (Conf.labels c)) : Int) (List.getD (Conf.relabels c) j default)) = false)
                          (List.length (Conf.relabels c)) (0 : Nat) fun (i58 s58 : Nat) (j58 : Nat → Value) =>
                          Adv.split (63 : Nat)
                            (Adv.chk (70 : Nat) none
                              (Adv.chk (71 : Nat) (some (Value.agg (Array.mk (relabL (List.getD (Conf.relabels c) s58 default)))))
                                (Adv.purs (72 : Nat) (relabR (↑(List.length (Conf.labels c)) : Int) (List.getD (Conf.relabels c) s58 default)) Adv.nil Adv.nil)))
                            (Adv.loop (65 : Nat) (fun (k : Nat) => [((10 : Nat), Value.int IntKind.i64 (↑k : Int))])
                              ((fun (h : Heap) (x : Nat) => h) (Heap.mk (nat_lit 1) (Trie.node (some (Blk.cells (confL c) (nat_lit 31) Mode.fix)) Trie.leaf Trie.leaf)))
                              (fun (a k : Nat) => a + k = List.length (Conf.rules c) ∧ ∀ (j : Nat), j < k → (!ruleR (List.getD (Conf.rules c) j default)) = false) (List.length (Conf.rules c))
                              (0 : Nat) fun (i65 s65 : Nat) (j65 : Nat → Value) =>
                              Adv.split (70 : Nat)
                                (Adv.chk (74 : Nat) none
                                  (Adv.chk (75 : Nat) (some (Value.agg (Array.mk (ruleL (List.getD (Conf.rules c) s65 default)))))
                                    (Adv.purs (76 : Nat) (ruleR (List.getD (Conf.rules c) s65 default)) Adv.nil Adv.nil)))
                                (Adv.loop (72 : Nat) (fun (k : Nat) => [((11 : Nat), Value.int IntKind.i64 (↑k : Int))])
                                  ((fun (h : Heap) (x : Nat) => h) (Heap.mk (nat_lit 1) (Trie.node (some (Blk.cells (confL c) (nat_lit 31) Mode.fix)) Trie.leaf Trie.leaf)))
                                  (fun (a k : Nat) => a + k = List.length (Conf.routes c) ∧ ∀ (j : Nat), j < k → routE c j = (0 : Int)) (List.length (Conf.routes c)) (0 : Nat)
                                  fun (i72 s72 : Nat) (j72 : Nat → Value) =>
                                  Adv.split (77 : Nat)
                                    (Adv.chk (81 : Nat) none
                                      (Adv.chk (82 : Nat) (some (Value.agg (Array.mk (routL (List.getD (Conf.routes c) s72 default)))))
                                        (Adv.purs (87 : Nat) (pfxR (Rout.to (List.getD (Conf.routes c) s72 default)))
                                          (Adv.split (91 : Nat) Adv.nil
                                            (Adv.split (98 : Nat) Adv.nil
                                              (Adv.loop (101 : Nat) (fun (k : Nat) => [((13 : Nat), Value.int IntKind.i64 (↑k : Int))])
                                                ((fun (h : Heap) (x : Nat) => h)
                                                  (Heap.mk (nat_lit 2)
                                                    (Trie.node (some (Blk.cells (confL c) (nat_lit 31) Mode.fix))
                                                      (Trie.node (some (Blk.cells (routL (List.getD (Conf.routes c) s72 default)) (nat_lit 113) Mode.fix)) Trie.leaf Trie.leaf) Trie.leaf)))
                                                (fun (a k : Nat) =>
                                                  a + k = s72 ∧ ∀ (j : Nat), j < k → pfxEq (Rout.to (List.getD (Conf.routes c) j default)) (Rout.to (List.getD (Conf.routes c) s72 default)) = false)
                                                s72 (0 : Nat) fun (i101 s101 : Nat) (j101 : Nat → Value) =>
                                                Adv.split (104 : Nat)
                                                  (Adv.chk (108 : Nat) none
                                                    (Adv.chk (110 : Nat) (some (Value.agg (Array.mk (pfxL (Rout.to (List.getD (Conf.routes c) s101 default))))))
                                                      (Adv.chks (113 : Nat)
                                                        (some (Value.bool (pfxEq (Rout.to (List.getD (Conf.routes c) s101 default)) (Rout.to (List.getD (Conf.routes c) s72 default))))) Adv.nil
                                                        Adv.nil)))
                                                  Adv.nil)))
                                          Adv.nil)))
                                    (Adv.purs (84 : Nat) (quotaB (Quot.queue (Conf.quotas c)))
                                      (Adv.purs (89 : Nat) (quotaB (Quot.flows (Conf.quotas c)))
                                        (Adv.purs (95 : Nat) (quotaB (Quot.datagrams (Conf.quotas c)))
                                          (Adv.purs (101 : Nat) (quotaB (Quot.audit (Conf.quotas c)))
                                            (Adv.purs (107 : Nat) (quotaB (Quot.tokens (Conf.quotas c)))
                                              (Adv.purs (113 : Nat) (quotaB (Quot.whole (Conf.quotas c)))
                                                (Adv.purs (119 : Nat) (quotaB (Quot.idle (Conf.quotas c)))
                                                  (Adv.purs (125 : Nat) (quotaB (Quot.open_ (Conf.quotas c))) (Adv.split (131 : Nat) Adv.nil (Adv.split (136 : Nat) Adv.nil Adv.nil)) Adv.nil) Adv.nil)
                                                Adv.nil)
                                              Adv.nil)
                                            Adv.nil)
                                          Adv.nil)
                                        Adv.nil)
                                      Adv.nil)))))))))))))) (by kernel_rfl) (by kernel_rfl) (p := (decide ((↑(List.length (Conf.faces c)) : Int) < (1 : Int)) = true → Value.tuple (Array.mk [Value.int IntKind.i64 (0 : Int), Value.int IntKind.i64 (1 : Int)]) = twoV (checkR c)) ∧
  (decide ((↑(List.length (Conf.faces c)) : Int) < (1 : Int)) = false →
    (decide ((↑(List.length (Conf.faces c)) : Int) > (8 : Int)) = true → Value.tuple (Array.mk [Value.int IntKind.i64 (0 : Int), Value.int IntKind.i64 (1 : Int)]) = twoV (checkR c)) ∧
      (decide ((↑(List.length (Conf.faces c)) : Int) > (8 : Int)) = false →
        CallK Try.prog (nat_lit 59)
            [Value.iface (nat_lit 1000000) (Value.tuple (Array.mk [Value.int IntKind.i64 (↑(List.length (Conf.labels c)) : Int), Value.agg (Array.mk (lblsL (Conf.labels c)))]))]
            (Value.tuple (Array.mk [Value.int IntKind.i64 (Prod.fst (lblsChk (Conf.labels c))), Value.int IntKind.i64 (Prod.snd (lblsChk (Conf.labels c)))])) ∧
          ((Prod.snd (lblsChk (Conf.labels c)) != (0 : Int)) = true →
              Value.tuple (Array.mk [Value.int IntKind.i64 (Prod.fst (lblsChk (Conf.labels c))), Value.int IntKind.i64 (Prod.snd (lblsChk (Conf.labels c)))]) = twoV (checkR c)) ∧
            ((Prod.snd (lblsChk (Conf.labels c)) != (0 : Int)) = false →
              (((↑(List.length (Conf.labels c)) : Int) == (0 : Int)) = true → Value.tuple (Array.mk [Value.int IntKind.i64 (0 : Int), Value.int IntKind.i64 (6 : Int)]) = twoV (checkR c)) ∧
                (((↑(List.length (Conf.labels c)) : Int) == (0 : Int)) = false →
                  ((List.length (Conf.dois c) + (0 : Nat) = List.length (Conf.dois c) ∧ ∀ (j : Nat), j < (0 : Nat) → (!doiR (List.getD (Conf.dois c) j default)) = false) ∧
                      Value.int IntKind.i64 (0 : Int) = Value.int IntKind.i64 (0 : Int) ∧
                        Heap.mk (nat_lit 1) (Trie.node (some (Blk.cells (confL c) (nat_lit 31) Mode.fix)) Trie.leaf Trie.leaf) =
                          Heap.mk (nat_lit 1) (Trie.node (some (Blk.cells (confL c) (nat_lit 31) Mode.fix)) Trie.leaf Trie.leaf)) ∧
                    ∀ (i28 s28 : Nat) (j28 : Nat → Value),
                      (i28 + s28 = List.length (Conf.dois c) ∧ ∀ (j : Nat), j < s28 → (!doiR (List.getD (Conf.dois c) j default)) = false) →
                        (decide ((↑s28 : Int) < (↑(List.length (Conf.dois c)) : Int)) = true →
                            ((0 : Int) ≤ (↑s28 : Int) ∧ (↑s28 : Int) < (↑(List.length (Conf.dois c)) : Int)) ∧
                              Ask.holds Try.prog
                                  (Ask.part (Array.toList (Array.mk (doisL (Conf.dois c)))) (Int.toNat (↑(Int.toNat (↑s28 : Int) * nat_lit 3) : Int)) (nat_lit 3)
                                    (doiL (List.getD (Conf.dois c) s28 default))) ∧
                                CallK Try.prog (nat_lit 60) [Value.agg (Array.mk (doiL (List.getD (Conf.dois c) s28 default)))] (Value.bool (doiR (List.getD (Conf.dois c) s28 default))) ∧
                                  (doiR (List.getD (Conf.dois c) s28 default) = true →
                                      ∃ (i28' : Nat),
                                        ∃ (s28' : Nat),
                                          i28' < i28 ∧
                                            (i28' + s28' = List.length (Conf.dois c) ∧ ∀ (j : Nat), j < s28' → (!doiR (List.getD (Conf.dois c) j default)) = false) ∧
                                              Value.int IntKind.i64 (IntKind.wrap IntKind.i64 ((↑s28 : Int) + (1 : Int))) = Value.int IntKind.i64 (↑s28' : Int) ∧
                                                (some (Blk.cells (confL c) (nat_lit 31) Mode.fix) = some (Blk.cells (confL c) (nat_lit 31) Mode.fix) ∧ True) ∧ true = true ∧ true = true ∧ True) ∧
                                    (doiR (List.getD (Conf.dois c) s28 default) = false →
                                      Value.tuple (Array.mk [Value.int IntKind.i64 (↑s28 : Int), Value.int IntKind.i64 (3 : Int)]) = twoV (checkR c))) ∧
                          (decide ((↑s28 : Int) < (↑(List.length (Conf.dois c)) : Int)) = false →
                            ((List.length (Conf.faces c) + (0 : Nat) = List.length (Conf.faces c) ∧
                                  ∀ (j : Nat), j < (0 : Nat) → faceE c (List.take j (Conf.faces c)) (List.getD (Conf.faces c) j default) = (0 : Int)) ∧
                                Value.int IntKind.i64 (0 : Int) = Value.int IntKind.i64 (0 : Int) ∧
                                  Heap.mk (nat_lit 1) (Trie.node (some (Blk.cells (confL c) (nat_lit 31) Mode.fix)) Trie.leaf Trie.leaf) =
                                    Heap.mk (nat_lit 1) (Trie.node (some (Blk.cells (confL c) (nat_lit 31) Mode.fix)) Trie.leaf Trie.leaf)) ∧
                              ∀ (i35 s35 : Nat) (j35 : Nat → Value),
                                (i35 + s35 = List.length (Conf.faces c) ∧ ∀ (j : Nat), j < s35 → faceE c (List.take j (Conf.faces c)) (List.getD (Conf.faces c) j default) = (0 : Int)) →
                                  (decide ((↑s35 : Int) < (↑(List.length (Conf.faces c)) : Int)) = true →
                                      CallK Try.prog (nat_lit 61) [Value.agg (Array.mk (confL c)), Value.int IntKind.i64 (↑s35 : Int)]
                                          (Value.int IntKind.i64 (faceE c (List.take s35 (Conf.faces c)) (List.getD (Conf.faces c) s35 default))) ∧
                                        ((faceE c (List.take s35 (Conf.faces c)) (List.getD (Conf.faces c) s35 default) != (0 : Int)) = true →
                                            Value.tuple
                                                (Array.mk [Value.int IntKind.i64 (↑s35 : Int), Value.int IntKind.i64 (faceE c (List.take s35 (Conf.faces c)) (List.getD (Conf.faces c) s35 default))]) =
                                              twoV (checkR c)) ∧
                                          ((faceE c (List.take s35 (Conf.faces c)) (List.getD (Conf.faces c) s35 default) != (0 : Int)) = false →
                                            ∃ (i35' : Nat),
                                              ∃ (s35' : Nat),
                                                i35' < i35 ∧
                                                  (i35' + s35' = List.length (Conf.faces c) ∧
                                                      ∀ (j : Nat), j < s35' → faceE c (List.take j (Conf.faces c)) (List.getD (Conf.faces c) j default) = (0 : Int)) ∧
                                                    Value.int IntKind.i64 (IntKind.wrap IntKind.i64 ((↑s35 : Int) + (1 : Int))) = Value.int IntKind.i64 (↑s35' : Int) ∧
                                                      (some (Blk.cells (confL c) (nat_lit 31) Mode.fix) = some (Blk.cells (confL c) (nat_lit 31) Mode.fix) ∧ True) ∧
                                                        true = true ∧ true = true ∧ True)) ∧
                                    (decide ((↑s35 : Int) < (↑(List.length (Conf.faces c)) : Int)) = false →
                                      (decide ((↑(List.length (Conf.rules c)) : Int) > (64 : Int)) = true →
                                          Value.tuple (Array.mk [Value.int IntKind.i64 (0 : Int), Value.int IntKind.i64 (5 : Int)]) = twoV (checkR c)) ∧
                                        (decide ((↑(List.length (Conf.rules c)) : Int) > (64 : Int)) = false →
                                          (decide ((↑(List.length (Conf.relabels c)) : Int) > (64 : Int)) = true →
                                              Value.tuple (Array.mk [Value.int IntKind.i64 (0 : Int), Value.int IntKind.i64 (5 : Int)]) = twoV (checkR c)) ∧
                                            (decide ((↑(List.length (Conf.relabels c)) : Int) > (64 : Int)) = false →
                                              (decide ((↑(List.length (Conf.routes c)) : Int) > (256 : Int)) = true →
                                                  Value.tuple (Array.mk [Value.int IntKind.i64 (0 : Int), Value.int IntKind.i64 (5 : Int)]) = twoV (checkR c)) ∧
                                                (decide ((↑(List.length (Conf.routes c)) : Int) > (256 : Int)) = false →
                                                  ((List.length (Conf.relabels c) + (0 : Nat) = List.length (Conf.relabels c) ∧
                                                        ∀ (j : Nat), j < (0 : Nat) → (!relabR (↑(List.length (Conf.labels c)) : Int) (List.getD (Conf.relabels c) j default)) = false) ∧
                                                      Value.int IntKind.i64 (0 : Int) = Value.int IntKind.i64 (0 : Int) ∧
                                                        Heap.mk (nat_lit 1) (Trie.node (some (Blk.cells (confL c) (nat_lit 31) Mode.fix)) Trie.leaf Trie.leaf) =
                                                          Heap.mk (nat_lit 1) (Trie.node (some (Blk.cells (confL c) (nat_lit 31) Mode.fix)) Trie.leaf Trie.leaf)) ∧
                                                    ∀ (i58 s58 : Nat) (j58 : Nat → Value),
                                                      (i58 + s58 = List.length (Conf.relabels c) ∧
                                                          ∀ (j : Nat), j < s58 → (!relabR (↑(List.length (Conf.labels c)) : Int) (List.getD (Conf.relabels c) j default)) = false) →
                                                        (decide ((↑s58 : Int) < (↑(List.length (Conf.relabels c)) : Int)) = true →
                                                            ((0 : Int) ≤ (↑s58 : Int) ∧ (↑s58 : Int) < (↑(List.length (Conf.relabels c)) : Int)) ∧
                                                              Ask.holds Try.prog
                                                                  (Ask.part (Array.toList (Array.mk (relabsL (Conf.relabels c)))) (Int.toNat (↑(Int.toNat (↑s58 : Int) * nat_lit 8) : Int)) (nat_lit 8)
                                                                    (relabL (List.getD (Conf.relabels c) s58 default))) ∧
                                                                CallK Try.prog (nat_lit 62)
                                                                    [Value.int IntKind.i64 (↑(List.length (Conf.labels c)) : Int),
                                                                      Value.agg (Array.mk (relabL (List.getD (Conf.relabels c) s58 default)))]
                                                                    (Value.bool (relabR (↑(List.length (Conf.labels c)) : Int) (List.getD (Conf.relabels c) s58 default))) ∧
                                                                  (relabR (↑(List.length (Conf.labels c)) : Int) (List.getD (Conf.relabels c) s58 default) = true →
                                                                      ∃ (i58' : Nat),
                                                                        ∃ (s58' : Nat),
                                                                          i58' < i58 ∧
                                                                            (i58' + s58' = List.length (Conf.relabels c) ∧
                                                                                ∀ (j : Nat),
                                                                                  j < s58' → (!relabR (↑(List.length (Conf.labels c)) : Int) (List.getD (Conf.relabels c) j default)) = false) ∧
                                                                              Value.int IntKind.i64 (IntKind.wrap IntKind.i64 ((↑s58 : Int) + (1 : Int))) = Value.int IntKind.i64 (↑s58' : Int) ∧
                                                                                (some (Blk.cells (confL c) (nat_lit 31) Mode.fix) = some (Blk.cells (confL c) (nat_lit 31) Mode.fix) ∧ True) ∧
                                                                                  true = true ∧ true = true ∧ True) ∧
                                                                    (relabR (↑(List.length (Conf.labels c)) : Int) (List.getD (Conf.relabels c) s58 default) = false →
                                                                      Value.tuple (Array.mk [Value.int IntKind.i64 (↑s58 : Int), Value.int IntKind.i64 (3 : Int)]) = twoV (checkR c))) ∧
                                                          (decide ((↑s58 : Int) < (↑(List.length (Conf.relabels c)) : Int)) = false →
                                                            ((List.length (Conf.rules c) + (0 : Nat) = List.length (Conf.rules c) ∧
                                                                  ∀ (j : Nat), j < (0 : Nat) → (!ruleR (List.getD (Conf.rules c) j default)) = false) ∧
                                                                Value.int IntKind.i64 (0 : Int) = Value.int IntKind.i64 (0 : Int) ∧
                                                                  Heap.mk (nat_lit 1) (Trie.node (some (Blk.cells (confL c) (nat_lit 31) Mode.fix)) Trie.leaf Trie.leaf) =
                                                                    Heap.mk (nat_lit 1) (Trie.node (some (Blk.cells (confL c) (nat_lit 31) Mode.fix)) Trie.leaf Trie.leaf)) ∧
                                                              ∀ (i65 s65 : Nat) (j65 : Nat → Value),
                                                                (i65 + s65 = List.length (Conf.rules c) ∧ ∀ (j : Nat), j < s65 → (!ruleR (List.getD (Conf.rules c) j default)) = false) →
                                                                  (decide ((↑s65 : Int) < (↑(List.length (Conf.rules c)) : Int)) = true →
                                                                      ((0 : Int) ≤ (↑s65 : Int) ∧ (↑s65 : Int) < (↑(List.length (Conf.rules c)) : Int)) ∧
                                                                        Ask.holds Try.prog
                                                                            (Ask.part (Array.toList (Array.mk (rulesL (Conf.rules c)))) (Int.toNat (↑(Int.toNat (↑s65 : Int) * nat_lit 12) : Int))
                                                                              (nat_lit 12) (ruleL (List.getD (Conf.rules c) s65 default))) ∧
                                                                          CallK Try.prog (nat_lit 63) [Value.agg (Array.mk (ruleL (List.getD (Conf.rules c) s65 default)))]
                                                                              (Value.bool (ruleR (List.getD (Conf.rules c) s65 default))) ∧
                                                                            (ruleR (List.getD (Conf.rules c) s65 default) = true →
                                                                                ∃ (i65' : Nat),
                                                                                  ∃ (s65' : Nat),
                                                                                    i65' < i65 ∧
                                                                                      (i65' + s65' = List.length (Conf.rules c) ∧
                                                                                          ∀ (j : Nat), j < s65' → (!ruleR (List.getD (Conf.rules c) j default)) = false) ∧
                                                                                        Value.int IntKind.i64 (IntKind.wrap IntKind.i64 ((↑s65 : Int) + (1 : Int))) =
                                                                                            Value.int IntKind.i64 (↑s65' : Int) ∧
                                                                                          (some (Blk.cells (confL c) (nat_lit 31) Mode.fix) = some (Blk.cells (confL c) (nat_lit 31) Mode.fix) ∧ True) ∧
                                                                                            true = true ∧ true = true ∧ True) ∧
                                                                              (ruleR (List.getD (Conf.rules c) s65 default) = false →
                                                                                Value.tuple (Array.mk [Value.int IntKind.i64 (↑s65 : Int), Value.int IntKind.i64 (3 : Int)]) = twoV (checkR c))) ∧
                                                                    (decide ((↑s65 : Int) < (↑(List.length (Conf.rules c)) : Int)) = false →
                                                                      ((List.length (Conf.routes c) + (0 : Nat) = List.length (Conf.routes c) ∧ ∀ (j : Nat), j < (0 : Nat) → routE c j = (0 : Int)) ∧
                                                                          Value.int IntKind.i64 (0 : Int) = Value.int IntKind.i64 (0 : Int) ∧
                                                                            Heap.mk (nat_lit 1) (Trie.node (some (Blk.cells (confL c) (nat_lit 31) Mode.fix)) Trie.leaf Trie.leaf) =
                                                                              Heap.mk (nat_lit 1) (Trie.node (some (Blk.cells (confL c) (nat_lit 31) Mode.fix)) Trie.leaf Trie.leaf)) ∧
                                                                        ∀ (i72 s72 : Nat) (j72 : Nat → Value),
                                                                          (i72 + s72 = List.length (Conf.routes c) ∧ ∀ (j : Nat), j < s72 → routE c j = (0 : Int)) →
                                                                            (decide ((↑s72 : Int) < (↑(List.length (Conf.routes c)) : Int)) = true →
                                                                                ((0 : Int) ≤ (↑s72 : Int) ∧ (↑s72 : Int) < (↑(List.length (Conf.routes c)) : Int)) ∧
                                                                                  Ask.holds Try.prog
                                                                                      (Ask.part (Array.toList (Array.mk (routsL (Conf.routes c))))
                                                                                        (Int.toNat (↑(Int.toNat (↑s72 : Int) * nat_lit 3) : Int)) (nat_lit 3)
                                                                                        (routL (List.getD (Conf.routes c) s72 default))) ∧
                                                                                    CallK Try.prog (nat_lit 64) [Value.agg (Array.mk (pfxL (Rout.to (List.getD (Conf.routes c) s72 default))))]
                                                                                        (Value.bool (pfxR (Rout.to (List.getD (Conf.routes c) s72 default)))) ∧
                                                                                      (pfxR (Rout.to (List.getD (Conf.routes c) s72 default)) = true →
                                                                                          (decide (Rout.out (List.getD (Conf.routes c) s72 default) < (0 : Int)) = true →
                                                                                              Value.tuple (Array.mk [Value.int IntKind.i64 (↑s72 : Int), Value.int IntKind.i64 (1 : Int)]) =
                                                                                                twoV (checkR c)) ∧
                                                                                            (decide (Rout.out (List.getD (Conf.routes c) s72 default) < (0 : Int)) = false →
                                                                                              (decide (Rout.out (List.getD (Conf.routes c) s72 default) ≥ (↑(List.length (Conf.faces c)) : Int)) =
                                                                                                    true →
                                                                                                  Value.tuple (Array.mk [Value.int IntKind.i64 (↑s72 : Int), Value.int IntKind.i64 (1 : Int)]) =
                                                                                                    twoV (checkR c)) ∧
                                                                                                (decide (Rout.out (List.getD (Conf.routes c) s72 default) ≥ (↑(List.length (Conf.faces c)) : Int)) =
                                                                                                    false →
                                                                                                  ((s72 + (0 : Nat) = s72 ∧
                                                                                                        ∀ (j : Nat),
                                                                                                          j < (0 : Nat) →
                                                                                                            pfxEq (Rout.to (List.getD (Conf.routes c) j default))
                                                                                                                (Rout.to (List.getD (Conf.routes c) s72 default)) =
                                                                                                              false) ∧
                                                                                                      Value.int IntKind.i64 (0 : Int) = Value.int IntKind.i64 (0 : Int) ∧
                                                                                                        Heap.mk (nat_lit 2)
                                                                                                            (Trie.node (some (Blk.cells (confL c) (nat_lit 31) Mode.fix))
                                                                                                              (Trie.node
                                                                                                                (some
                                                                                                                  (Blk.cells (routL (List.getD (Conf.routes c) s72 default)) (nat_lit 113) Mode.fix))
                                                                                                                Trie.leaf Trie.leaf)
                                                                                                              Trie.leaf) =
                                                                                                          Heap.mk (nat_lit 2)
                                                                                                            (Trie.node (some (Blk.cells (confL c) (nat_lit 31) Mode.fix))
                                                                                                              (Trie.node
                                                                                                                (some
                                                                                                                  (Blk.cells (routL (List.getD (Conf.routes c) s72 default)) (nat_lit 113) Mode.fix))
                                                                                                                Trie.leaf Trie.leaf)
                                                                                                              Trie.leaf)) ∧
                                                                                                    ∀ (i101 s101 : Nat) (j101 : Nat → Value),
                                                                                                      (i101 + s101 = s72 ∧
                                                                                                          ∀ (j : Nat),
                                                                                                            j < s101 →
                                                                                                              pfxEq (Rout.to (List.getD (Conf.routes c) j default))
                                                                                                                  (Rout.to (List.getD (Conf.routes c) s72 default)) =
                                                                                                                false) →
                                                                                                        (decide ((↑s101 : Int) < (↑s72 : Int)) = true →
                                                                                                            ((0 : Int) ≤ (↑s101 : Int) ∧ (↑s101 : Int) < (↑(List.length (Conf.routes c)) : Int)) ∧
                                                                                                              Ask.holds Try.prog
                                                                                                                  (Ask.part (Array.toList (Array.mk (routsL (Conf.routes c))))
                                                                                                                    (Int.toNat
                                                                                                                      (↑(Int.toNat (↑(Int.toNat (↑s101 : Int) * nat_lit 3) : Int) + nat_lit 0) : Int))
                                                                                                                    (nat_lit 2) (pfxL (Rout.to (List.getD (Conf.routes c) s101 default)))) ∧
                                                                                                                Ask.holds Try.prog
                                                                                                                    (Ask.eqv (nat_lit 48)
                                                                                                                      (Value.agg (Array.mk (pfxL (Rout.to (List.getD (Conf.routes c) s101 default)))))
                                                                                                                      (Value.agg (Array.mk (pfxL (Rout.to (List.getD (Conf.routes c) s72 default)))))
                                                                                                                      (pfxEq (Rout.to (List.getD (Conf.routes c) s101 default))
                                                                                                                        (Rout.to (List.getD (Conf.routes c) s72 default)))) ∧
                                                                                                                  (pfxEq (Rout.to (List.getD (Conf.routes c) s101 default))
                                                                                                                          (Rout.to (List.getD (Conf.routes c) s72 default)) =
                                                                                                                        true →
                                                                                                                      Value.tuple
                                                                                                                          (Array.mk
                                                                                                                            [Value.int IntKind.i64 (↑s72 : Int), Value.int IntKind.i64 (7 : Int)]) =
                                                                                                                        twoV (checkR c)) ∧
                                                                                                                    (pfxEq (Rout.to (List.getD (Conf.routes c) s101 default))
                                                                                                                          (Rout.to (List.getD (Conf.routes c) s72 default)) =
                                                                                                                        false →
                                                                                                                      ∃ (i101' : Nat),
                                                                                                                        ∃ (s101' : Nat),
                                                                                                                          i101' < i101 ∧
                                                                                                                            (i101' + s101' = s72 ∧
                                                                                                                                ∀ (j : Nat),
                                                                                                                                  j < s101' →
                                                                                                                                    pfxEq (Rout.to (List.getD (Conf.routes c) j default))
                                                                                                                                        (Rout.to (List.getD (Conf.routes c) s72 default)) =
                                                                                                                                      false) ∧
                                                                                                                              Value.int IntKind.i64
                                                                                                                                    (IntKind.wrap IntKind.i64 ((↑s101 : Int) + (1 : Int))) =
                                                                                                                                  Value.int IntKind.i64 (↑s101' : Int) ∧
                                                                                                                                (some
                                                                                                                                        (Blk.cells (routL (List.getD (Conf.routes c) s72 default))
                                                                                                                                          (nat_lit 113) Mode.fix) =
                                                                                                                                      some
                                                                                                                                        (Blk.cells (routL (List.getD (Conf.routes c) s72 default))
                                                                                                                                          (nat_lit 113) Mode.fix) ∧
                                                                                                                                    some (Blk.cells (confL c) (nat_lit 31) Mode.fix) =
                                                                                                                                        some (Blk.cells (confL c) (nat_lit 31) Mode.fix) ∧
                                                                                                                                      True) ∧
                                                                                                                                  true = true ∧ true = true ∧ true = true ∧ True)) ∧
                                                                                                          (decide ((↑s101 : Int) < (↑s72 : Int)) = false →
                                                                                                            ∃ (i72' : Nat),
                                                                                                              ∃ (s72' : Nat),
                                                                                                                i72' < i72 ∧
                                                                                                                  (i72' + s72' = List.length (Conf.routes c) ∧
                                                                                                                      ∀ (j : Nat), j < s72' → routE c j = (0 : Int)) ∧
                                                                                                                    Value.int IntKind.i64 (IntKind.wrap IntKind.i64 ((↑s72 : Int) + (1 : Int))) =
                                                                                                                        Value.int IntKind.i64 (↑s72' : Int) ∧
                                                                                                                      (some (Blk.cells (confL c) (nat_lit 31) Mode.fix) =
                                                                                                                            some (Blk.cells (confL c) (nat_lit 31) Mode.fix) ∧
                                                                                                                          True) ∧
                                                                                                                        true = true ∧ true = true ∧ True)))) ∧
                                                                                        (pfxR (Rout.to (List.getD (Conf.routes c) s72 default)) = false →
                                                                                          Value.tuple (Array.mk [Value.int IntKind.i64 (↑s72 : Int), Value.int IntKind.i64 (3 : Int)]) =
                                                                                            twoV (checkR c))) ∧
                                                                              (decide ((↑s72 : Int) < (↑(List.length (Conf.routes c)) : Int)) = false →
                                                                                CallK Try.prog (nat_lit 65) [Value.int IntKind.i64 (Quot.queue (Conf.quotas c))]
                                                                                    (Value.bool (quotaB (Quot.queue (Conf.quotas c)))) ∧
                                                                                  (quotaB (Quot.queue (Conf.quotas c)) = true →
                                                                                      CallK Try.prog (nat_lit 65) [Value.int IntKind.i64 (Quot.flows (Conf.quotas c))]
                                                                                          (Value.bool (quotaB (Quot.flows (Conf.quotas c)))) ∧
                                                                                        (quotaB (Quot.flows (Conf.quotas c)) = true →
                                                                                            CallK Try.prog (nat_lit 65) [Value.int IntKind.i64 (Quot.datagrams (Conf.quotas c))]
                                                                                                (Value.bool (quotaB (Quot.datagrams (Conf.quotas c)))) ∧
                                                                                              (quotaB (Quot.datagrams (Conf.quotas c)) = true →
                                                                                                  CallK Try.prog (nat_lit 65) [Value.int IntKind.i64 (Quot.audit (Conf.quotas c))]
                                                                                                      (Value.bool (quotaB (Quot.audit (Conf.quotas c)))) ∧
                                                                                                    (quotaB (Quot.audit (Conf.quotas c)) = true →
                                                                                                        CallK Try.prog (nat_lit 65) [Value.int IntKind.i64 (Quot.tokens (Conf.quotas c))]
                                                                                                            (Value.bool (quotaB (Quot.tokens (Conf.quotas c)))) ∧
                                                                                                          (quotaB (Quot.tokens (Conf.quotas c)) = true →
                                                                                                              CallK Try.prog (nat_lit 65) [Value.int IntKind.i64 (Quot.whole (Conf.quotas c))]
                                                                                                                  (Value.bool (quotaB (Quot.whole (Conf.quotas c)))) ∧
                                                                                                                (quotaB (Quot.whole (Conf.quotas c)) = true →
                                                                                                                    CallK Try.prog (nat_lit 65) [Value.int IntKind.i64 (Quot.idle (Conf.quotas c))]
                                                                                                                        (Value.bool (quotaB (Quot.idle (Conf.quotas c)))) ∧
                                                                                                                      (quotaB (Quot.idle (Conf.quotas c)) = true →
                                                                                                                          CallK Try.prog (nat_lit 65)
                                                                                                                              [Value.int IntKind.i64 (Quot.open_ (Conf.quotas c))]
                                                                                                                              (Value.bool (quotaB (Quot.open_ (Conf.quotas c)))) ∧
                                                                                                                            (quotaB (Quot.open_ (Conf.quotas c)) = true →
                                                                                                                                (decide (Quot.bytes (Conf.quotas c) < (1 : Int)) = true →
                                                                                                                                    Value.tuple
                                                                                                                                        (Array.mk
                                                                                                                                          [Value.int IntKind.i64 (0 : Int),
                                                                                                                                            Value.int IntKind.i64 (1 : Int)]) =
                                                                                                                                      twoV (checkR c)) ∧
                                                                                                                                  (decide (Quot.bytes (Conf.quotas c) < (1 : Int)) = false →
                                                                                                                                    (decide (Quot.bytes (Conf.quotas c) > (65535 : Int)) = true →
                                                                                                                                        Value.tuple
                                                                                                                                            (Array.mk
                                                                                                                                              [Value.int IntKind.i64 (0 : Int),
                                                                                                                                                Value.int IntKind.i64 (1 : Int)]) =
                                                                                                                                          twoV (checkR c)) ∧
                                                                                                                                      (decide (Quot.bytes (Conf.quotas c) > (65535 : Int)) = false →
                                                                                                                                        Value.tuple
                                                                                                                                            (Array.mk
                                                                                                                                              [Value.int IntKind.i64 (0 : Int),
                                                                                                                                                Value.int IntKind.i64 (0 : Int)]) =
                                                                                                                                          twoV (checkR c)))) ∧
                                                                                                                              (quotaB (Quot.open_ (Conf.quotas c)) = false →
                                                                                                                                Value.tuple
                                                                                                                                    (Array.mk
                                                                                                                                      [Value.int IntKind.i64 (0 : Int),
                                                                                                                                        Value.int IntKind.i64 (1 : Int)]) =
                                                                                                                                  twoV (checkR c))) ∧
                                                                                                                        (quotaB (Quot.idle (Conf.quotas c)) = false →
                                                                                                                          Value.tuple
                                                                                                                              (Array.mk
                                                                                                                                [Value.int IntKind.i64 (0 : Int), Value.int IntKind.i64 (1 : Int)]) =
                                                                                                                            twoV (checkR c))) ∧
                                                                                                                  (quotaB (Quot.whole (Conf.quotas c)) = false →
                                                                                                                    Value.tuple
                                                                                                                        (Array.mk [Value.int IntKind.i64 (0 : Int), Value.int IntKind.i64 (1 : Int)]) =
                                                                                                                      twoV (checkR c))) ∧
                                                                                                            (quotaB (Quot.tokens (Conf.quotas c)) = false →
                                                                                                              Value.tuple
                                                                                                                  (Array.mk [Value.int IntKind.i64 (0 : Int), Value.int IntKind.i64 (1 : Int)]) =
                                                                                                                twoV (checkR c))) ∧
                                                                                                      (quotaB (Quot.audit (Conf.quotas c)) = false →
                                                                                                        Value.tuple (Array.mk [Value.int IntKind.i64 (0 : Int), Value.int IntKind.i64 (1 : Int)]) =
                                                                                                          twoV (checkR c))) ∧
                                                                                                (quotaB (Quot.datagrams (Conf.quotas c)) = false →
                                                                                                  Value.tuple (Array.mk [Value.int IntKind.i64 (0 : Int), Value.int IntKind.i64 (1 : Int)]) =
                                                                                                    twoV (checkR c))) ∧
                                                                                          (quotaB (Quot.flows (Conf.quotas c)) = false →
                                                                                            Value.tuple (Array.mk [Value.int IntKind.i64 (0 : Int), Value.int IntKind.i64 (1 : Int)]) =
                                                                                              twoV (checkR c))) ∧
                                                                                    (quotaB (Quot.queue (Conf.quotas c)) = false →
                                                                                      Value.tuple (Array.mk [Value.int IntKind.i64 (0 : Int), Value.int IntKind.i64 (1 : Int)]) =
                                                                                        twoV (checkR c))))))))))))))) (by kernel_rfl) (by
    have H := h.len
    have l1 := H.faces
    have l2 := H.labels
    have l3 := H.dois
    have l4 := H.relabels
    have l5 := H.rules
    have l6 := H.routes
    have fin : ∀ {p : Int × Int}, checkR c = p → Value.tuple (Array.mk [.int .i64 p.1, .int .i64 p.2]) = twoV (checkR c) := fun h => by rw [h]; rfl
    refine ⟨fun h1 => ?_, fun h1 => ⟨fun h2 => ?_, fun h2 => ?_⟩⟩
    · exact fin (p := (0, 1)) (counts_bad (.inl (by have := of_decide_eq_true h1; omega)))
    · exact fin (p := (0, 1)) (counts_bad (.inr (by have := of_decide_eq_true h2; omega)))
    have hc : (countsR c).2 = 0 := by unfold countsR; exact if_neg (by have := of_decide_eq_false h1; have := of_decide_eq_false h2; omega)
    refine ⟨refChk_w _ l2, fun h3 => ?_, fun h3 => ⟨fun h4 => ?_, fun h4 => ⟨⟨⟨by omega, fun j hj => by omega⟩, rfl, rfl⟩, fun a k j ⟨q1, q2⟩ => ⟨fun h5 => ?_, fun h5 => ?_⟩⟩⟩⟩
    · have hb : (lblsChk c.labels).2 ≠ 0 := by simpa using h3
      exact fin (by unfold checkR; rw [if_neg (by rw [hc]; decide), if_pos hb])
    · have hb : (lblsChk c.labels).2 = 0 := by simpa using h3
      have h0 : c.labels.length = 0 := by have := beq_iff_eq.1 h4; omega
      exact fin (p := (0, 6)) (by unfold checkR; rw [if_neg (by rw [hc]; decide), if_neg (by rw [hb]; decide), if_pos h0])
    · have hb : (lblsChk c.labels).2 = 0 := by simpa using h3
      have h0 : c.labels.length ≠ 0 := by have := beq_eq_false_iff_ne.1 h4; omega
      have hk : k < c.dois.length := by have := of_decide_eq_true h5; omega
      have hd := h.dois _ (getD_mem (d := default) hk)
      refine ⟨⟨by omega, by omega⟩, dois_part hk 0 3 (by omega) rfl rfl, refDoi_w _ hd.1 hd.2, fun h6 => ⟨a - 1, k + 1, by omega, ⟨by omega, lt_next q2 (by rw [h6]; rfl)⟩, wrap_next k (by omega), ⟨rfl, trivial⟩, rfl, ⟨rfl, trivial⟩⟩, fun h6 => ?_⟩
      have hR := doms_at hk h6 q2
      exact fin (p := ((k : Int), 3)) (by unfold checkR; rw [if_neg (by rw [hc]; decide), if_neg (by rw [hb]; decide), if_neg h0, hR]; rfl)
    have hb : (lblsChk c.labels).2 = 0 := by simpa using h3
    have h0 : c.labels.length ≠ 0 := by have := beq_eq_false_iff_ne.1 h4; omega
    have e1 : k = c.dois.length := by have := of_decide_eq_false h5; omega
    subst e1
    have hD := doms_none q2
    have s1 : checkR c = if (facesR c).2 ≠ 0 then facesR c else if (lensR c).2 ≠ 0 then lensR c else if (rulesR c).2 ≠ 0 then rulesR c else if (routsR c).2 ≠ 0 then routsR c else if (quotsR c).2 ≠ 0 then quotsR c else (0, 0) := by
      unfold checkR; rw [if_neg (by rw [hc]; decide), if_neg (by rw [hb]; decide), if_neg h0, hD, if_neg (by decide)]
    clear h1 h2 h3 h4 h5 q1 q2
    refine ⟨⟨⟨by omega, fun j hj => by omega⟩, rfl, rfl⟩, fun a k j ⟨q1, q2⟩ => ⟨fun h5 => ?_, fun h5 => ?_⟩⟩
    · have hk : k < c.faces.length := by have := of_decide_eq_true h5; omega
      refine ⟨refFace_w c k hk h, fun h6 => ?_, fun h6 => ⟨a - 1, k + 1, by omega, ⟨by omega, lt_next q2 (by simpa using h6)⟩, wrap_next k (by omega), ⟨rfl, trivial⟩, rfl, ⟨rfl, trivial⟩⟩⟩
      have hb : faceE c (c.faces.take k) (c.faces.getD k default) ≠ 0 := by simpa using h6
      have hR := faces_at hk hb q2
      exact fin (p := ((k : Int), faceE c (c.faces.take k) (c.faces.getD k default))) (by rw [s1, hR, if_pos hb])
    have e1 : k = c.faces.length := by have := of_decide_eq_false h5; omega
    subst e1
    have hF := faces_none q2
    have s2 : checkR c = if (lensR c).2 ≠ 0 then lensR c else if (rulesR c).2 ≠ 0 then rulesR c else if (routsR c).2 ≠ 0 then routsR c else if (quotsR c).2 ≠ 0 then quotsR c else (0, 0) := by
      rw [s1, hF, if_neg (by decide)]
    clear s1 h5 q1 q2
    have long : (64 < c.rules.length ∨ 64 < c.relabels.length ∨ 256 < c.routes.length) → checkR c = (0, 5) := fun hl => by
      have : lensR c = (0, 5) := by unfold lensR; rw [if_pos hl]
      rw [s2, this]; rfl
    refine ⟨fun h1 => ?_, fun h1 => ⟨fun h2 => ?_, fun h2 => ⟨fun h3 => ?_, fun h3 => ?_⟩⟩⟩
    · exact fin (p := (0, 5)) (long (.inl (by have := of_decide_eq_true h1; omega)))
    · exact fin (p := (0, 5)) (long (.inr (.inl (by have := of_decide_eq_true h2; omega))))
    · exact fin (p := (0, 5)) (long (.inr (.inr (by have := of_decide_eq_true h3; omega))))
    have hLe : lensR c = (0, 0) := by
      have := of_decide_eq_false h1; have := of_decide_eq_false h2; have := of_decide_eq_false h3
      unfold lensR; rw [if_neg (by omega)]
    have s3 : checkR c = if (rulesR c).2 ≠ 0 then rulesR c else if (routsR c).2 ≠ 0 then routsR c else if (quotsR c).2 ≠ 0 then quotsR c else (0, 0) := by
      rw [s2, hLe, if_neg (by decide)]
    clear s2 long h1 h2 h3
    refine ⟨⟨⟨by omega, fun j hj => by omega⟩, rfl, rfl⟩, fun a k j ⟨q1, q2⟩ => ⟨fun h5 => ?_, fun h5 => ?_⟩⟩
    · have hk : k < c.relabels.length := by have := of_decide_eq_true h5; omega
      have hd := h.relabels _ (getD_mem (d := default) hk)
      refine ⟨⟨by omega, by omega⟩, relabs_part hk 0 8 (by omega) rfl rfl, refRelab_w _ _ hd.1 hd.2, fun h6 => ⟨a - 1, k + 1, by omega, ⟨by omega, lt_next q2 (by rw [h6]; rfl)⟩, wrap_next k (by omega), ⟨rfl, trivial⟩, rfl, ⟨rfl, trivial⟩⟩, fun h6 => ?_⟩
      have hR := relabs_at hk h6 q2
      exact fin (p := ((k : Int), 3)) (by rw [s3, hR]; rfl)
    have e1 : k = c.relabels.length := by have := of_decide_eq_false h5; omega
    subst e1
    have nr := q2
    clear h5 q1 q2
    refine ⟨⟨⟨by omega, fun j hj => by omega⟩, rfl, rfl⟩, fun a k j ⟨q1, q2⟩ => ⟨fun h5 => ?_, fun h5 => ?_⟩⟩
    · have hk : k < c.rules.length := by have := of_decide_eq_true h5; omega
      have hd := h.rules _ (getD_mem (d := default) hk)
      refine ⟨⟨by omega, by omega⟩, rules_part hk 0 12 (by omega) rfl rfl, refRule_w _ hd.1 hd.2, fun h6 => ⟨a - 1, k + 1, by omega, ⟨by omega, lt_next q2 (by rw [h6]; rfl)⟩, wrap_next k (by omega), ⟨rfl, trivial⟩, rfl, ⟨rfl, trivial⟩⟩, fun h6 => ?_⟩
      have hR := rules_at nr hk h6 q2
      exact fin (p := ((k : Int), 3)) (by rw [s3, hR]; rfl)
    have e1 : k = c.rules.length := by have := of_decide_eq_false h5; omega
    subst e1
    have hR := rules_none nr q2
    have s4 : checkR c = if (routsR c).2 ≠ 0 then routsR c else if (quotsR c).2 ≠ 0 then quotsR c else (0, 0) := by
      rw [s3, hR, if_neg (by decide)]
    clear s3 nr h5 q1 q2
    refine ⟨⟨⟨by omega, fun j hj => by omega⟩, rfl, rfl⟩, fun a k j ⟨q1, q2⟩ => ⟨fun h5 => ?_, fun h5 => ?_⟩⟩
    · have hk : k < c.routes.length := by have := of_decide_eq_true h5; omega
      have hd := h.routes _ (getD_mem (d := default) hk)
      have at_ : ∀ {e : Int}, routE c k = e → e ≠ 0 → Value.tuple (Array.mk [.int .i64 k, .int .i64 e]) = twoV (checkR c) := fun {e} he hne => by
        have hR := routs_at hk he hne q2
        exact fin (p := ((k : Int), e)) (by rw [s4, hR, if_pos hne])
      refine ⟨⟨by omega, by omega⟩, routs_part hk 0 3 (by omega) rfl rfl, pfxRefRight_w _ hd, fun h6 => ⟨fun h7 => ?_, fun h7 => ⟨fun h8 => ?_, fun h8 => ⟨⟨⟨by omega, fun j hj => by omega⟩, rfl, rfl⟩, fun b m j2 ⟨r1, r2⟩ => ⟨fun h9 => ?_, fun h9 => ?_⟩⟩⟩⟩, fun h6 => ?_⟩
      · exact at_ (by unfold routE; rw [if_neg (by rw [h6]; decide), if_pos (.inl (of_decide_eq_true h7))]) (by decide)
      · exact at_ (by unfold routE; rw [if_neg (by rw [h6]; decide), if_pos (.inr (of_decide_eq_true h8))]) (by decide)
      · have hm : m < k := by have := of_decide_eq_true h9; omega
        have a1 := of_decide_eq_false h7
        have a2 := of_decide_eq_false h8
        refine ⟨⟨by omega, by omega⟩, routs_part (k := m) (by omega) 0 2 (by omega) rfl rfl, pfxEq_eqD _ _, fun h10 => ?_, fun h10 => ⟨b - 1, m + 1, by omega, ⟨by omega, lt_next r2 h10⟩, wrap_next m (by omega), ⟨rfl, rfl, trivial⟩, rfl, ⟨rfl, rfl, trivial⟩⟩⟩
        exact at_ (by unfold routE; rw [if_neg (by rw [h6]; decide), if_neg (by omega), if_pos ((any_take default (by omega)).2 ⟨m, hm, h10⟩)]) (by decide)
      · have hm : m = k := by have := of_decide_eq_false h9; omega
        subst hm
        have a1 := of_decide_eq_false h7
        have a2 := of_decide_eq_false h8
        refine ⟨a - 1, m + 1, by omega, ⟨by omega, lt_next q2 ?_⟩, wrap_next m (by omega), ⟨rfl, trivial⟩, rfl, ⟨rfl, trivial⟩⟩
        unfold routE; rw [if_neg (by rw [h6]; decide), if_neg (by omega), if_neg (by rw [any_take_false default (by omega) r2]; decide)]
      · exact at_ (by unfold routE; rw [if_pos h6]) (by decide)
    have e1 : k = c.routes.length := by have := of_decide_eq_false h5; omega
    subst e1
    have hRo := routs_none q2
    have s5 : checkR c = if (quotsR c).2 ≠ 0 then quotsR c else (0, 0) := by
      rw [s4, hRo, if_neg (by decide)]
    clear s4 h5 q1 q2 hc hb h0 hD hF hLe hR hRo
    have bad : quotsB c.quotas = false → Value.tuple (Array.mk [.int .i64 0, .int .i64 1]) = twoV (checkR c) := fun hq => by
      have : quotsR c = (0, 1) := by unfold quotsR; rw [if_neg (by rw [hq]; decide)]
      exact fin (p := (0, 1)) (by rw [s5, this]; rfl)
    have good : quotsB c.quotas = true → Value.tuple (Array.mk [.int .i64 0, .int .i64 0]) = twoV (checkR c) := fun hq => by
      have : quotsR c = (0, 0) := by unfold quotsR; rw [if_pos hq]
      exact fin (p := (0, 0)) (by rw [s5, this]; rfl)
    repeat' (first | exact quota_w _ | (refine bad ?_; done) | (refine good ?_; done) | apply And.intro | intro)
    all_goals first
      | (refine bad ?_; grind [quotsB])
      | (refine good ?_; grind [quotsB]))
end Go.Proofs.Ytepijhnfeafmaaa
