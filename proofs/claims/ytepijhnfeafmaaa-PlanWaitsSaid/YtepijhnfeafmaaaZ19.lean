/- Texts packed together: CSteps CRef CRef2. -/
import Derived.Test.YtepijhnfeafmaaaZ18
section
/- What the steps of looking at a config answer. -/
set_option linter.unusedVariables false
set_option linter.unusedSimpArgs false
set_option maxRecDepth 100000
namespace Go.Proofs.Ytepijhnfeafmaaa
open Go Go.Ideal
def twoV (p : Int × Int) : Value := .tuple (Array.mk [.int .i64 p.1, .int .i64 p.2])
/-- Before the labels are looked at. -/
def look0 (c : Conf) : List Value := confL c ++ [.pointer none]
def firstBad0 (n : Nat) (bad : Nat → Int) : Int × Int := if (firstBad n bad).2 = 0 then (0, 0) else firstBad n bad
theorem firstBad0_at {n : Nat} {bad : Nat → Int} {k : Nat} (hk : k < n) (h : bad k ≠ 0) (no : ∀ j, j < k → bad j = 0) : firstBad0 n bad = ((k : Int), bad k) := by
  unfold firstBad0; rw [firstBad_at hk h no, if_neg h]
theorem firstBad0_none {n : Nat} {bad : Nat → Int} (no : ∀ j, j < n → bad j = 0) : firstBad0 n bad = (0, 0) := by
  unfold firstBad0; rw [firstBad_none no, if_pos rfl]
def countsR (c : Conf) : Int × Int := (0, if c.faces.length < 1 ∨ 8 < c.faces.length then 1 else 0)
def domsR (c : Conf) : Int × Int := if 0 ≤ idxB c.dois (fun d => !doiR d) then (idxB c.dois (fun d => !doiR d), 3) else (0, 0)
def facesR (c : Conf) : Int × Int := firstBad0 c.faces.length fun k => faceE c (c.faces.take k) (c.faces.getD k default)
def lensR (c : Conf) : Int × Int := (0, if 64 < c.rules.length ∨ 64 < c.relabels.length ∨ 256 < c.routes.length then 5 else 0)
def rulesR (c : Conf) : Int × Int := if 0 ≤ idxB c.relabels (fun r => !relabR c.labels.length r) then (idxB c.relabels (fun r => !relabR c.labels.length r), 3)
  else if 0 ≤ idxB c.rules (fun r => !ruleR r) then (idxB c.rules (fun r => !ruleR r), 3) else (0, 0)
def routE (c : Conf) (k : Nat) : Int := if pfxR (c.routes.getD k default).to = false then 3 else if (c.routes.getD k default).out < 0 ∨ c.faces.length ≤ (c.routes.getD k default).out then 1
  else if ((c.routes.take k).any fun q => pfxEq q.to (c.routes.getD k default).to) = true then 7 else 0
def routsR (c : Conf) : Int × Int := firstBad0 c.routes.length (routE c)
def quotsB (q : Quot) : Bool := quotaB q.queue && quotaB q.flows && quotaB q.datagrams && quotaB q.audit && quotaB q.tokens && quotaB q.whole && quotaB q.idle && quotaB q.open_ && decide (1 ≤ q.bytes) && decide (q.bytes ≤ 65535)
def quotsR (c : Conf) : Int × Int := (0, if quotsB c.quotas = true then 0 else 1)
/-- No list is longer than memory. -/
structure ConfLen (c : Conf) : Prop where
  faces : c.faces.length ≤ 1099511627776
  labels : c.labels.length ≤ 1099511627776
  dois : c.dois.length ≤ 1099511627776
  relabels : c.relabels.length ≤ 1099511627776
  rules : c.rules.length ≤ 1099511627776
  routes : c.routes.length ≤ 1099511627776
def AddrOK (c : Conf) : Prop := ∀ x ∈ c.faces, 0 ≤ x.addr ∧ x.addr < 4294967296
theorem counts_w (c : Conf) : CallK Try.prog 51 [vpt 0 (Array.mk (look0 c))] (twoV (countsR c)) :=
  CallK.via progOK (pfs []) [] 100 (Adv.split (14 : Nat) Adv.nil (Adv.split (17 : Nat) Adv.nil Adv.nil)) (by kernel_rfl) (by kernel_rfl) (p := (decide ((↑(List.length (Conf.faces c)) : Int) < (1 : Int)) = true → Value.tuple (Array.mk [Value.int IntKind.i64 (0 : Int), Value.int IntKind.i64 (1 : Int)]) = twoV (countsR c)) ∧
  (decide ((↑(List.length (Conf.faces c)) : Int) < (1 : Int)) = false →
    (decide ((↑(List.length (Conf.faces c)) : Int) > (8 : Int)) = true → Value.tuple (Array.mk [Value.int IntKind.i64 (0 : Int), Value.int IntKind.i64 (1 : Int)]) = twoV (countsR c)) ∧
      (decide ((↑(List.length (Conf.faces c)) : Int) > (8 : Int)) = false → Value.tuple (Array.mk [Value.int IntKind.i64 (0 : Int), Value.int IntKind.i64 (0 : Int)]) = twoV (countsR c)))) (by kernel_rfl) (by
    simp only [twoV, Value.tuple.injEq, Array.mk.injEq, List.cons.injEq, Value.int.injEq, and_true, true_and]
    repeat' (first | rfl | apply And.intro | intro)
    all_goals grind [countsR])
theorem doms_w (c : Conf) (hl : ConfLen c) : CallK Try.prog 53 [vpt 0 (Array.mk (lookL c))] (twoV (domsR c)) :=
  CallK.via progOK (pfs []) [] 100 (Adv.pur (10 : Nat) (Value.int IntKind.i64 (idxB (Conf.dois c) fun (d : Doi) => !doiR d)) (Adv.split (14 : Nat) Adv.nil Adv.nil)) (by kernel_rfl) (by kernel_rfl) (p := CallK Try.prog (nat_lit 95)
    [Value.iface (nat_lit 1000000) (Value.tuple (Array.mk [Value.int IntKind.i64 (↑(List.length (Conf.dois c)) : Int), Value.agg (Array.mk (doisL (Conf.dois c)))])),
      Value.func (Fn.func (nat_lit 96)) (Array.mk []) (Array.mk [])]
    (Value.int IntKind.i64 (idxB (Conf.dois c) fun (d : Doi) => !doiR d)) ∧
  (decide ((idxB (Conf.dois c) fun (d : Doi) => !doiR d) ≥ (0 : Int)) = true →
      Value.tuple (Array.mk [Value.int IntKind.i64 (idxB (Conf.dois c) fun (d : Doi) => !doiR d), Value.int IntKind.i64 (3 : Int)]) = twoV (domsR c)) ∧
    (decide ((idxB (Conf.dois c) fun (d : Doi) => !doiR d) ≥ (0 : Int)) = false → Value.tuple (Array.mk [Value.int IntKind.i64 (0 : Int), Value.int IntKind.i64 (0 : Int)]) = twoV (domsR c))) (by kernel_rfl) (by
    simp only [twoV, Value.tuple.injEq, Array.mk.injEq, List.cons.injEq, Value.int.injEq, and_true, true_and]
    repeat' (first | exact idxDoi_w _ hl.dois | rfl | apply And.intro | intro)
    all_goals grind [domsR])
theorem lens_w (c : Conf) : CallK Try.prog 55 [vpt 0 (Array.mk (lookL c))] (twoV (lensR c)) :=
  CallK.via progOK (pfs []) [] 100 (Adv.split (11 : Nat) Adv.nil (Adv.split (19 : Nat) Adv.nil (Adv.split (28 : Nat) Adv.nil Adv.nil))) (by kernel_rfl) (by kernel_rfl) (p := (decide ((↑(List.length (Conf.rules c)) : Int) > (64 : Int)) = true → Value.tuple (Array.mk [Value.int IntKind.i64 (0 : Int), Value.int IntKind.i64 (5 : Int)]) = twoV (lensR c)) ∧
  (decide ((↑(List.length (Conf.rules c)) : Int) > (64 : Int)) = false →
    (decide ((↑(List.length (Conf.relabels c)) : Int) > (64 : Int)) = true → Value.tuple (Array.mk [Value.int IntKind.i64 (0 : Int), Value.int IntKind.i64 (5 : Int)]) = twoV (lensR c)) ∧
      (decide ((↑(List.length (Conf.relabels c)) : Int) > (64 : Int)) = false →
        (decide ((↑(List.length (Conf.routes c)) : Int) > (256 : Int)) = true → Value.tuple (Array.mk [Value.int IntKind.i64 (0 : Int), Value.int IntKind.i64 (5 : Int)]) = twoV (lensR c)) ∧
          (decide ((↑(List.length (Conf.routes c)) : Int) > (256 : Int)) = false → Value.tuple (Array.mk [Value.int IntKind.i64 (0 : Int), Value.int IntKind.i64 (0 : Int)]) = twoV (lensR c))))) (by kernel_rfl) (by
    simp only [twoV, Value.tuple.injEq, Array.mk.injEq, List.cons.injEq, Value.int.injEq, and_true, true_and]
    repeat' (first | rfl | apply And.intro | intro)
    all_goals grind [lensR])
theorem rules_w (c : Conf) (hl : ConfLen c) : CallK Try.prog 56 [vpt 0 (Array.mk (lookL c))] (twoV (rulesR c)) :=
  CallK.via progOK (pfs []) [] 100 (Adv.bor (12 : Nat) (Value.int IntKind.i64 (idxB (Conf.relabels c) fun (r : Relab) => !relabR (↑(List.length (Conf.labels c)) : Int) r))
  (Adv.split (16 : Nat) Adv.nil (Adv.pur (25 : Nat) (Value.int IntKind.i64 (idxB (Conf.rules c) fun (d : Rule) => !ruleR d)) (Adv.split (29 : Nat) Adv.nil Adv.nil)))) (by kernel_rfl) (by kernel_rfl) (p := CallK Try.prog (nat_lit 99)
    [Value.iface (nat_lit 1000000) (Value.tuple (Array.mk [Value.int IntKind.i64 (↑(List.length (Conf.relabels c)) : Int), Value.agg (Array.mk (relabsL (Conf.relabels c)))])),
      Value.func (Fn.func (nat_lit 100)) (Array.mk [])
        (Array.mk
          [Value.iface (nat_lit 1000001)
              (Value.tuple
                (Array.mk
                  [Value.int IntKind.i64 (0 : Int),
                    Value.agg (Array.mk [Value.iface (nat_lit 1000001) (Value.tuple (Array.mk [Value.int IntKind.i64 (0 : Int), Value.agg (Array.mk (lookL c))]))])]))])]
    (Value.int IntKind.i64 (idxB (Conf.relabels c) fun (r : Relab) => !relabR (↑(List.length (Conf.labels c)) : Int) r)) ∧
  (decide ((idxB (Conf.relabels c) fun (r : Relab) => !relabR (↑(List.length (Conf.labels c)) : Int) r) ≥ (0 : Int)) = true →
      Value.tuple (Array.mk [Value.int IntKind.i64 (idxB (Conf.relabels c) fun (r : Relab) => !relabR (↑(List.length (Conf.labels c)) : Int) r), Value.int IntKind.i64 (3 : Int)]) = twoV (rulesR c)) ∧
    (decide ((idxB (Conf.relabels c) fun (r : Relab) => !relabR (↑(List.length (Conf.labels c)) : Int) r) ≥ (0 : Int)) = false →
      CallK Try.prog (nat_lit 102)
          [Value.iface (nat_lit 1000000) (Value.tuple (Array.mk [Value.int IntKind.i64 (↑(List.length (Conf.rules c)) : Int), Value.agg (Array.mk (rulesL (Conf.rules c)))])),
            Value.func (Fn.func (nat_lit 103)) (Array.mk []) (Array.mk [])]
          (Value.int IntKind.i64 (idxB (Conf.rules c) fun (d : Rule) => !ruleR d)) ∧
        (decide ((idxB (Conf.rules c) fun (d : Rule) => !ruleR d) ≥ (0 : Int)) = true →
            Value.tuple (Array.mk [Value.int IntKind.i64 (idxB (Conf.rules c) fun (d : Rule) => !ruleR d), Value.int IntKind.i64 (3 : Int)]) = twoV (rulesR c)) ∧
          (decide ((idxB (Conf.rules c) fun (d : Rule) => !ruleR d) ≥ (0 : Int)) = false → Value.tuple (Array.mk [Value.int IntKind.i64 (0 : Int), Value.int IntKind.i64 (0 : Int)]) = twoV (rulesR c)))) (by kernel_rfl) (by
    simp only [twoV, Value.tuple.injEq, Array.mk.injEq, List.cons.injEq, Value.int.injEq, and_true, true_and]
    repeat' (first | exact idxRelab_w _ _ hl.relabels | exact idxRule_w _ hl.rules | rfl | apply And.intro | intro)
    all_goals grind [rulesR])
theorem quots_w (c : Conf) : CallK Try.prog 58 [vpt 0 (Array.mk (lookL c))] (twoV (quotsR c)) :=
  CallK.via progOK (pfs []) [] 100 (Adv.split (41 : Nat) Adv.nil
  (Adv.split (44 : Nat) Adv.nil
    (Adv.split (59 : Nat) Adv.nil
      (Adv.split (62 : Nat) Adv.nil
        (Adv.split (77 : Nat) Adv.nil
          (Adv.split (80 : Nat) Adv.nil
            (Adv.split (95 : Nat) Adv.nil
              (Adv.split (98 : Nat) Adv.nil
                (Adv.split (113 : Nat) Adv.nil
                  (Adv.split (116 : Nat) Adv.nil
                    (Adv.split (131 : Nat) Adv.nil
                      (Adv.split (134 : Nat) Adv.nil
                        (Adv.split (149 : Nat) Adv.nil
                          (Adv.split (152 : Nat) Adv.nil
                            (Adv.split (167 : Nat) Adv.nil (Adv.split (170 : Nat) Adv.nil (Adv.split (183 : Nat) Adv.nil (Adv.split (187 : Nat) Adv.nil Adv.nil)))))))))))))))))) (by kernel_rfl) (by kernel_rfl) (p := (decide (Quot.queue (Conf.quotas c) < (1 : Int)) = true → Value.tuple (Array.mk [Value.int IntKind.i64 (0 : Int), Value.int IntKind.i64 (1 : Int)]) = twoV (quotsR c)) ∧
  (decide (Quot.queue (Conf.quotas c) < (1 : Int)) = false →
    (decide (Quot.queue (Conf.quotas c) > (1000 : Int)) = true → Value.tuple (Array.mk [Value.int IntKind.i64 (0 : Int), Value.int IntKind.i64 (1 : Int)]) = twoV (quotsR c)) ∧
      (decide (Quot.queue (Conf.quotas c) > (1000 : Int)) = false →
        (decide (Quot.flows (Conf.quotas c) < (1 : Int)) = true → Value.tuple (Array.mk [Value.int IntKind.i64 (0 : Int), Value.int IntKind.i64 (1 : Int)]) = twoV (quotsR c)) ∧
          (decide (Quot.flows (Conf.quotas c) < (1 : Int)) = false →
            (decide (Quot.flows (Conf.quotas c) > (1000 : Int)) = true → Value.tuple (Array.mk [Value.int IntKind.i64 (0 : Int), Value.int IntKind.i64 (1 : Int)]) = twoV (quotsR c)) ∧
              (decide (Quot.flows (Conf.quotas c) > (1000 : Int)) = false →
                (decide (Quot.datagrams (Conf.quotas c) < (1 : Int)) = true → Value.tuple (Array.mk [Value.int IntKind.i64 (0 : Int), Value.int IntKind.i64 (1 : Int)]) = twoV (quotsR c)) ∧
                  (decide (Quot.datagrams (Conf.quotas c) < (1 : Int)) = false →
                    (decide (Quot.datagrams (Conf.quotas c) > (1000 : Int)) = true → Value.tuple (Array.mk [Value.int IntKind.i64 (0 : Int), Value.int IntKind.i64 (1 : Int)]) = twoV (quotsR c)) ∧
                      (decide (Quot.datagrams (Conf.quotas c) > (1000 : Int)) = false →
                        (decide (Quot.audit (Conf.quotas c) < (1 : Int)) = true → Value.tuple (Array.mk [Value.int IntKind.i64 (0 : Int), Value.int IntKind.i64 (1 : Int)]) = twoV (quotsR c)) ∧
                          (decide (Quot.audit (Conf.quotas c) < (1 : Int)) = false →
                            (decide (Quot.audit (Conf.quotas c) > (1000 : Int)) = true → Value.tuple (Array.mk [Value.int IntKind.i64 (0 : Int), Value.int IntKind.i64 (1 : Int)]) = twoV (quotsR c)) ∧
                              (decide (Quot.audit (Conf.quotas c) > (1000 : Int)) = false →
                                (decide (Quot.tokens (Conf.quotas c) < (1 : Int)) = true →
                                    Value.tuple (Array.mk [Value.int IntKind.i64 (0 : Int), Value.int IntKind.i64 (1 : Int)]) = twoV (quotsR c)) ∧
                                  (decide (Quot.tokens (Conf.quotas c) < (1 : Int)) = false →
                                    (decide (Quot.tokens (Conf.quotas c) > (1000 : Int)) = true →
                                        Value.tuple (Array.mk [Value.int IntKind.i64 (0 : Int), Value.int IntKind.i64 (1 : Int)]) = twoV (quotsR c)) ∧
                                      (decide (Quot.tokens (Conf.quotas c) > (1000 : Int)) = false →
                                        (decide (Quot.whole (Conf.quotas c) < (1 : Int)) = true →
                                            Value.tuple (Array.mk [Value.int IntKind.i64 (0 : Int), Value.int IntKind.i64 (1 : Int)]) = twoV (quotsR c)) ∧
                                          (decide (Quot.whole (Conf.quotas c) < (1 : Int)) = false →
                                            (decide (Quot.whole (Conf.quotas c) > (1000 : Int)) = true →
                                                Value.tuple (Array.mk [Value.int IntKind.i64 (0 : Int), Value.int IntKind.i64 (1 : Int)]) = twoV (quotsR c)) ∧
                                              (decide (Quot.whole (Conf.quotas c) > (1000 : Int)) = false →
                                                (decide (Quot.idle (Conf.quotas c) < (1 : Int)) = true →
                                                    Value.tuple (Array.mk [Value.int IntKind.i64 (0 : Int), Value.int IntKind.i64 (1 : Int)]) = twoV (quotsR c)) ∧
                                                  (decide (Quot.idle (Conf.quotas c) < (1 : Int)) = false →
                                                    (decide (Quot.idle (Conf.quotas c) > (1000 : Int)) = true →
                                                        Value.tuple (Array.mk [Value.int IntKind.i64 (0 : Int), Value.int IntKind.i64 (1 : Int)]) = twoV (quotsR c)) ∧
                                                      (decide (Quot.idle (Conf.quotas c) > (1000 : Int)) = false →
                                                        (decide (Quot.open_ (Conf.quotas c) < (1 : Int)) = true →
                                                            Value.tuple (Array.mk [Value.int IntKind.i64 (0 : Int), Value.int IntKind.i64 (1 : Int)]) = twoV (quotsR c)) ∧
                                                          (decide (Quot.open_ (Conf.quotas c) < (1 : Int)) = false →
                                                            (decide (Quot.open_ (Conf.quotas c) > (1000 : Int)) = true →
                                                                Value.tuple (Array.mk [Value.int IntKind.i64 (0 : Int), Value.int IntKind.i64 (1 : Int)]) = twoV (quotsR c)) ∧
                                                              (decide (Quot.open_ (Conf.quotas c) > (1000 : Int)) = false →
                                                                (decide (Quot.bytes (Conf.quotas c) < (1 : Int)) = true →
                                                                    Value.tuple (Array.mk [Value.int IntKind.i64 (0 : Int), Value.int IntKind.i64 (1 : Int)]) = twoV (quotsR c)) ∧
                                                                  (decide (Quot.bytes (Conf.quotas c) < (1 : Int)) = false →
                                                                    (decide (Quot.bytes (Conf.quotas c) > (65535 : Int)) = true →
                                                                        Value.tuple (Array.mk [Value.int IntKind.i64 (0 : Int), Value.int IntKind.i64 (1 : Int)]) = twoV (quotsR c)) ∧
                                                                      (decide (Quot.bytes (Conf.quotas c) > (65535 : Int)) = false →
                                                                        Value.tuple (Array.mk [Value.int IntKind.i64 (0 : Int), Value.int IntKind.i64 (0 : Int)]) = twoV (quotsR c)))))))))))))))))))) (by kernel_rfl) (by
    simp only [twoV, Value.tuple.injEq, Array.mk.injEq, List.cons.injEq, Value.int.injEq, and_true, true_and]
    repeat' (first | rfl | apply And.intro | intro)
    all_goals grind [quotsR, quotsB, quotaB])
theorem faces_w (c : Conf) (hl : ConfLen c) (ha : AddrOK c) : CallK Try.prog 54 [vpt 0 (Array.mk (lookL c))] (twoV (facesR c)) :=
  CallK.via progOK (pfs []) [] 100 (Adv.loop (12 : Nat) (fun (k : Nat) => [((13 : Nat), Value.int IntKind.i64 (↑k : Int))]) ((fun (h : Heap) (x : Nat) => h) (Heap.mk (nat_lit 0) Trie.leaf))
  (fun (i k : Nat) => i + k = List.length (Conf.faces c) ∧ ∀ (j : Nat), j < k → faceE c (List.take j (Conf.faces c)) (List.getD (Conf.faces c) j default) = (0 : Int)) (List.length (Conf.faces c))
  (0 : Nat) fun (i12 s12 : Nat) (j12 : Nat → Value) =>
  Adv.split (14 : Nat)
    (Adv.chk (20 : Nat) none
      (Adv.chk (21 : Nat) (some (Value.agg (Array.mk (faceL (List.getD (Conf.faces c) s12 default)))))
        (Adv.chk (34 : Nat) (some (vsl (↑(List.length (List.take s12 (Conf.faces c))) : Int) (Array.mk (facesL (List.take s12 (Conf.faces c))))))
          (Adv.pur (35 : Nat) (Value.int IntKind.i64 (faceE c (List.take s12 (Conf.faces c)) (List.getD (Conf.faces c) s12 default))) (Adv.split (39 : Nat) Adv.nil Adv.nil)))))
    Adv.nil) (by kernel_rfl) (by kernel_rfl) (p := ((List.length (Conf.faces c) + (0 : Nat) = List.length (Conf.faces c) ∧ ∀ (j : Nat), j < (0 : Nat) → faceE c (List.take j (Conf.faces c)) (List.getD (Conf.faces c) j default) = (0 : Int)) ∧
    Value.int IntKind.i64 (0 : Int) = Value.int IntKind.i64 (0 : Int) ∧ Heap.mk (nat_lit 0) Trie.leaf = Heap.mk (nat_lit 0) Trie.leaf) ∧
  ∀ (i12 s12 : Nat) (j12 : Nat → Value),
    (i12 + s12 = List.length (Conf.faces c) ∧ ∀ (j : Nat), j < s12 → faceE c (List.take j (Conf.faces c)) (List.getD (Conf.faces c) j default) = (0 : Int)) →
      (decide ((↑s12 : Int) < (↑(List.length (Conf.faces c)) : Int)) = true →
          ((0 : Int) ≤ (↑s12 : Int) ∧ (↑s12 : Int) < (↑(List.length (Conf.faces c)) : Int)) ∧
            Ask.holds Try.prog
                (Ask.part (Array.toList (Array.mk (facesL (Conf.faces c)))) (Int.toNat (↑(Int.toNat (↑s12 : Int) * nat_lit 97) : Int)) (nat_lit 97) (faceL (List.getD (Conf.faces c) s12 default))) ∧
              (Ask.holds Try.prog
                    (Ask.get
                      [Value.iface (nat_lit 1000000)
                          (Value.tuple
                            (Array.mk
                              [Value.int IntKind.i64 ((↑s12 : Int) - (0 : Int)),
                                Value.agg
                                  (Array.mk
                                    (List.take (Int.toNat ((↑s12 : Int) - (0 : Int)) * nat_lit 97)
                                      (List.drop (Int.toNat (0 : Int) * nat_lit 97) (Array.toList (Array.mk (facesL (Conf.faces c)))))))]))]
                      (nat_lit 0)
                      (Value.iface (nat_lit 1000000)
                        (Value.tuple (Array.mk [Value.int IntKind.i64 (↑(List.length (List.take s12 (Conf.faces c))) : Int), Value.agg (Array.mk (facesL (List.take s12 (Conf.faces c))))])))) ∧
                  (0 : Int) ≤ (0 : Int) ∧ (0 : Int) ≤ (↑s12 : Int) ∧ (↑s12 : Int) ≤ (↑(List.length (Conf.faces c)) : Int)) ∧
                CallK Try.prog (nat_lit 98)
                    [Value.iface (nat_lit 1000001) (Value.tuple (Array.mk [Value.int IntKind.i64 (0 : Int), Value.agg (Array.mk (lookL c))])),
                      Value.agg (Array.mk (faceL (List.getD (Conf.faces c) s12 default))),
                      Value.iface (nat_lit 1000000)
                        (Value.tuple (Array.mk [Value.int IntKind.i64 (↑(List.length (List.take s12 (Conf.faces c))) : Int), Value.agg (Array.mk (facesL (List.take s12 (Conf.faces c))))]))]
                    (Value.int IntKind.i64 (faceE c (List.take s12 (Conf.faces c)) (List.getD (Conf.faces c) s12 default))) ∧
                  ((faceE c (List.take s12 (Conf.faces c)) (List.getD (Conf.faces c) s12 default) != (0 : Int)) = true →
                      Value.tuple (Array.mk [Value.int IntKind.i64 (↑s12 : Int), Value.int IntKind.i64 (faceE c (List.take s12 (Conf.faces c)) (List.getD (Conf.faces c) s12 default))]) =
                        twoV (facesR c)) ∧
                    ((faceE c (List.take s12 (Conf.faces c)) (List.getD (Conf.faces c) s12 default) != (0 : Int)) = false →
                      ∃ (i12' : Nat),
                        ∃ (s12' : Nat),
                          i12' < i12 ∧
                            (i12' + s12' = List.length (Conf.faces c) ∧ ∀ (j : Nat), j < s12' → faceE c (List.take j (Conf.faces c)) (List.getD (Conf.faces c) j default) = (0 : Int)) ∧
                              Value.int IntKind.i64 (IntKind.wrap IntKind.i64 ((↑s12 : Int) + (1 : Int))) = Value.int IntKind.i64 (↑s12' : Int) ∧ True ∧ true = true ∧ True)) ∧
        (decide ((↑s12 : Int) < (↑(List.length (Conf.faces c)) : Int)) = false → Value.tuple (Array.mk [Value.int IntKind.i64 (0 : Int), Value.int IntKind.i64 (0 : Int)]) = twoV (facesR c))) (by kernel_rfl) (by
    refine ⟨⟨⟨by omega, fun j hj => by omega⟩, rfl, rfl⟩, fun i k j ⟨q1, q2⟩ => ⟨fun h1 => ?_, fun h1 => ?_⟩⟩
    · have hk : k < c.faces.length := by have := of_decide_eq_true h1; omega
      have hx := ha _ (getD_mem (d := default) hk)
      have hf := hl.faces
      refine ⟨⟨by omega, by omega⟩, faces_part hk 0 97 (by omega) rfl rfl, ⟨slice_take faceL_length (by omega), by omega, by omega, by omega⟩, face_w c _ _ (by rw [List.length_take]; omega) hx.1 hx.2, fun h2 => ?_, fun h2 => ⟨i - 1, k + 1, by omega, ⟨by omega, lt_next q2 (by simpa using h2)⟩, wrap_next k (by omega), trivial, rfl, trivial⟩⟩
      have hb : faceE c (c.faces.take k) (c.faces.getD k default) ≠ 0 := by simpa using h2
      unfold facesR; rw [firstBad0_at hk hb q2]; rfl
    · have hk : k = c.faces.length := by have := of_decide_eq_false h1; omega
      subst hk
      unfold facesR; rw [firstBad0_none q2]; rfl)
theorem routs_w (c : Conf) (hl : ConfLen c) : CallK Try.prog 57 [vpt 0 (Array.mk (lookL c))] (twoV (routsR c)) :=
  CallK.via progOK (pfs []) [] 100 (Adv.loop (12 : Nat) (fun (k : Nat) => [((13 : Nat), Value.int IntKind.i64 (↑k : Int))]) ((fun (h : Heap) (x : Nat) => h) (Heap.mk (nat_lit 0) Trie.leaf))
  (fun (i k : Nat) => i + k = List.length (Conf.routes c) ∧ ∀ (j : Nat), j < k → routE c j = (0 : Int)) (List.length (Conf.routes c)) (0 : Nat) fun (i12 s12 : Nat) (j12 : Nat → Value) =>
  Adv.split (14 : Nat)
    (Adv.chk (20 : Nat) none
      (Adv.chk (21 : Nat) (some (Value.agg (Array.mk (routL (List.getD (Conf.routes c) s12 default)))))
        (Adv.purs (31 : Nat) (pfxR (Rout.to (List.getD (Conf.routes c) s12 default)))
          (Adv.split (38 : Nat) Adv.nil
            (Adv.split (48 : Nat) Adv.nil
              (Adv.chk (59 : Nat) (some (vsl (↑(List.length (List.take s12 (Conf.routes c))) : Int) (Array.mk (routsL (List.take s12 (Conf.routes c))))))
                (Adv.bors (61 : Nat) (List.any (List.take s12 (Conf.routes c)) fun (q : Rout) => pfxEq (Rout.to q) (Rout.to (List.getD (Conf.routes c) s12 default))) Adv.nil Adv.nil))))
          Adv.nil)))
    Adv.nil) (by kernel_rfl) (by kernel_rfl) (p := ((List.length (Conf.routes c) + (0 : Nat) = List.length (Conf.routes c) ∧ ∀ (j : Nat), j < (0 : Nat) → routE c j = (0 : Int)) ∧
    Value.int IntKind.i64 (0 : Int) = Value.int IntKind.i64 (0 : Int) ∧ Heap.mk (nat_lit 0) Trie.leaf = Heap.mk (nat_lit 0) Trie.leaf) ∧
  ∀ (i12 s12 : Nat) (j12 : Nat → Value),
    (i12 + s12 = List.length (Conf.routes c) ∧ ∀ (j : Nat), j < s12 → routE c j = (0 : Int)) →
      (decide ((↑s12 : Int) < (↑(List.length (Conf.routes c)) : Int)) = true →
          ((0 : Int) ≤ (↑s12 : Int) ∧ (↑s12 : Int) < (↑(List.length (Conf.routes c)) : Int)) ∧
            Ask.holds Try.prog
                (Ask.part (Array.toList (Array.mk (routsL (Conf.routes c)))) (Int.toNat (↑(Int.toNat (↑s12 : Int) * nat_lit 3) : Int)) (nat_lit 3) (routL (List.getD (Conf.routes c) s12 default))) ∧
              CallK Try.prog (nat_lit 106) [Value.agg (Array.mk (pfxL (Rout.to (List.getD (Conf.routes c) s12 default))))] (Value.bool (pfxR (Rout.to (List.getD (Conf.routes c) s12 default)))) ∧
                (pfxR (Rout.to (List.getD (Conf.routes c) s12 default)) = true →
                    (decide (Rout.out (List.getD (Conf.routes c) s12 default) < (0 : Int)) = true →
                        Value.tuple (Array.mk [Value.int IntKind.i64 (↑s12 : Int), Value.int IntKind.i64 (1 : Int)]) = twoV (routsR c)) ∧
                      (decide (Rout.out (List.getD (Conf.routes c) s12 default) < (0 : Int)) = false →
                        (decide (Rout.out (List.getD (Conf.routes c) s12 default) ≥ (↑(List.length (Conf.faces c)) : Int)) = true →
                            Value.tuple (Array.mk [Value.int IntKind.i64 (↑s12 : Int), Value.int IntKind.i64 (1 : Int)]) = twoV (routsR c)) ∧
                          (decide (Rout.out (List.getD (Conf.routes c) s12 default) ≥ (↑(List.length (Conf.faces c)) : Int)) = false →
                            (Ask.holds Try.prog
                                  (Ask.get
                                    [Value.iface (nat_lit 1000000)
                                        (Value.tuple
                                          (Array.mk
                                            [Value.int IntKind.i64 ((↑s12 : Int) - (0 : Int)),
                                              Value.agg
                                                (Array.mk
                                                  (List.take (Int.toNat ((↑s12 : Int) - (0 : Int)) * nat_lit 3)
                                                    (List.drop (Int.toNat (0 : Int) * nat_lit 3) (Array.toList (Array.mk (routsL (Conf.routes c)))))))]))]
                                    (nat_lit 0)
                                    (Value.iface (nat_lit 1000000)
                                      (Value.tuple
                                        (Array.mk [Value.int IntKind.i64 (↑(List.length (List.take s12 (Conf.routes c))) : Int), Value.agg (Array.mk (routsL (List.take s12 (Conf.routes c))))])))) ∧
                                (0 : Int) ≤ (0 : Int) ∧ (0 : Int) ≤ (↑s12 : Int) ∧ (↑s12 : Int) ≤ (↑(List.length (Conf.routes c)) : Int)) ∧
                              CallK Try.prog (nat_lit 107)
                                  [Value.iface (nat_lit 1000000)
                                      (Value.tuple
                                        (Array.mk [Value.int IntKind.i64 (↑(List.length (List.take s12 (Conf.routes c))) : Int), Value.agg (Array.mk (routsL (List.take s12 (Conf.routes c))))])),
                                    Value.func (Fn.func (nat_lit 105)) (Array.mk [])
                                      (Array.mk
                                        [Value.iface (nat_lit 1000001)
                                            (Value.tuple (Array.mk [Value.int IntKind.i64 (0 : Int), Value.agg (Array.mk (routL (List.getD (Conf.routes c) s12 default)))]))])]
                                  (Value.bool (List.any (List.take s12 (Conf.routes c)) fun (q : Rout) => pfxEq (Rout.to q) (Rout.to (List.getD (Conf.routes c) s12 default)))) ∧
                                ((List.any (List.take s12 (Conf.routes c)) fun (q : Rout) => pfxEq (Rout.to q) (Rout.to (List.getD (Conf.routes c) s12 default))) = true →
                                    Value.tuple (Array.mk [Value.int IntKind.i64 (↑s12 : Int), Value.int IntKind.i64 (7 : Int)]) = twoV (routsR c)) ∧
                                  ((List.any (List.take s12 (Conf.routes c)) fun (q : Rout) => pfxEq (Rout.to q) (Rout.to (List.getD (Conf.routes c) s12 default))) = false →
                                    ∃ (i12' : Nat),
                                      ∃ (s12' : Nat),
                                        i12' < i12 ∧
                                          (i12' + s12' = List.length (Conf.routes c) ∧ ∀ (j : Nat), j < s12' → routE c j = (0 : Int)) ∧
                                            Value.int IntKind.i64 (IntKind.wrap IntKind.i64 ((↑s12 : Int) + (1 : Int))) = Value.int IntKind.i64 (↑s12' : Int) ∧ True ∧ true = true ∧ True)))) ∧
                  (pfxR (Rout.to (List.getD (Conf.routes c) s12 default)) = false → Value.tuple (Array.mk [Value.int IntKind.i64 (↑s12 : Int), Value.int IntKind.i64 (3 : Int)]) = twoV (routsR c))) ∧
        (decide ((↑s12 : Int) < (↑(List.length (Conf.routes c)) : Int)) = false → Value.tuple (Array.mk [Value.int IntKind.i64 (0 : Int), Value.int IntKind.i64 (0 : Int)]) = twoV (routsR c))) (by kernel_rfl) (by
    refine ⟨⟨⟨by omega, fun j hj => by omega⟩, rfl, rfl⟩, fun i k j ⟨q1, q2⟩ => ⟨fun h1 => ?_, fun h1 => ?_⟩⟩
    · have hk : k < c.routes.length := by have := of_decide_eq_true h1; omega
      have hf := hl.routes
      have bad : ∀ {e : Int}, routE c k = e → e ≠ 0 → Value.tuple (Array.mk [.int .i64 k, .int .i64 e]) = twoV (routsR c) := fun h hne => by
        unfold routsR; rw [firstBad0_at hk (by rw [h]; exact hne) q2, h]; rfl
      refine ⟨⟨by omega, by omega⟩, routs_part hk 0 3 (by omega) rfl rfl, pfxRight_w _, fun h2 => ⟨fun h3 => ?_, fun h3 => ⟨fun h4 => ?_, fun h4 => ⟨⟨slice_take routL_length (by omega), by omega, by omega, by omega⟩, anyRout_w _ _ (by rw [List.length_take]; omega), fun h5 => ?_, fun h5 => ⟨i - 1, k + 1, by omega, ⟨by omega, lt_next q2 ?_⟩, wrap_next k (by omega), trivial, rfl, trivial⟩⟩⟩⟩, fun h2 => ?_⟩
      · refine bad ?_ (by decide)
        unfold routE; rw [if_neg (by rw [h2]; decide), if_pos (.inl (of_decide_eq_true h3))]
      · refine bad ?_ (by decide)
        unfold routE; rw [if_neg (by rw [h2]; decide), if_pos (.inr (of_decide_eq_true h4))]
      · refine bad ?_ (by decide)
        have a1 := of_decide_eq_false h3
        have a2 := of_decide_eq_false h4
        unfold routE; rw [if_neg (by rw [h2]; decide), if_neg (by omega), if_pos h5]
      · have a1 := of_decide_eq_false h3
        have a2 := of_decide_eq_false h4
        unfold routE; rw [if_neg (by rw [h2]; decide), if_neg (by omega), if_neg (by rw [h5]; decide)]
      · refine bad ?_ (by decide)
        unfold routE; rw [if_pos h2]
    · have hk : k = c.routes.length := by have := of_decide_eq_false h1; omega
      subst hk
      unfold routsR; rw [firstBad0_none q2]; rfl)
/-- What is wrong with a config, and where. -/
def checkR (c : Conf) : Int × Int := if (countsR c).2 ≠ 0 then countsR c else if (lblsChk c.labels).2 ≠ 0 then lblsChk c.labels else if c.labels.length = 0 then (0, 6)
  else if (domsR c).2 ≠ 0 then domsR c else if (facesR c).2 ≠ 0 then facesR c else if (lensR c).2 ≠ 0 then lensR c else if (rulesR c).2 ≠ 0 then rulesR c else if (routsR c).2 ≠ 0 then routsR c else if (quotsR c).2 ≠ 0 then quotsR c else (0, 0)
def rightC (c : Conf) : Bool := (checkR c).2 == 0
theorem check_w (c : Conf) (hl : ConfLen c) (ha : AddrOK c) : CallK Try.prog 17 [confV c] (twoV (checkR c)) :=
  CallK.via progOK (pfs []) [] 100 (Adv.bor (39 : Nat) (Value.tuple (Array.mk [Value.int IntKind.i64 (0 : Int), Value.int IntKind.i64 (Prod.snd (countsR c))]))
  (Adv.split (47 : Nat) Adv.nil
    (Adv.cas (71 : Nat) (okT (Conf.labels c))
      (Adv.pur (71 : Nat)
        (Value.tuple
          (Array.mk
            [Value.iface (nat_lit 1000001)
                (Value.tuple
                  (Array.mk
                    [Value.int IntKind.i64 (0 : Int),
                      Value.agg
                        (Array.mk
                          [Value.iface (nat_lit 1000000) (Value.tuple (Array.mk [Value.int IntKind.i64 (↑(List.length (Conf.labels c)) : Int), Value.agg (Array.mk (lblsL (Conf.labels c)))])),
                            Value.iface (nat_lit 1000004) (Value.tuple (Array.mk [Value.agg (Array.mk (lblKeys (Conf.labels c))), Value.agg (Array.mk (nums (List.length (Conf.labels c))))]))])])),
              Value.int IntKind.i64 (↑(List.length (Conf.labels c)) : Int), Value.int IntKind.i64 (0 : Int)]))
        (Adv.split (102 : Nat) Adv.nil
          (Adv.bor (135 : Nat) (Value.tuple (Array.mk [Value.int IntKind.i64 (Prod.fst (domsR c)), Value.int IntKind.i64 (Prod.snd (domsR c))]))
            (Adv.split (143 : Nat) Adv.nil
              (Adv.bor (157 : Nat) (Value.tuple (Array.mk [Value.int IntKind.i64 (Prod.fst (facesR c)), Value.int IntKind.i64 (Prod.snd (facesR c))]))
                (Adv.split (165 : Nat) Adv.nil
                  (Adv.bor (179 : Nat) (Value.tuple (Array.mk [Value.int IntKind.i64 (0 : Int), Value.int IntKind.i64 (Prod.snd (lensR c))]))
                    (Adv.split (187 : Nat) Adv.nil
                      (Adv.bor (201 : Nat) (Value.tuple (Array.mk [Value.int IntKind.i64 (Prod.fst (rulesR c)), Value.int IntKind.i64 (Prod.snd (rulesR c))]))
                        (Adv.split (209 : Nat) Adv.nil
                          (Adv.bor (223 : Nat) (Value.tuple (Array.mk [Value.int IntKind.i64 (Prod.fst (routsR c)), Value.int IntKind.i64 (Prod.snd (routsR c))]))
                            (Adv.split (231 : Nat) Adv.nil
                              (Adv.bor (245 : Nat) (Value.tuple (Array.mk [Value.int IntKind.i64 (0 : Int), Value.int IntKind.i64 (Prod.snd (quotsR c))]))
                                (Adv.split (253 : Nat) Adv.nil Adv.nil))))))))))))))
      (Adv.pur (71 : Nat) (Value.tuple (Array.mk [Value.pointer none, Value.int IntKind.i64 (Prod.fst (lblsChk (Conf.labels c))), Value.int IntKind.i64 (Prod.snd (lblsChk (Conf.labels c)))]))
        (Adv.split (82 : Nat) (Adv.put (97 : Nat) (Value.bool true) Adv.nil) Adv.nil))))) (by kernel_rfl) (by kernel_rfl) (p := CallK Try.prog (nat_lit 51) [Value.iface (nat_lit 1000001) (Value.tuple (Array.mk [Value.int IntKind.i64 (0 : Int), Value.agg (Array.mk (look0 c))]))]
    (Value.tuple (Array.mk [Value.int IntKind.i64 (0 : Int), Value.int IntKind.i64 (Prod.snd (countsR c))])) ∧
  ((Prod.snd (countsR c) != (0 : Int)) = true → Value.tuple (Array.mk [Value.int IntKind.i64 (0 : Int), Value.int IntKind.i64 (Prod.snd (countsR c))]) = twoV (checkR c)) ∧
    ((Prod.snd (countsR c) != (0 : Int)) = false →
      (okT (Conf.labels c) = true →
          CallK Try.prog (nat_lit 72)
              [Value.iface (nat_lit 1000000) (Value.tuple (Array.mk [Value.int IntKind.i64 (↑(List.length (Conf.labels c)) : Int), Value.agg (Array.mk (lblsL (Conf.labels c)))]))]
              (Value.tuple
                (Array.mk
                  [Value.iface (nat_lit 1000001)
                      (Value.tuple
                        (Array.mk
                          [Value.int IntKind.i64 (0 : Int),
                            Value.agg
                              (Array.mk
                                [Value.iface (nat_lit 1000000) (Value.tuple (Array.mk [Value.int IntKind.i64 (↑(List.length (Conf.labels c)) : Int), Value.agg (Array.mk (lblsL (Conf.labels c)))])),
                                  Value.iface (nat_lit 1000004)
                                    (Value.tuple (Array.mk [Value.agg (Array.mk (lblKeys (Conf.labels c))), Value.agg (Array.mk (nums (List.length (Conf.labels c))))]))])])),
                    Value.int IntKind.i64 (↑(List.length (Conf.labels c)) : Int), Value.int IntKind.i64 (0 : Int)])) ∧
            (((↑(List.length (Conf.labels c)) : Int) == (0 : Int)) = true → Value.tuple (Array.mk [Value.int IntKind.i64 (0 : Int), Value.int IntKind.i64 (6 : Int)]) = twoV (checkR c)) ∧
              (((↑(List.length (Conf.labels c)) : Int) == (0 : Int)) = false →
                CallK Try.prog (nat_lit 53) [Value.iface (nat_lit 1000001) (Value.tuple (Array.mk [Value.int IntKind.i64 (0 : Int), Value.agg (Array.mk (lookL c))]))]
                    (Value.tuple (Array.mk [Value.int IntKind.i64 (Prod.fst (domsR c)), Value.int IntKind.i64 (Prod.snd (domsR c))])) ∧
                  ((Prod.snd (domsR c) != (0 : Int)) = true → Value.tuple (Array.mk [Value.int IntKind.i64 (Prod.fst (domsR c)), Value.int IntKind.i64 (Prod.snd (domsR c))]) = twoV (checkR c)) ∧
                    ((Prod.snd (domsR c) != (0 : Int)) = false →
                      CallK Try.prog (nat_lit 54) [Value.iface (nat_lit 1000001) (Value.tuple (Array.mk [Value.int IntKind.i64 (0 : Int), Value.agg (Array.mk (lookL c))]))]
                          (Value.tuple (Array.mk [Value.int IntKind.i64 (Prod.fst (facesR c)), Value.int IntKind.i64 (Prod.snd (facesR c))])) ∧
                        ((Prod.snd (facesR c) != (0 : Int)) = true →
                            Value.tuple (Array.mk [Value.int IntKind.i64 (Prod.fst (facesR c)), Value.int IntKind.i64 (Prod.snd (facesR c))]) = twoV (checkR c)) ∧
                          ((Prod.snd (facesR c) != (0 : Int)) = false →
                            CallK Try.prog (nat_lit 55) [Value.iface (nat_lit 1000001) (Value.tuple (Array.mk [Value.int IntKind.i64 (0 : Int), Value.agg (Array.mk (lookL c))]))]
                                (Value.tuple (Array.mk [Value.int IntKind.i64 (0 : Int), Value.int IntKind.i64 (Prod.snd (lensR c))])) ∧
                              ((Prod.snd (lensR c) != (0 : Int)) = true → Value.tuple (Array.mk [Value.int IntKind.i64 (0 : Int), Value.int IntKind.i64 (Prod.snd (lensR c))]) = twoV (checkR c)) ∧
                                ((Prod.snd (lensR c) != (0 : Int)) = false →
                                  CallK Try.prog (nat_lit 56) [Value.iface (nat_lit 1000001) (Value.tuple (Array.mk [Value.int IntKind.i64 (0 : Int), Value.agg (Array.mk (lookL c))]))]
                                      (Value.tuple (Array.mk [Value.int IntKind.i64 (Prod.fst (rulesR c)), Value.int IntKind.i64 (Prod.snd (rulesR c))])) ∧
                                    ((Prod.snd (rulesR c) != (0 : Int)) = true →
                                        Value.tuple (Array.mk [Value.int IntKind.i64 (Prod.fst (rulesR c)), Value.int IntKind.i64 (Prod.snd (rulesR c))]) = twoV (checkR c)) ∧
                                      ((Prod.snd (rulesR c) != (0 : Int)) = false →
                                        CallK Try.prog (nat_lit 57) [Value.iface (nat_lit 1000001) (Value.tuple (Array.mk [Value.int IntKind.i64 (0 : Int), Value.agg (Array.mk (lookL c))]))]
                                            (Value.tuple (Array.mk [Value.int IntKind.i64 (Prod.fst (routsR c)), Value.int IntKind.i64 (Prod.snd (routsR c))])) ∧
                                          ((Prod.snd (routsR c) != (0 : Int)) = true →
                                              Value.tuple (Array.mk [Value.int IntKind.i64 (Prod.fst (routsR c)), Value.int IntKind.i64 (Prod.snd (routsR c))]) = twoV (checkR c)) ∧
                                            ((Prod.snd (routsR c) != (0 : Int)) = false →
                                              CallK Try.prog (nat_lit 58) [Value.iface (nat_lit 1000001) (Value.tuple (Array.mk [Value.int IntKind.i64 (0 : Int), Value.agg (Array.mk (lookL c))]))]
                                                  (Value.tuple (Array.mk [Value.int IntKind.i64 (0 : Int), Value.int IntKind.i64 (Prod.snd (quotsR c))])) ∧
                                                ((Prod.snd (quotsR c) != (0 : Int)) = true →
                                                    Value.tuple (Array.mk [Value.int IntKind.i64 (0 : Int), Value.int IntKind.i64 (Prod.snd (quotsR c))]) = twoV (checkR c)) ∧
                                                  ((Prod.snd (quotsR c) != (0 : Int)) = false →
                                                    Value.tuple (Array.mk [Value.int IntKind.i64 (0 : Int), Value.int IntKind.i64 (0 : Int)]) = twoV (checkR c))))))))) ∧
        (okT (Conf.labels c) = false →
          CallK Try.prog (nat_lit 72)
              [Value.iface (nat_lit 1000000) (Value.tuple (Array.mk [Value.int IntKind.i64 (↑(List.length (Conf.labels c)) : Int), Value.agg (Array.mk (lblsL (Conf.labels c)))]))]
              (Value.tuple (Array.mk [Value.pointer none, Value.int IntKind.i64 (Prod.fst (lblsChk (Conf.labels c))), Value.int IntKind.i64 (Prod.snd (lblsChk (Conf.labels c)))])) ∧
            ((Prod.snd (lblsChk (Conf.labels c)) != (0 : Int)) = true →
                Value.bool (Prod.snd (lblsChk (Conf.labels c)) != (0 : Int)) = Value.bool true ∧
                  Value.tuple (Array.mk [Value.int IntKind.i64 (Prod.fst (lblsChk (Conf.labels c))), Value.int IntKind.i64 (Prod.snd (lblsChk (Conf.labels c)))]) = twoV (checkR c)) ∧
              ((Prod.snd (lblsChk (Conf.labels c)) != (0 : Int)) = false → Value.tuple (Array.mk [Value.int IntKind.i64 (0 : Int), Value.int IntKind.i64 (6 : Int)]) = twoV (checkR c))))) (by kernel_rfl) (by
    have e1 : (countsR c).1 = 0 := rfl
    have e2 : (lensR c).1 = 0 := rfl
    have e3 : (quotsR c).1 = 0 := rfl
    simp only [twoV, Value.tuple.injEq, Array.mk.injEq, List.cons.injEq, Value.int.injEq, Value.bool.injEq, and_true, true_and]
    repeat' (first | exact counts_w _ | exact tblNew_t _ hl.labels (by assumption) | exact tblNew_f _ hl.labels (by assumption) | exact doms_w _ hl | exact faces_w _ hl ha | exact lens_w _ | exact rules_w _ hl | exact routs_w _ hl | exact quots_w _ | rfl | apply And.intro | intro)
    all_goals grind [checkR, okT])
theorem right17_w (c : Conf) (hl : ConfLen c) (ha : AddrOK c) : CallK Try.prog 19 [confV c] (.bool (rightC c)) :=
  CallK.via progOK (pfs []) [] 100 (Adv.pur (5 : Nat) (Value.tuple (Array.mk [Value.int IntKind.i64 (Prod.fst (checkR c)), Value.int IntKind.i64 (Prod.snd (checkR c))])) (Adv.split (13 : Nat) Adv.nil Adv.nil)) (by kernel_rfl) (by kernel_rfl) (p := CallK Try.prog (nat_lit 17) [Value.agg (Array.mk (confL c))] (Value.tuple (Array.mk [Value.int IntKind.i64 (Prod.fst (checkR c)), Value.int IntKind.i64 (Prod.snd (checkR c))])) ∧
  ((Prod.snd (checkR c) == (0 : Int)) = true → Value.bool true = Value.bool (rightC c)) ∧ ((Prod.snd (checkR c) == (0 : Int)) = false → Value.bool false = Value.bool (rightC c))) (by kernel_rfl) (by
    simp only [Value.bool.injEq]
    repeat' (first | exact check_w _ hl ha | rfl | apply And.intro | intro)
    all_goals grind [rightC])
end Go.Proofs.Ytepijhnfeafmaaa

end
section
/- What the document's answer says of configs. -/
set_option linter.unusedVariables false
set_option linter.unusedSimpArgs false
set_option maxRecDepth 100000
namespace Go.Proofs.Ytepijhnfeafmaaa
open Go Go.Ideal
theorem beq_flip (a b : Int) : (a == b) = (b == a) := Bool.eq_iff_iff.2 ⟨fun h => by simpa using (beq_iff_eq.1 h).symm, fun h => by simpa using (beq_iff_eq.1 h).symm⟩
theorem catsEq_comm (a b : List Int) : catsEq a b = catsEq b a := by
  rw [catsEq_all, catsEq_all]
  exact congrArg _ (funext fun i => beq_flip _ _)
theorem lblEq_comm (x y : Lbl) : lblEq x y = lblEq y x := by
  unfold lblEq; rw [catsEq_comm, beq_flip]
theorem pfxEq_comm (x y : Pfx) : pfxEq x y = pfxEq y x := by
  unfold pfxEq; rw [beq_flip x.addr, beq_flip x.bits]
theorem findL_key (xs : List Lbl) (x : Lbl) : (findL xs x < 0) = (keyHas xs x = false) := by
  have e : findL xs x = idxB xs fun y => lblEq y x := rfl
  have e2 : keyHas xs x = xs.any fun y => lblEq y x := by unfold keyHas; exact congrArg _ (funext fun y => lblEq_comm _ _)
  rw [e, e2, ← anyB_idx]
  exact propext ⟨fun h => decide_eq_false (by omega), fun h => by have := of_decide_eq_false h; omega⟩
theorem lbls_part1 {xs : List Lbl} {k : Nat} (hk : k < xs.length) (r m : Nat) (hr : r + m ≤ 31) {o : Nat} (ho : o = k * 31 + r) {out : List Value} (e : ((lblL (xs.getD k default)).drop r).take m = out) : (Ask.part (lblsL xs) o m out).holds Try.prog := by
  subst ho; exact cellsOf_part (P := Try.prog) (f := lblL) lblL_length default hk r m hr out e
theorem refChk_w (xs : List Lbl) (hl : xs.length ≤ 1099511627776) : CallK Try.prog 59 [lblsV xs] (twoV (lblsChk xs)) :=
  CallK.via progOK (pfs []) [] 100 (Adv.loop (6 : Nat) (fun (k : Nat) => [((4 : Nat), Value.int IntKind.i64 (↑k : Int))]) ((fun (h : Heap) (x : Nat) => h) (Heap.mk (nat_lit 0) Trie.leaf))
  (fun (i k : Nat) => i + k = List.length xs ∧ k ≤ (16 : Nat) ∧ ∀ (j : Nat), j < k → lblBad xs j = (0 : Int)) (List.length xs) (0 : Nat) fun (i6 s6 : Nat) (j6 : Nat → Value) =>
  Adv.split (12 : Nat)
    (Adv.chk (19 : Nat) none
      (Adv.chk (21 : Nat) (some (Value.int IntKind.i64 (Lbl.level (List.getD xs s6 default))))
        (Adv.split (22 : Nat) Adv.nil
          (Adv.chk (26 : Nat) none
            (Adv.chk (28 : Nat) (some (Value.int IntKind.i64 (Lbl.level (List.getD xs s6 default))))
              (Adv.split (29 : Nat) Adv.nil
                (Adv.split (35 : Nat) Adv.nil
                  (Adv.loop (39 : Nat) (fun (k : Nat) => [((5 : Nat), Value.int IntKind.i64 (↑k : Int))]) ((fun (h : Heap) (x : Nat) => h) (Heap.mk (nat_lit 0) Trie.leaf))
                    (fun (i k : Nat) => i + k = s6 ∧ ∀ (j : Nat), j < k → lblEq (List.getD xs j default) (List.getD xs s6 default) = false) s6 (0 : Nat) fun (i39 s39 : Nat) (j39 : Nat → Value) =>
                    Adv.split (44 : Nat)
                      (Adv.chk (50 : Nat) none
                        (Adv.chk (51 : Nat) (some (Value.agg (Array.mk (lblL (List.getD xs s39 default)))))
                          (Adv.chk (54 : Nat) none
                            (Adv.chk (55 : Nat) (some (Value.agg (Array.mk (lblL (List.getD xs s6 default)))))
                              (Adv.chks (56 : Nat) (some (Value.bool (lblEq (List.getD xs s39 default) (List.getD xs s6 default)))) Adv.nil Adv.nil)))))
                      Adv.nil))))))))
    Adv.nil) (by kernel_rfl) (by kernel_rfl) (p := ((List.length xs + (0 : Nat) = List.length xs ∧ (0 : Nat) ≤ (16 : Nat) ∧ ∀ (j : Nat), j < (0 : Nat) → lblBad xs j = (0 : Int)) ∧
    Value.int IntKind.i64 (0 : Int) = Value.int IntKind.i64 (0 : Int) ∧ Heap.mk (nat_lit 0) Trie.leaf = Heap.mk (nat_lit 0) Trie.leaf) ∧
  ∀ (i6 s6 : Nat) (j6 : Nat → Value),
    (i6 + s6 = List.length xs ∧ s6 ≤ (16 : Nat) ∧ ∀ (j : Nat), j < s6 → lblBad xs j = (0 : Int)) →
      (decide ((↑s6 : Int) < (↑(List.length xs) : Int)) = true →
          ((0 : Int) ≤ (↑s6 : Int) ∧ (↑s6 : Int) < (↑(List.length xs) : Int)) ∧
            Ask.holds Try.prog
                (Ask.part (Array.toList (Array.mk (lblsL xs))) (Int.toNat (↑(Int.toNat (↑(Int.toNat (↑s6 : Int) * nat_lit 31) : Int) + nat_lit 0) : Int)) (nat_lit 1)
                  [Value.int IntKind.i64 (Lbl.level (List.getD xs s6 default))]) ∧
              (decide (Lbl.level (List.getD xs s6 default) < (0 : Int)) = true → Value.tuple (Array.mk [Value.int IntKind.i64 (↑s6 : Int), Value.int IntKind.i64 (1 : Int)]) = twoV (lblsChk xs)) ∧
                (decide (Lbl.level (List.getD xs s6 default) < (0 : Int)) = false →
                  ((0 : Int) ≤ (↑s6 : Int) ∧ (↑s6 : Int) < (↑(List.length xs) : Int)) ∧
                    Ask.holds Try.prog
                        (Ask.part (Array.toList (Array.mk (lblsL xs))) (Int.toNat (↑(Int.toNat (↑(Int.toNat (↑s6 : Int) * nat_lit 31) : Int) + nat_lit 0) : Int)) (nat_lit 1)
                          [Value.int IntKind.i64 (Lbl.level (List.getD xs s6 default))]) ∧
                      (decide (Lbl.level (List.getD xs s6 default) > (255 : Int)) = true →
                          Value.tuple (Array.mk [Value.int IntKind.i64 (↑s6 : Int), Value.int IntKind.i64 (1 : Int)]) = twoV (lblsChk xs)) ∧
                        (decide (Lbl.level (List.getD xs s6 default) > (255 : Int)) = false →
                          (decide ((↑s6 : Int) ≥ (16 : Int)) = true → Value.tuple (Array.mk [Value.int IntKind.i64 (↑s6 : Int), Value.int IntKind.i64 (5 : Int)]) = twoV (lblsChk xs)) ∧
                            (decide ((↑s6 : Int) ≥ (16 : Int)) = false →
                              ((s6 + (0 : Nat) = s6 ∧ ∀ (j : Nat), j < (0 : Nat) → lblEq (List.getD xs j default) (List.getD xs s6 default) = false) ∧
                                  Value.int IntKind.i64 (0 : Int) = Value.int IntKind.i64 (0 : Int) ∧ Heap.mk (nat_lit 0) Trie.leaf = Heap.mk (nat_lit 0) Trie.leaf) ∧
                                ∀ (i39 s39 : Nat) (j39 : Nat → Value),
                                  (i39 + s39 = s6 ∧ ∀ (j : Nat), j < s39 → lblEq (List.getD xs j default) (List.getD xs s6 default) = false) →
                                    (decide ((↑s39 : Int) < (↑s6 : Int)) = true →
                                        ((0 : Int) ≤ (↑s39 : Int) ∧ (↑s39 : Int) < (↑(List.length xs) : Int)) ∧
                                          Ask.holds Try.prog
                                              (Ask.part (Array.toList (Array.mk (lblsL xs))) (Int.toNat (↑(Int.toNat (↑s39 : Int) * nat_lit 31) : Int)) (nat_lit 31)
                                                (lblL (List.getD xs s39 default))) ∧
                                            ((0 : Int) ≤ (↑s6 : Int) ∧ (↑s6 : Int) < (↑(List.length xs) : Int)) ∧
                                              Ask.holds Try.prog
                                                  (Ask.part (Array.toList (Array.mk (lblsL xs))) (Int.toNat (↑(Int.toNat (↑s6 : Int) * nat_lit 31) : Int)) (nat_lit 31)
                                                    (lblL (List.getD xs s6 default))) ∧
                                                Ask.holds Try.prog
                                                    (Ask.eqv (nat_lit 44) (Value.agg (Array.mk (lblL (List.getD xs s39 default)))) (Value.agg (Array.mk (lblL (List.getD xs s6 default))))
                                                      (lblEq (List.getD xs s39 default) (List.getD xs s6 default))) ∧
                                                  (lblEq (List.getD xs s39 default) (List.getD xs s6 default) = true →
                                                      Value.tuple (Array.mk [Value.int IntKind.i64 (↑s6 : Int), Value.int IntKind.i64 (7 : Int)]) = twoV (lblsChk xs)) ∧
                                                    (lblEq (List.getD xs s39 default) (List.getD xs s6 default) = false →
                                                      ∃ (i39' : Nat),
                                                        ∃ (s39' : Nat),
                                                          i39' < i39 ∧
                                                            (i39' + s39' = s6 ∧ ∀ (j : Nat), j < s39' → lblEq (List.getD xs j default) (List.getD xs s6 default) = false) ∧
                                                              Value.int IntKind.i64 (IntKind.wrap IntKind.i64 ((↑s39 : Int) + (1 : Int))) = Value.int IntKind.i64 (↑s39' : Int) ∧
                                                                True ∧ true = true ∧ True)) ∧
                                      (decide ((↑s39 : Int) < (↑s6 : Int)) = false →
                                        ∃ (i6' : Nat),
                                          ∃ (s6' : Nat),
                                            i6' < i6 ∧
                                              (i6' + s6' = List.length xs ∧ s6' ≤ (16 : Nat) ∧ ∀ (j : Nat), j < s6' → lblBad xs j = (0 : Int)) ∧
                                                Value.int IntKind.i64 (IntKind.wrap IntKind.i64 ((↑s6 : Int) + (1 : Int))) = Value.int IntKind.i64 (↑s6' : Int) ∧ True ∧ true = true ∧ True))))) ∧
        (decide ((↑s6 : Int) < (↑(List.length xs) : Int)) = false → Value.tuple (Array.mk [Value.int IntKind.i64 (↑(List.length xs) : Int), Value.int IntKind.i64 (0 : Int)]) = twoV (lblsChk xs))) (by kernel_rfl) (by
    have bad : ∀ {k : Nat} {e : Int}, k < xs.length → (∀ j, j < k → lblBad xs j = 0) → lblBad xs k = e → e ≠ 0 → Value.tuple (Array.mk [.int .i64 k, .int .i64 e]) = twoV (lblsChk xs) := fun hk no h hne => by
      rw [lblsChk_at hk (by rw [h]; exact hne) no, h]; rfl
    refine ⟨⟨⟨by omega, by omega, fun j hj => by omega⟩, rfl, rfl⟩, fun i k j ⟨q1, q2, q3⟩ => ⟨fun h1 => ?_, fun h1 => ?_⟩⟩
    · have hk : k < xs.length := by have := of_decide_eq_true h1; omega
      refine ⟨⟨by omega, by omega⟩, lbls_part1 hk 0 1 (by omega) rfl rfl, fun h2 => ?_, fun h2 => ⟨⟨by omega, by omega⟩, lbls_part1 hk 0 1 (by omega) rfl rfl, fun h3 => ?_, fun h3 => ⟨fun h4 => ?_, fun h4 => ⟨⟨⟨by omega, fun j hj => by omega⟩, rfl, rfl⟩, fun i2 m j2 ⟨r1, r2⟩ => ⟨fun h5 => ?_, fun h5 => ?_⟩⟩⟩⟩⟩
      · exact bad hk q3 (bad1 (by unfold rightL; rw [decide_eq_false (by have := of_decide_eq_true h2; omega)]; rfl)) (by decide)
      · exact bad hk q3 (bad1 (by unfold rightL; rw [decide_eq_false (p := _ ≤ 255) (by have := of_decide_eq_true h3; omega)]; simp)) (by decide)
      · exact bad hk q3 (bad5 (by unfold rightL; rw [decide_eq_true (by have := of_decide_eq_false h2; omega), decide_eq_true (by have := of_decide_eq_false h3; omega)]; rfl) (by have := of_decide_eq_true h4; omega)) (by decide)
      · have hm : m < k := by have := of_decide_eq_true h5; omega
        refine ⟨⟨by omega, by omega⟩, lbls_part1 (k := m) (by omega) 0 31 (by omega) rfl rfl, ⟨by omega, by omega⟩, lbls_part1 hk 0 31 (by omega) rfl rfl, lblEq_eqD _ _, fun h6 => ?_, fun h6 => ⟨i2 - 1, m + 1, by omega, ⟨by omega, lt_next r2 h6⟩, wrap_next m (by omega), trivial, rfl, trivial⟩⟩
        exact bad hk q3 (bad7 (by unfold rightL; rw [decide_eq_true (by have := of_decide_eq_false h2; omega), decide_eq_true (by have := of_decide_eq_false h3; omega)]; rfl) (by have := of_decide_eq_false h4; omega) ((any_take default (by omega)).2 ⟨m, hm, by rw [lblEq_comm]; exact h6⟩)) (by decide)
      · have hm : m = k := by have := of_decide_eq_false h5; omega
        subst hm
        have a4 := of_decide_eq_false h4
        refine ⟨i - 1, m + 1, by omega, ⟨by omega, by omega, lt_next q3 (bad0 ?_ (by omega) (any_take_false default (by omega) fun j hj => by rw [lblEq_comm]; exact r2 j hj))⟩, wrap_next m (by omega), trivial, rfl, trivial⟩
        unfold rightL; rw [decide_eq_true (by have := of_decide_eq_false h2; omega), decide_eq_true (by have := of_decide_eq_false h3; omega)]; rfl
    · have hk : k = xs.length := by have := of_decide_eq_false h1; omega
      subst hk
      unfold lblsChk; rw [firstBad_none q3]; rfl)
end Go.Proofs.Ytepijhnfeafmaaa

end
section
/- What the document's answer says of configs: interfaces, and the whole. -/
set_option linter.unusedVariables false
set_option linter.unusedSimpArgs false
set_option maxRecDepth 100000
namespace Go.Proofs.Ytepijhnfeafmaaa
open Go Go.Ideal
def FaceOK (x : Face) : Prop := CatsOK x.lo.cats ∧ CatsOK x.hi.cats ∧ CatsOK x.dflt.cats
/-- Data as they are. -/
structure ConfOK (c : Conf) : Prop where
  len : ConfLen c
  addr : AddrOK c
  faces : ∀ x ∈ c.faces, FaceOK x
  dois : ∀ d ∈ c.dois, d.levels.length ≤ 1099511627776 ∧ d.cats.length ≤ 1099511627776
  relabels : ∀ r ∈ c.relabels, PfxOK r.src ∧ PfxOK r.dst
  rules : ∀ r ∈ c.rules, PfxOK r.src ∧ PfxOK r.dst
  routes : ∀ r ∈ c.routes, PfxOK r.to
theorem refFace_w (c : Conf) (i : Nat) (hi : i < c.faces.length) (h : ConfOK c) : CallK Try.prog 61 [confV c, .int .i64 i] (.int .i64 (faceE c (c.faces.take i) (c.faces.getD i default))) :=
  CallK.via progOK (pfs []) [] 100 (Adv.chk (7 : Nat) none
  (Adv.chk (8 : Nat) (some (Value.agg (Array.mk (faceL (List.getD (Conf.faces c) i default)))))
    (Adv.pur (15 : Nat) (Value.int IntKind.i64 (kindI (Face.addr (List.getD (Conf.faces c) i default))))
      (Adv.split (16 : Nat) Adv.nil
        (Adv.loop (21 : Nat) (fun (k : Nat) => [((6 : Nat), Value.int IntKind.i64 (↑k : Int))])
          ((fun (h : Heap) (x : Nat) => h)
            (Heap.mk (nat_lit 2)
              (Trie.node (some (Blk.cells (confL c) (nat_lit 31) Mode.fix)) (Trie.node (some (Blk.cells (faceL (List.getD (Conf.faces c) i default)) (nat_lit 46) Mode.fix)) Trie.leaf Trie.leaf)
                Trie.leaf)))
          (fun (a k : Nat) => a + k = i ∧ ∀ (j : Nat), j < k → (Face.addr (List.getD (Conf.faces c) j default) == Face.addr (List.getD (Conf.faces c) i default)) = false) i (0 : Nat)
          fun (i21 s21 : Nat) (j21 : Nat → Value) =>
          Adv.split (26 : Nat) (Adv.chk (33 : Nat) none (Adv.chk (35 : Nat) (some (Value.int IntKind.u32 (Face.addr (List.getD (Conf.faces c) s21 default)))) (Adv.split (38 : Nat) Adv.nil Adv.nil)))
            (Adv.split (32 : Nat) Adv.nil
              (Adv.split (36 : Nat) Adv.nil
                (Adv.split (41 : Nat) Adv.nil
                  (Adv.split (46 : Nat) Adv.nil
                    (Adv.split (51 : Nat)
                      (Adv.split (55 : Nat) Adv.nil
                        (Adv.split (62 : Nat) Adv.nil
                          (Adv.split (91 : Nat) Adv.nil
                            (Adv.split (97 : Nat) Adv.nil
                              (Adv.split (114 : Nat) Adv.nil
                                (Adv.split (120 : Nat) Adv.nil
                                  (Adv.split (137 : Nat) Adv.nil
                                    (Adv.split (143 : Nat) Adv.nil
                                      (Adv.purs (160 : Nat) (domL (Face.hi (List.getD (Conf.faces c) i default)) (Face.lo (List.getD (Conf.faces c) i default)))
                                        (Adv.purs (167 : Nat) (domL (Face.hi (List.getD (Conf.faces c) i default)) (Face.dflt (List.getD (Conf.faces c) i default)))
                                          (Adv.purs (175 : Nat) (domL (Face.dflt (List.getD (Conf.faces c) i default)) (Face.lo (List.getD (Conf.faces c) i default)))
                                            (Adv.pur (183 : Nat) (Value.int IntKind.i64 (findL (Conf.labels c) (Face.dflt (List.getD (Conf.faces c) i default))))
                                              (Adv.split (184 : Nat) Adv.nil
                                                (Adv.split (191 : Nat)
                                                  (Adv.chks (197 : Nat) (some (Value.bool (lblEq (Face.lo (List.getD (Conf.faces c) i default)) (Face.hi (List.getD (Conf.faces c) i default)))))
                                                    Adv.nil
                                                    (Adv.chks (203 : Nat) (some (Value.bool (lblEq (Face.lo (List.getD (Conf.faces c) i default)) (Face.dflt (List.getD (Conf.faces c) i default)))))
                                                      Adv.nil Adv.nil))
                                                  Adv.nil)))
                                            Adv.nil)
                                          Adv.nil)
                                        Adv.nil)))))))))
                      (Adv.split (80 : Nat) Adv.nil
                        (Adv.split (86 : Nat) Adv.nil
                          (Adv.split (103 : Nat) Adv.nil
                            (Adv.split (109 : Nat) Adv.nil
                              (Adv.split (126 : Nat) Adv.nil
                                (Adv.split (132 : Nat) Adv.nil
                                  (Adv.purs (149 : Nat) (domL (Face.hi (List.getD (Conf.faces c) i default)) (Face.lo (List.getD (Conf.faces c) i default)))
                                    (Adv.purs (156 : Nat) (domL (Face.hi (List.getD (Conf.faces c) i default)) (Face.dflt (List.getD (Conf.faces c) i default)))
                                      (Adv.purs (164 : Nat) (domL (Face.dflt (List.getD (Conf.faces c) i default)) (Face.lo (List.getD (Conf.faces c) i default)))
                                        (Adv.pur (172 : Nat) (Value.int IntKind.i64 (findL (Conf.labels c) (Face.dflt (List.getD (Conf.faces c) i default))))
                                          (Adv.split (173 : Nat) Adv.nil
                                            (Adv.split (180 : Nat)
                                              (Adv.chks (186 : Nat) (some (Value.bool (lblEq (Face.lo (List.getD (Conf.faces c) i default)) (Face.hi (List.getD (Conf.faces c) i default))))) Adv.nil
                                                (Adv.chks (192 : Nat) (some (Value.bool (lblEq (Face.lo (List.getD (Conf.faces c) i default)) (Face.dflt (List.getD (Conf.faces c) i default)))))
                                                  Adv.nil Adv.nil))
                                              Adv.nil)))
                                        Adv.nil)
                                      Adv.nil)
                                    Adv.nil))))))))))))))))) (by kernel_rfl) (by kernel_rfl) (p := ((0 : Int) ≤ (↑i : Int) ∧ (↑i : Int) < (↑(List.length (Conf.faces c)) : Int)) ∧
  Ask.holds Try.prog (Ask.part (Array.toList (Array.mk (facesL (Conf.faces c)))) (Int.toNat (↑(Int.toNat (↑i : Int) * nat_lit 97) : Int)) (nat_lit 97) (faceL (List.getD (Conf.faces c) i default))) ∧
    CallK Try.prog (nat_lit 109) [Value.int IntKind.u32 (Face.addr (List.getD (Conf.faces c) i default))] (Value.int IntKind.i64 (kindI (Face.addr (List.getD (Conf.faces c) i default)))) ∧
      ((kindI (Face.addr (List.getD (Conf.faces c) i default)) != (4 : Int)) = true →
          Value.int IntKind.i64 (1 : Int) = Value.int IntKind.i64 (faceE c (List.take i (Conf.faces c)) (List.getD (Conf.faces c) i default))) ∧
        ((kindI (Face.addr (List.getD (Conf.faces c) i default)) != (4 : Int)) = false →
          ((i + (0 : Nat) = i ∧ ∀ (j : Nat), j < (0 : Nat) → (Face.addr (List.getD (Conf.faces c) j default) == Face.addr (List.getD (Conf.faces c) i default)) = false) ∧
              Value.int IntKind.i64 (0 : Int) = Value.int IntKind.i64 (0 : Int) ∧
                Heap.mk (nat_lit 2)
                    (Trie.node (some (Blk.cells (confL c) (nat_lit 31) Mode.fix)) (Trie.node (some (Blk.cells (faceL (List.getD (Conf.faces c) i default)) (nat_lit 46) Mode.fix)) Trie.leaf Trie.leaf)
                      Trie.leaf) =
                  Heap.mk (nat_lit 2)
                    (Trie.node (some (Blk.cells (confL c) (nat_lit 31) Mode.fix)) (Trie.node (some (Blk.cells (faceL (List.getD (Conf.faces c) i default)) (nat_lit 46) Mode.fix)) Trie.leaf Trie.leaf)
                      Trie.leaf)) ∧
            ∀ (i21 s21 : Nat) (j21 : Nat → Value),
              (i21 + s21 = i ∧ ∀ (j : Nat), j < s21 → (Face.addr (List.getD (Conf.faces c) j default) == Face.addr (List.getD (Conf.faces c) i default)) = false) →
                (decide ((↑s21 : Int) < (↑i : Int)) = true →
                    ((0 : Int) ≤ (↑s21 : Int) ∧ (↑s21 : Int) < (↑(List.length (Conf.faces c)) : Int)) ∧
                      Ask.holds Try.prog
                          (Ask.part (Array.toList (Array.mk (facesL (Conf.faces c)))) (Int.toNat (↑(Int.toNat (↑(Int.toNat (↑s21 : Int) * nat_lit 97) : Int) + nat_lit 0) : Int)) (nat_lit 1)
                            [Value.int IntKind.u32 (Face.addr (List.getD (Conf.faces c) s21 default))]) ∧
                        ((Face.addr (List.getD (Conf.faces c) s21 default) == Face.addr (List.getD (Conf.faces c) i default)) = true →
                            Value.int IntKind.i64 (7 : Int) = Value.int IntKind.i64 (faceE c (List.take i (Conf.faces c)) (List.getD (Conf.faces c) i default))) ∧
                          ((Face.addr (List.getD (Conf.faces c) s21 default) == Face.addr (List.getD (Conf.faces c) i default)) = false →
                            ∃ (i21' : Nat),
                              ∃ (s21' : Nat),
                                i21' < i21 ∧
                                  (i21' + s21' = i ∧ ∀ (j : Nat), j < s21' → (Face.addr (List.getD (Conf.faces c) j default) == Face.addr (List.getD (Conf.faces c) i default)) = false) ∧
                                    Value.int IntKind.i64 (IntKind.wrap IntKind.i64 ((↑s21 : Int) + (1 : Int))) = Value.int IntKind.i64 (↑s21' : Int) ∧
                                      (some (Blk.cells (faceL (List.getD (Conf.faces c) i default)) (nat_lit 46) Mode.fix) =
                                            some (Blk.cells (faceL (List.getD (Conf.faces c) i default)) (nat_lit 46) Mode.fix) ∧
                                          some (Blk.cells (confL c) (nat_lit 31) Mode.fix) = some (Blk.cells (confL c) (nat_lit 31) Mode.fix) ∧ True) ∧
                                        true = true ∧ true = true ∧ true = true ∧ True)) ∧
                  (decide ((↑s21 : Int) < (↑i : Int)) = false →
                    (decide (Face.mtu (List.getD (Conf.faces c) i default) < (68 : Int)) = true →
                        Value.int IntKind.i64 (1 : Int) = Value.int IntKind.i64 (faceE c (List.take i (Conf.faces c)) (List.getD (Conf.faces c) i default))) ∧
                      (decide (Face.mtu (List.getD (Conf.faces c) i default) < (68 : Int)) = false →
                        (decide (Face.mtu (List.getD (Conf.faces c) i default) > (65535 : Int)) = true →
                            Value.int IntKind.i64 (1 : Int) = Value.int IntKind.i64 (faceE c (List.take i (Conf.faces c)) (List.getD (Conf.faces c) i default))) ∧
                          (decide (Face.mtu (List.getD (Conf.faces c) i default) > (65535 : Int)) = false →
                            (decide (Face.mode (List.getD (Conf.faces c) i default) < (0 : Int)) = true →
                                Value.int IntKind.i64 (1 : Int) = Value.int IntKind.i64 (faceE c (List.take i (Conf.faces c)) (List.getD (Conf.faces c) i default))) ∧
                              (decide (Face.mode (List.getD (Conf.faces c) i default) < (0 : Int)) = false →
                                (decide (Face.mode (List.getD (Conf.faces c) i default) > (2 : Int)) = true →
                                    Value.int IntKind.i64 (1 : Int) = Value.int IntKind.i64 (faceE c (List.take i (Conf.faces c)) (List.getD (Conf.faces c) i default))) ∧
                                  (decide (Face.mode (List.getD (Conf.faces c) i default) > (2 : Int)) = false →
                                    ((Face.mode (List.getD (Conf.faces c) i default) == (1 : Int)) = true →
                                        (decide (Face.doi (List.getD (Conf.faces c) i default) < (0 : Int)) = true →
                                            Value.int IntKind.i64 (1 : Int) = Value.int IntKind.i64 (faceE c (List.take i (Conf.faces c)) (List.getD (Conf.faces c) i default))) ∧
                                          (decide (Face.doi (List.getD (Conf.faces c) i default) < (0 : Int)) = false →
                                            (decide (Face.doi (List.getD (Conf.faces c) i default) ≥ (↑(List.length (Conf.dois c)) : Int)) = true →
                                                Value.int IntKind.i64 (1 : Int) = Value.int IntKind.i64 (faceE c (List.take i (Conf.faces c)) (List.getD (Conf.faces c) i default))) ∧
                                              (decide (Face.doi (List.getD (Conf.faces c) i default) ≥ (↑(List.length (Conf.dois c)) : Int)) = false →
                                                (decide (Lbl.level (Face.lo (List.getD (Conf.faces c) i default)) < (0 : Int)) = true →
                                                    Value.int IntKind.i64 (8 : Int) = Value.int IntKind.i64 (faceE c (List.take i (Conf.faces c)) (List.getD (Conf.faces c) i default))) ∧
                                                  (decide (Lbl.level (Face.lo (List.getD (Conf.faces c) i default)) < (0 : Int)) = false →
                                                    (decide (Lbl.level (Face.lo (List.getD (Conf.faces c) i default)) > (255 : Int)) = true →
                                                        Value.int IntKind.i64 (8 : Int) = Value.int IntKind.i64 (faceE c (List.take i (Conf.faces c)) (List.getD (Conf.faces c) i default))) ∧
                                                      (decide (Lbl.level (Face.lo (List.getD (Conf.faces c) i default)) > (255 : Int)) = false →
                                                        (decide (Lbl.level (Face.hi (List.getD (Conf.faces c) i default)) < (0 : Int)) = true →
                                                            Value.int IntKind.i64 (8 : Int) = Value.int IntKind.i64 (faceE c (List.take i (Conf.faces c)) (List.getD (Conf.faces c) i default))) ∧
                                                          (decide (Lbl.level (Face.hi (List.getD (Conf.faces c) i default)) < (0 : Int)) = false →
                                                            (decide (Lbl.level (Face.hi (List.getD (Conf.faces c) i default)) > (255 : Int)) = true →
                                                                Value.int IntKind.i64 (8 : Int) = Value.int IntKind.i64 (faceE c (List.take i (Conf.faces c)) (List.getD (Conf.faces c) i default))) ∧
                                                              (decide (Lbl.level (Face.hi (List.getD (Conf.faces c) i default)) > (255 : Int)) = false →
                                                                (decide (Lbl.level (Face.dflt (List.getD (Conf.faces c) i default)) < (0 : Int)) = true →
                                                                    Value.int IntKind.i64 (8 : Int) =
                                                                      Value.int IntKind.i64 (faceE c (List.take i (Conf.faces c)) (List.getD (Conf.faces c) i default))) ∧
                                                                  (decide (Lbl.level (Face.dflt (List.getD (Conf.faces c) i default)) < (0 : Int)) = false →
                                                                    (decide (Lbl.level (Face.dflt (List.getD (Conf.faces c) i default)) > (255 : Int)) = true →
                                                                        Value.int IntKind.i64 (8 : Int) =
                                                                          Value.int IntKind.i64 (faceE c (List.take i (Conf.faces c)) (List.getD (Conf.faces c) i default))) ∧
                                                                      (decide (Lbl.level (Face.dflt (List.getD (Conf.faces c) i default)) > (255 : Int)) = false →
                                                                        CallK Try.prog (nat_lit 76)
                                                                            [Value.agg (Array.mk (lblL (Face.hi (List.getD (Conf.faces c) i default)))),
                                                                              Value.agg (Array.mk (lblL (Face.lo (List.getD (Conf.faces c) i default))))]
                                                                            (Value.bool (domL (Face.hi (List.getD (Conf.faces c) i default)) (Face.lo (List.getD (Conf.faces c) i default)))) ∧
                                                                          (domL (Face.hi (List.getD (Conf.faces c) i default)) (Face.lo (List.getD (Conf.faces c) i default)) = true →
                                                                              CallK Try.prog (nat_lit 76)
                                                                                  [Value.agg (Array.mk (lblL (Face.hi (List.getD (Conf.faces c) i default)))),
                                                                                    Value.agg (Array.mk (lblL (Face.dflt (List.getD (Conf.faces c) i default))))]
                                                                                  (Value.bool (domL (Face.hi (List.getD (Conf.faces c) i default)) (Face.dflt (List.getD (Conf.faces c) i default)))) ∧
                                                                                (domL (Face.hi (List.getD (Conf.faces c) i default)) (Face.dflt (List.getD (Conf.faces c) i default)) = true →
                                                                                    CallK Try.prog (nat_lit 76)
                                                                                        [Value.agg (Array.mk (lblL (Face.dflt (List.getD (Conf.faces c) i default)))),
                                                                                          Value.agg (Array.mk (lblL (Face.lo (List.getD (Conf.faces c) i default))))]
                                                                                        (Value.bool
                                                                                          (domL (Face.dflt (List.getD (Conf.faces c) i default)) (Face.lo (List.getD (Conf.faces c) i default)))) ∧
                                                                                      (domL (Face.dflt (List.getD (Conf.faces c) i default)) (Face.lo (List.getD (Conf.faces c) i default)) = true →
                                                                                          CallK Try.prog (nat_lit 110)
                                                                                              [Value.iface (nat_lit 1000000)
                                                                                                  (Value.tuple
                                                                                                    (Array.mk
                                                                                                      [Value.int IntKind.i64 (↑(List.length (Conf.labels c)) : Int),
                                                                                                        Value.agg (Array.mk (lblsL (Conf.labels c)))])),
                                                                                                Value.agg (Array.mk (lblL (Face.dflt (List.getD (Conf.faces c) i default))))]
                                                                                              (Value.int IntKind.i64 (findL (Conf.labels c) (Face.dflt (List.getD (Conf.faces c) i default)))) ∧
                                                                                            (decide (findL (Conf.labels c) (Face.dflt (List.getD (Conf.faces c) i default)) < (0 : Int)) = true →
                                                                                                Value.int IntKind.i64 (8 : Int) =
                                                                                                  Value.int IntKind.i64 (faceE c (List.take i (Conf.faces c)) (List.getD (Conf.faces c) i default))) ∧
                                                                                              (decide (findL (Conf.labels c) (Face.dflt (List.getD (Conf.faces c) i default)) < (0 : Int)) = false →
                                                                                                ((Face.mode (List.getD (Conf.faces c) i default) == (0 : Int)) = true →
                                                                                                    Ask.holds Try.prog
                                                                                                        (Ask.eqv (nat_lit 44)
                                                                                                          (Value.agg (Array.mk (lblL (Face.lo (List.getD (Conf.faces c) i default)))))
                                                                                                          (Value.agg (Array.mk (lblL (Face.hi (List.getD (Conf.faces c) i default)))))
                                                                                                          (lblEq (Face.lo (List.getD (Conf.faces c) i default))
                                                                                                            (Face.hi (List.getD (Conf.faces c) i default)))) ∧
                                                                                                      ((!lblEq (Face.lo (List.getD (Conf.faces c) i default))
                                                                                                                (Face.hi (List.getD (Conf.faces c) i default))) =
                                                                                                            true →
                                                                                                          Value.int IntKind.i64 (8 : Int) =
                                                                                                            Value.int IntKind.i64
                                                                                                              (faceE c (List.take i (Conf.faces c)) (List.getD (Conf.faces c) i default))) ∧
                                                                                                        ((!lblEq (Face.lo (List.getD (Conf.faces c) i default))
                                                                                                                (Face.hi (List.getD (Conf.faces c) i default))) =
                                                                                                            false →
                                                                                                          Ask.holds Try.prog
                                                                                                              (Ask.eqv (nat_lit 44)
                                                                                                                (Value.agg (Array.mk (lblL (Face.lo (List.getD (Conf.faces c) i default)))))
                                                                                                                (Value.agg (Array.mk (lblL (Face.dflt (List.getD (Conf.faces c) i default)))))
                                                                                                                (lblEq (Face.lo (List.getD (Conf.faces c) i default))
                                                                                                                  (Face.dflt (List.getD (Conf.faces c) i default)))) ∧
                                                                                                            ((!lblEq (Face.lo (List.getD (Conf.faces c) i default))
                                                                                                                      (Face.dflt (List.getD (Conf.faces c) i default))) =
                                                                                                                  true →
                                                                                                                Value.int IntKind.i64 (8 : Int) =
                                                                                                                  Value.int IntKind.i64
                                                                                                                    (faceE c (List.take i (Conf.faces c)) (List.getD (Conf.faces c) i default))) ∧
                                                                                                              ((!lblEq (Face.lo (List.getD (Conf.faces c) i default))
                                                                                                                      (Face.dflt (List.getD (Conf.faces c) i default))) =
                                                                                                                  false →
                                                                                                                Value.int IntKind.i64 (0 : Int) =
                                                                                                                  Value.int IntKind.i64
                                                                                                                    (faceE c (List.take i (Conf.faces c)) (List.getD (Conf.faces c) i default))))) ∧
                                                                                                  ((Face.mode (List.getD (Conf.faces c) i default) == (0 : Int)) = false →
                                                                                                    Value.int IntKind.i64 (0 : Int) =
                                                                                                      Value.int IntKind.i64
                                                                                                        (faceE c (List.take i (Conf.faces c)) (List.getD (Conf.faces c) i default))))) ∧
                                                                                        (domL (Face.dflt (List.getD (Conf.faces c) i default)) (Face.lo (List.getD (Conf.faces c) i default)) = false →
                                                                                          Value.int IntKind.i64 (8 : Int) =
                                                                                            Value.int IntKind.i64 (faceE c (List.take i (Conf.faces c)) (List.getD (Conf.faces c) i default)))) ∧
                                                                                  (domL (Face.hi (List.getD (Conf.faces c) i default)) (Face.dflt (List.getD (Conf.faces c) i default)) = false →
                                                                                    Value.int IntKind.i64 (8 : Int) =
                                                                                      Value.int IntKind.i64 (faceE c (List.take i (Conf.faces c)) (List.getD (Conf.faces c) i default)))) ∧
                                                                            (domL (Face.hi (List.getD (Conf.faces c) i default)) (Face.lo (List.getD (Conf.faces c) i default)) = false →
                                                                              Value.int IntKind.i64 (8 : Int) =
                                                                                Value.int IntKind.i64 (faceE c (List.take i (Conf.faces c)) (List.getD (Conf.faces c) i default)))))))))))) ∧
                                      ((Face.mode (List.getD (Conf.faces c) i default) == (1 : Int)) = false →
                                        (decide (Lbl.level (Face.lo (List.getD (Conf.faces c) i default)) < (0 : Int)) = true →
                                            Value.int IntKind.i64 (8 : Int) = Value.int IntKind.i64 (faceE c (List.take i (Conf.faces c)) (List.getD (Conf.faces c) i default))) ∧
                                          (decide (Lbl.level (Face.lo (List.getD (Conf.faces c) i default)) < (0 : Int)) = false →
                                            (decide (Lbl.level (Face.lo (List.getD (Conf.faces c) i default)) > (255 : Int)) = true →
                                                Value.int IntKind.i64 (8 : Int) = Value.int IntKind.i64 (faceE c (List.take i (Conf.faces c)) (List.getD (Conf.faces c) i default))) ∧
                                              (decide (Lbl.level (Face.lo (List.getD (Conf.faces c) i default)) > (255 : Int)) = false →
                                                (decide (Lbl.level (Face.hi (List.getD (Conf.faces c) i default)) < (0 : Int)) = true →
                                                    Value.int IntKind.i64 (8 : Int) = Value.int IntKind.i64 (faceE c (List.take i (Conf.faces c)) (List.getD (Conf.faces c) i default))) ∧
                                                  (decide (Lbl.level (Face.hi (List.getD (Conf.faces c) i default)) < (0 : Int)) = false →
                                                    (decide (Lbl.level (Face.hi (List.getD (Conf.faces c) i default)) > (255 : Int)) = true →
                                                        Value.int IntKind.i64 (8 : Int) = Value.int IntKind.i64 (faceE c (List.take i (Conf.faces c)) (List.getD (Conf.faces c) i default))) ∧
                                                      (decide (Lbl.level (Face.hi (List.getD (Conf.faces c) i default)) > (255 : Int)) = false →
                                                        (decide (Lbl.level (Face.dflt (List.getD (Conf.faces c) i default)) < (0 : Int)) = true →
                                                            Value.int IntKind.i64 (8 : Int) = Value.int IntKind.i64 (faceE c (List.take i (Conf.faces c)) (List.getD (Conf.faces c) i default))) ∧
                                                          (decide (Lbl.level (Face.dflt (List.getD (Conf.faces c) i default)) < (0 : Int)) = false →
                                                            (decide (Lbl.level (Face.dflt (List.getD (Conf.faces c) i default)) > (255 : Int)) = true →
                                                                Value.int IntKind.i64 (8 : Int) = Value.int IntKind.i64 (faceE c (List.take i (Conf.faces c)) (List.getD (Conf.faces c) i default))) ∧
                                                              (decide (Lbl.level (Face.dflt (List.getD (Conf.faces c) i default)) > (255 : Int)) = false →
                                                                CallK Try.prog (nat_lit 76)
                                                                    [Value.agg (Array.mk (lblL (Face.hi (List.getD (Conf.faces c) i default)))),
                                                                      Value.agg (Array.mk (lblL (Face.lo (List.getD (Conf.faces c) i default))))]
                                                                    (Value.bool (domL (Face.hi (List.getD (Conf.faces c) i default)) (Face.lo (List.getD (Conf.faces c) i default)))) ∧
                                                                  (domL (Face.hi (List.getD (Conf.faces c) i default)) (Face.lo (List.getD (Conf.faces c) i default)) = true →
                                                                      CallK Try.prog (nat_lit 76)
                                                                          [Value.agg (Array.mk (lblL (Face.hi (List.getD (Conf.faces c) i default)))),
                                                                            Value.agg (Array.mk (lblL (Face.dflt (List.getD (Conf.faces c) i default))))]
                                                                          (Value.bool (domL (Face.hi (List.getD (Conf.faces c) i default)) (Face.dflt (List.getD (Conf.faces c) i default)))) ∧
                                                                        (domL (Face.hi (List.getD (Conf.faces c) i default)) (Face.dflt (List.getD (Conf.faces c) i default)) = true →
                                                                            CallK Try.prog (nat_lit 76)
                                                                                [Value.agg (Array.mk (lblL (Face.dflt (List.getD (Conf.faces c) i default)))),
                                                                                  Value.agg (Array.mk (lblL (Face.lo (List.getD (Conf.faces c) i default))))]
                                                                                (Value.bool (domL (Face.dflt (List.getD (Conf.faces c) i default)) (Face.lo (List.getD (Conf.faces c) i default)))) ∧
                                                                              (domL (Face.dflt (List.getD (Conf.faces c) i default)) (Face.lo (List.getD (Conf.faces c) i default)) = true →
                                                                                  CallK Try.prog (nat_lit 110)
                                                                                      [Value.iface (nat_lit 1000000)
                                                                                          (Value.tuple
                                                                                            (Array.mk
                                                                                              [Value.int IntKind.i64 (↑(List.length (Conf.labels c)) : Int),
                                                                                                Value.agg (Array.mk (lblsL (Conf.labels c)))])),
                                                                                        Value.agg (Array.mk (lblL (Face.dflt (List.getD (Conf.faces c) i default))))]
                                                                                      (Value.int IntKind.i64 (findL (Conf.labels c) (Face.dflt (List.getD (Conf.faces c) i default)))) ∧
                                                                                    (decide (findL (Conf.labels c) (Face.dflt (List.getD (Conf.faces c) i default)) < (0 : Int)) = true →
                                                                                        Value.int IntKind.i64 (8 : Int) =
                                                                                          Value.int IntKind.i64 (faceE c (List.take i (Conf.faces c)) (List.getD (Conf.faces c) i default))) ∧
                                                                                      (decide (findL (Conf.labels c) (Face.dflt (List.getD (Conf.faces c) i default)) < (0 : Int)) = false →
                                                                                        ((Face.mode (List.getD (Conf.faces c) i default) == (0 : Int)) = true →
                                                                                            Ask.holds Try.prog
                                                                                                (Ask.eqv (nat_lit 44) (Value.agg (Array.mk (lblL (Face.lo (List.getD (Conf.faces c) i default)))))
                                                                                                  (Value.agg (Array.mk (lblL (Face.hi (List.getD (Conf.faces c) i default)))))
                                                                                                  (lblEq (Face.lo (List.getD (Conf.faces c) i default))
                                                                                                    (Face.hi (List.getD (Conf.faces c) i default)))) ∧
                                                                                              ((!lblEq (Face.lo (List.getD (Conf.faces c) i default)) (Face.hi (List.getD (Conf.faces c) i default))) =
                                                                                                    true →
                                                                                                  Value.int IntKind.i64 (8 : Int) =
                                                                                                    Value.int IntKind.i64 (faceE c (List.take i (Conf.faces c)) (List.getD (Conf.faces c) i default))) ∧
                                                                                                ((!lblEq (Face.lo (List.getD (Conf.faces c) i default))
                                                                                                        (Face.hi (List.getD (Conf.faces c) i default))) =
                                                                                                    false →
                                                                                                  Ask.holds Try.prog
                                                                                                      (Ask.eqv (nat_lit 44) (Value.agg (Array.mk (lblL (Face.lo (List.getD (Conf.faces c) i default)))))
                                                                                                        (Value.agg (Array.mk (lblL (Face.dflt (List.getD (Conf.faces c) i default)))))
                                                                                                        (lblEq (Face.lo (List.getD (Conf.faces c) i default))
                                                                                                          (Face.dflt (List.getD (Conf.faces c) i default)))) ∧
                                                                                                    ((!lblEq (Face.lo (List.getD (Conf.faces c) i default))
                                                                                                              (Face.dflt (List.getD (Conf.faces c) i default))) =
                                                                                                          true →
                                                                                                        Value.int IntKind.i64 (8 : Int) =
                                                                                                          Value.int IntKind.i64
                                                                                                            (faceE c (List.take i (Conf.faces c)) (List.getD (Conf.faces c) i default))) ∧
                                                                                                      ((!lblEq (Face.lo (List.getD (Conf.faces c) i default))
                                                                                                              (Face.dflt (List.getD (Conf.faces c) i default))) =
                                                                                                          false →
                                                                                                        Value.int IntKind.i64 (0 : Int) =
                                                                                                          Value.int IntKind.i64
                                                                                                            (faceE c (List.take i (Conf.faces c)) (List.getD (Conf.faces c) i default))))) ∧
                                                                                          ((Face.mode (List.getD (Conf.faces c) i default) == (0 : Int)) = false →
                                                                                            Value.int IntKind.i64 (0 : Int) =
                                                                                              Value.int IntKind.i64 (faceE c (List.take i (Conf.faces c)) (List.getD (Conf.faces c) i default))))) ∧
                                                                                (domL (Face.dflt (List.getD (Conf.faces c) i default)) (Face.lo (List.getD (Conf.faces c) i default)) = false →
                                                                                  Value.int IntKind.i64 (8 : Int) =
                                                                                    Value.int IntKind.i64 (faceE c (List.take i (Conf.faces c)) (List.getD (Conf.faces c) i default)))) ∧
                                                                          (domL (Face.hi (List.getD (Conf.faces c) i default)) (Face.dflt (List.getD (Conf.faces c) i default)) = false →
                                                                            Value.int IntKind.i64 (8 : Int) =
                                                                              Value.int IntKind.i64 (faceE c (List.take i (Conf.faces c)) (List.getD (Conf.faces c) i default)))) ∧
                                                                    (domL (Face.hi (List.getD (Conf.faces c) i default)) (Face.lo (List.getD (Conf.faces c) i default)) = false →
                                                                      Value.int IntKind.i64 (8 : Int) =
                                                                        Value.int IntKind.i64 (faceE c (List.take i (Conf.faces c)) (List.getD (Conf.faces c) i default))))))))))))))))) (by kernel_rfl) (by
    have hlen := h.len.faces
    have hf := h.faces _ (getD_mem (d := default) hi)
    refine ⟨⟨by omega, by omega⟩, faces_part hi 0 97 (by omega) rfl rfl, refKind_w _, fun h1 => ?_, fun h1 => ⟨⟨⟨by omega, fun j hj => by omega⟩, rfl, rfl⟩, fun a k j ⟨q1, q2⟩ => ⟨fun h2 => ?_, fun h2 => ?_⟩⟩⟩
    · unfold faceE; rw [if_pos (by simpa using h1)]
    · have hk : k < i := by have := of_decide_eq_true h2; omega
      refine ⟨⟨by omega, by omega⟩, faces_part (k := k) (by omega) 0 1 (by omega) rfl rfl, fun h3 => ?_, fun h3 => ⟨a - 1, k + 1, by omega, ⟨by omega, lt_next q2 h3⟩, wrap_next k (by omega), ⟨rfl, rfl, trivial⟩, rfl, ⟨rfl, rfl, trivial⟩⟩⟩
      unfold faceE; rw [if_neg (by simpa using h1), if_pos ((any_take default (by omega)).2 ⟨k, hk, h3⟩)]
    · have hk : k = i := by have := of_decide_eq_false h2; omega
      subst hk
      have e0 : ((c.faces.take k).any fun q => q.addr == (c.faces.getD k default).addr) = false := any_take_false default (by omega) q2
      have e1 : (kindI (c.faces.getD k default).addr == 4) = true := by simpa using h1
      have e2 := findL_key c.labels (c.faces.getD k default).dflt
      have hl := h.len.labels
      generalize c.faces.getD k default = x at *
      simp only [Value.int.injEq, Value.bool.injEq]
      repeat' (first | exact refDom_w _ _ hf.2.1 hf.1 | exact refDom_w _ _ hf.2.1 hf.2.2 | exact refDom_w _ _ hf.2.2 hf.1 | exact refFind_w _ _ (by omega) | exact lblEq_eqD _ _ | rfl | apply And.intro | intro)
      all_goals grind [faceE, rangedB, inL, rightL])
end Go.Proofs.Ytepijhnfeafmaaa

end
