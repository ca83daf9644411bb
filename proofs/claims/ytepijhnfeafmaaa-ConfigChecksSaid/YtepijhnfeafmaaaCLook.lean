/- What the functions that look at a config's parts answer. -/
import Derived.Test.YtepijhnfeafmaaaAPrg
import Derived.Test.YtepijhnfeafmaaaCList
import Derived.Test.YtepijhnfeafmaaaCAddr
import Derived.Test.YtepijhnfeafmaaaCLabel
import Derived.Test.YtepijhnfeafmaaaCRule
import Derived.Test.YtepijhnfeafmaaaCRule2
import Derived.Test.YtepijhnfeafmaaaCTable
import Derived.Test.YtepijhnfeafmaaaCDoi
set_option linter.unusedVariables false
set_option linter.unusedSimpArgs false
set_option maxRecDepth 100000
namespace Go.Proofs.Ytepijhnfeafmaaa
open Go Go.Ideal
/-- A config that is looked at. -/
def lookL (c : Conf) : List Value := confL c ++ [tblV c.labels]
theorem rules_part {xs : List Rule} {k : Nat} (hk : k < xs.length) (r m : Nat) (hr : r + m ≤ 12) {o : Nat} (ho : o = k * 12 + r) {out : List Value} (e : ((ruleL (xs.getD k default)).drop r).take m = out) : (Ask.part (rulesL xs) o m out).holds Try.prog := by
  subst ho; exact cellsOf_part (P := Try.prog) (f := ruleL) ruleL_length default hk r m hr out e
theorem relabs_part {xs : List Relab} {k : Nat} (hk : k < xs.length) (r m : Nat) (hr : r + m ≤ 8) {o : Nat} (ho : o = k * 8 + r) {out : List Value} (e : ((relabL (xs.getD k default)).drop r).take m = out) : (Ask.part (relabsL xs) o m out).holds Try.prog := by
  subst ho; exact cellsOf_part (P := Try.prog) (f := relabL) relabL_length default hk r m hr out e
theorem routs_part {xs : List Rout} {k : Nat} (hk : k < xs.length) (r m : Nat) (hr : r + m ≤ 3) {o : Nat} (ho : o = k * 3 + r) {out : List Value} (e : ((routL (xs.getD k default)).drop r).take m = out) : (Ask.part (routsL xs) o m out).holds Try.prog := by
  subst ho; exact cellsOf_part (P := Try.prog) (f := routL) routL_length default hk r m hr out e
theorem faces_part {xs : List Face} {k : Nat} (hk : k < xs.length) (r m : Nat) (hr : r + m ≤ 97) {o : Nat} (ho : o = k * 97 + r) {out : List Value} (e : ((faceL (xs.getD k default)).drop r).take m = out) : (Ask.part (facesL xs) o m out).holds Try.prog := by
  subst ho; exact cellsOf_part (P := Try.prog) (f := faceL) faceL_length default hk r m hr out e
theorem ruleBad_w (r : Rule) : CallK Try.prog 138 [ruleV r] (.bool (!ruleR r)) :=
  CallK.via progOK (pfs []) [] 100 (Adv.purs (3 : Nat) (ruleR r) Adv.nil Adv.nil) (by kernel_rfl) (by kernel_rfl) (p := CallK Try.prog (nat_lit 139) [Value.agg (Array.mk (ruleL r))] (Value.bool (ruleR r)) ∧
  (ruleR r = true → Value.bool false = Value.bool !ruleR r) ∧ (ruleR r = false → Value.bool true = Value.bool !ruleR r)) (by kernel_rfl) (by
    exact ⟨rule_w _, fun h => by rw [h]; rfl, fun h => by rw [h]; rfl⟩)
theorem ruleRight1_w (r : Rule) : CallK Try.prog 104 [vsl 1 (Array.mk (ruleL r))] (.bool (ruleR r)) :=
  CallK.via progOK (pfs []) [] 100 (Adv.purs (19 : Nat) (!ruleR r) Adv.nil Adv.nil) (by kernel_rfl) (by kernel_rfl) (p := CallK Try.prog (nat_lit 138) [Value.agg (Array.mk (ruleL r))] (Value.bool !ruleR r) ∧
  ((!ruleR r) = true → Value.bool false = Value.bool (ruleR r)) ∧ ((!ruleR r) = false → Value.bool true = Value.bool (ruleR r))) (by kernel_rfl) (by
    simp only [Value.bool.injEq]
    repeat' (first | exact ruleBad_w _ | apply And.intro | intro)
    all_goals grind)
theorem rulesBad_w (r : Rule) : CallK Try.prog 103 [ruleV r] (.bool (!ruleR r)) :=
  CallK.via progOK (pfs []) [] 100 (Adv.bors (4 : Nat) (ruleR r) Adv.nil Adv.nil) (by kernel_rfl) (by kernel_rfl) (p := CallK Try.prog (nat_lit 104) [Value.iface (nat_lit 1000000) (Value.tuple (Array.mk [Value.int IntKind.i64 (1 : Int), Value.agg (Array.mk (ruleL r))]))] (Value.bool (ruleR r)) ∧
  (ruleR r = true → Value.bool false = Value.bool !ruleR r) ∧ (ruleR r = false → Value.bool true = Value.bool !ruleR r)) (by kernel_rfl) (by
    exact ⟨ruleRight1_w _, fun h => by rw [h]; rfl, fun h => by rw [h]; rfl⟩)
theorem idxRule_w (xs : List Rule) (hl : xs.length ≤ 1099511627776) : CallK Try.prog 102 [rulesV xs, .func (.func 103) (Array.mk []) (Array.mk [])] (.int .i64 (idxB xs fun d => !ruleR d)) :=
  CallK.via progOK (pfs []) [] 100 (Adv.loop (4 : Nat) (fun (k : Nat) => [((8 : Nat), Value.int IntKind.i64 (↑k : Int))]) ((fun (h : Heap) (x : Nat) => h) (Heap.mk (nat_lit 0) Trie.leaf))
  (fun (i k : Nat) => i + k = List.length xs ∧ ∀ (j : Nat), j < k → (!ruleR (List.getD xs j default)) = false) (List.length xs) (0 : Nat) fun (i4 s4 : Nat) (j4 : Nat → Value) =>
  Adv.split (5 : Nat)
    (Adv.chk (11 : Nat) none (Adv.chk (12 : Nat) (some (Value.agg (Array.mk (ruleL (List.getD xs s4 default))))) (Adv.purs (13 : Nat) (!ruleR (List.getD xs s4 default)) Adv.nil Adv.nil))) Adv.nil) (by kernel_rfl) (by kernel_rfl) (p := ((List.length xs + (0 : Nat) = List.length xs ∧ ∀ (j : Nat), j < (0 : Nat) → (!ruleR (List.getD xs j default)) = false) ∧
    Value.int IntKind.i64 (0 : Int) = Value.int IntKind.i64 (0 : Int) ∧ Heap.mk (nat_lit 0) Trie.leaf = Heap.mk (nat_lit 0) Trie.leaf) ∧
  ∀ (i4 s4 : Nat) (j4 : Nat → Value),
    (i4 + s4 = List.length xs ∧ ∀ (j : Nat), j < s4 → (!ruleR (List.getD xs j default)) = false) →
      (decide ((↑s4 : Int) < (↑(List.length xs) : Int)) = true →
          ((0 : Int) ≤ (↑s4 : Int) ∧ (↑s4 : Int) < (↑(List.length xs) : Int)) ∧
            Ask.holds Try.prog (Ask.part (Array.toList (Array.mk (rulesL xs))) (Int.toNat (↑(Int.toNat (↑s4 : Int) * nat_lit 12) : Int)) (nat_lit 12) (ruleL (List.getD xs s4 default))) ∧
              CallK Try.prog (nat_lit 103) [Value.agg (Array.mk (ruleL (List.getD xs s4 default)))] (Value.bool !ruleR (List.getD xs s4 default)) ∧
                ((!ruleR (List.getD xs s4 default)) = true → Value.int IntKind.i64 (↑s4 : Int) = Value.int IntKind.i64 (idxB xs fun (d : Rule) => !ruleR d)) ∧
                  ((!ruleR (List.getD xs s4 default)) = false →
                    ∃ (i4' : Nat),
                      ∃ (s4' : Nat),
                        i4' < i4 ∧
                          (i4' + s4' = List.length xs ∧ ∀ (j : Nat), j < s4' → (!ruleR (List.getD xs j default)) = false) ∧
                            Value.int IntKind.i64 (IntKind.wrap IntKind.i64 ((↑s4 : Int) + (1 : Int))) = Value.int IntKind.i64 (↑s4' : Int) ∧ True ∧ true = true ∧ True)) ∧
        (decide ((↑s4 : Int) < (↑(List.length xs) : Int)) = false → Value.int IntKind.i64 (-1 : Int) = Value.int IntKind.i64 (idxB xs fun (d : Rule) => !ruleR d))) (by kernel_rfl) (by
    refine ⟨⟨⟨by omega, fun j hj => by omega⟩, rfl, rfl⟩, fun i k j ⟨q1, q2⟩ => ⟨fun h1 => ?_, fun h1 => ?_⟩⟩
    · have hk : k < xs.length := by have := of_decide_eq_true h1; omega
      exact ⟨⟨by omega, by omega⟩, rules_part hk 0 12 (by omega) rfl rfl, rulesBad_w _, fun h2 => congrArg (Value.int .i64) (idxB_some hk h2 q2).symm, fun h2 => ⟨i - 1, k + 1, by omega, ⟨by omega, lt_next q2 h2⟩, wrap_next k (by omega), trivial, rfl, trivial⟩⟩
    · have hk : k = xs.length := by have := of_decide_eq_false h1; omega
      subst hk
      exact congrArg (Value.int .i64) (idxB_none q2).symm)
theorem guardBad_w (n : Int) (r : Relab) : CallK Try.prog 135 [relabV r, vpt 0 (Array.mk [.int .i64 n])] (.bool (!relabR n r)) :=
  CallK.via progOK (pfs []) [] 100 (Adv.purs (4 : Nat) (relabR n r) Adv.nil Adv.nil) (by kernel_rfl) (by kernel_rfl) (p := CallK Try.prog (nat_lit 136) [Value.int IntKind.i64 n, Value.agg (Array.mk (relabL r))] (Value.bool (relabR n r)) ∧
  (relabR n r = true → Value.bool false = Value.bool !relabR n r) ∧ (relabR n r = false → Value.bool true = Value.bool !relabR n r)) (by kernel_rfl) (by
    exact ⟨relab_w _ _, fun h => by rw [h]; rfl, fun h => by rw [h]; rfl⟩)
theorem guardRight1_w (n : Int) (r : Relab) : CallK Try.prog 101 [.int .i64 n, vsl 1 (Array.mk (relabL r))] (.bool (relabR n r)) :=
  CallK.via progOK (pfs []) [] 100 (Adv.bors (21 : Nat) (!relabR n r) Adv.nil Adv.nil) (by kernel_rfl) (by kernel_rfl) (p := CallK Try.prog (nat_lit 135) [Value.agg (Array.mk (relabL r)), Value.iface (nat_lit 1000001) (Value.tuple (Array.mk [Value.int IntKind.i64 (0 : Int), Value.agg (Array.mk [Value.int IntKind.i64 n])]))]
    (Value.bool !relabR n r) ∧
  ((!relabR n r) = true → Value.bool false = Value.bool (relabR n r)) ∧ ((!relabR n r) = false → Value.bool true = Value.bool (relabR n r))) (by kernel_rfl) (by
    simp only [Value.bool.injEq]
    repeat' (first | exact guardBad_w _ _ | apply And.intro | intro)
    all_goals grind)
theorem rules1_w (c : Conf) (r : Relab) : CallK Try.prog 100 [relabV r, vpt 0 (Array.mk [vpt 0 (Array.mk (lookL c))])] (.bool (!relabR c.labels.length r)) :=
  CallK.via progOK (pfs []) [] 100 (Adv.bors (10 : Nat) (relabR (↑(List.length (Conf.labels c)) : Int) r) Adv.nil Adv.nil) (by kernel_rfl) (by kernel_rfl) (p := CallK Try.prog (nat_lit 101)
    [Value.int IntKind.i64 (↑(List.length (Conf.labels c)) : Int), Value.iface (nat_lit 1000000) (Value.tuple (Array.mk [Value.int IntKind.i64 (1 : Int), Value.agg (Array.mk (relabL r))]))]
    (Value.bool (relabR (↑(List.length (Conf.labels c)) : Int) r)) ∧
  (relabR (↑(List.length (Conf.labels c)) : Int) r = true →
      (Value.iface (nat_lit 1000001) (Value.tuple (Array.mk [Value.int IntKind.i64 (0 : Int), Value.agg (Array.mk (lookL c))])) =
            Value.iface (nat_lit 1000001) (Value.tuple (Array.mk [Value.int IntKind.i64 (0 : Int), Value.agg (Array.mk (lookL c))])) ∧
          Value.iface (nat_lit 1000000) (Value.tuple (Array.mk [Value.int IntKind.i64 (↑(List.length (Conf.labels c)) : Int), Value.agg (Array.mk (lblsL (Conf.labels c)))])) =
            Value.iface (nat_lit 1000000) (Value.tuple (Array.mk [Value.int IntKind.i64 (↑(List.length (Conf.labels c)) : Int), Value.agg (Array.mk (lblsL (Conf.labels c)))]))) ∧
        Value.bool false = Value.bool !relabR (↑(List.length (Conf.labels c)) : Int) r) ∧
    (relabR (↑(List.length (Conf.labels c)) : Int) r = false →
      (Value.iface (nat_lit 1000001) (Value.tuple (Array.mk [Value.int IntKind.i64 (0 : Int), Value.agg (Array.mk (lookL c))])) =
            Value.iface (nat_lit 1000001) (Value.tuple (Array.mk [Value.int IntKind.i64 (0 : Int), Value.agg (Array.mk (lookL c))])) ∧
          Value.iface (nat_lit 1000000) (Value.tuple (Array.mk [Value.int IntKind.i64 (↑(List.length (Conf.labels c)) : Int), Value.agg (Array.mk (lblsL (Conf.labels c)))])) =
            Value.iface (nat_lit 1000000) (Value.tuple (Array.mk [Value.int IntKind.i64 (↑(List.length (Conf.labels c)) : Int), Value.agg (Array.mk (lblsL (Conf.labels c)))]))) ∧
        Value.bool true = Value.bool !relabR (↑(List.length (Conf.labels c)) : Int) r)) (by kernel_rfl) (by
    exact ⟨guardRight1_w _ _, fun h => ⟨⟨rfl, rfl⟩, by rw [h]; rfl⟩, fun h => ⟨⟨rfl, rfl⟩, by rw [h]; rfl⟩⟩)
theorem idxRelab_w (c : Conf) (xs : List Relab) (hl : xs.length ≤ 1099511627776) : CallK Try.prog 99 [relabsV xs, .func (.func 100) (Array.mk []) (Array.mk [vpt 0 (Array.mk [vpt 0 (Array.mk (lookL c))])])] (.int .i64 (idxB xs fun r => !relabR c.labels.length r)) :=
  CallK.via progOK (pfs []) [] 100 (Adv.loop (4 : Nat) (fun (k : Nat) => [((8 : Nat), Value.int IntKind.i64 (↑k : Int))]) ((fun (h : Heap) (x : Nat) => h) (Heap.mk (nat_lit 0) Trie.leaf))
  (fun (i k : Nat) => i + k = List.length xs ∧ ∀ (j : Nat), j < k → (!relabR (↑(List.length (Conf.labels c)) : Int) (List.getD xs j default)) = false) (List.length xs) (0 : Nat)
  fun (i4 s4 : Nat) (j4 : Nat → Value) =>
  Adv.split (5 : Nat)
    (Adv.chk (11 : Nat) none
      (Adv.chk (12 : Nat) (some (Value.agg (Array.mk (relabL (List.getD xs s4 default)))))
        (Adv.purs (13 : Nat) (!relabR (↑(List.length (Conf.labels c)) : Int) (List.getD xs s4 default)) Adv.nil Adv.nil)))
    Adv.nil) (by kernel_rfl) (by kernel_rfl) (p := ((List.length xs + (0 : Nat) = List.length xs ∧ ∀ (j : Nat), j < (0 : Nat) → (!relabR (↑(List.length (Conf.labels c)) : Int) (List.getD xs j default)) = false) ∧
    Value.int IntKind.i64 (0 : Int) = Value.int IntKind.i64 (0 : Int) ∧ Heap.mk (nat_lit 0) Trie.leaf = Heap.mk (nat_lit 0) Trie.leaf) ∧
  ∀ (i4 s4 : Nat) (j4 : Nat → Value),
    (i4 + s4 = List.length xs ∧ ∀ (j : Nat), j < s4 → (!relabR (↑(List.length (Conf.labels c)) : Int) (List.getD xs j default)) = false) →
      (decide ((↑s4 : Int) < (↑(List.length xs) : Int)) = true →
          ((0 : Int) ≤ (↑s4 : Int) ∧ (↑s4 : Int) < (↑(List.length xs) : Int)) ∧
            Ask.holds Try.prog (Ask.part (Array.toList (Array.mk (relabsL xs))) (Int.toNat (↑(Int.toNat (↑s4 : Int) * nat_lit 8) : Int)) (nat_lit 8) (relabL (List.getD xs s4 default))) ∧
              CallK Try.prog (nat_lit 100)
                  [Value.agg (Array.mk (relabL (List.getD xs s4 default))),
                    Value.iface (nat_lit 1000001)
                      (Value.tuple
                        (Array.mk
                          [Value.int IntKind.i64 (0 : Int),
                            Value.agg (Array.mk [Value.iface (nat_lit 1000001) (Value.tuple (Array.mk [Value.int IntKind.i64 (0 : Int), Value.agg (Array.mk (lookL c))]))])]))]
                  (Value.bool !relabR (↑(List.length (Conf.labels c)) : Int) (List.getD xs s4 default)) ∧
                ((!relabR (↑(List.length (Conf.labels c)) : Int) (List.getD xs s4 default)) = true →
                    Value.int IntKind.i64 (↑s4 : Int) = Value.int IntKind.i64 (idxB xs fun (r : Relab) => !relabR (↑(List.length (Conf.labels c)) : Int) r)) ∧
                  ((!relabR (↑(List.length (Conf.labels c)) : Int) (List.getD xs s4 default)) = false →
                    ∃ (i4' : Nat),
                      ∃ (s4' : Nat),
                        i4' < i4 ∧
                          (i4' + s4' = List.length xs ∧ ∀ (j : Nat), j < s4' → (!relabR (↑(List.length (Conf.labels c)) : Int) (List.getD xs j default)) = false) ∧
                            Value.int IntKind.i64 (IntKind.wrap IntKind.i64 ((↑s4 : Int) + (1 : Int))) = Value.int IntKind.i64 (↑s4' : Int) ∧ True ∧ true = true ∧ True)) ∧
        (decide ((↑s4 : Int) < (↑(List.length xs) : Int)) = false →
          Value.int IntKind.i64 (-1 : Int) = Value.int IntKind.i64 (idxB xs fun (r : Relab) => !relabR (↑(List.length (Conf.labels c)) : Int) r))) (by kernel_rfl) (by
    refine ⟨⟨⟨by omega, fun j hj => by omega⟩, rfl, rfl⟩, fun i k j ⟨q1, q2⟩ => ⟨fun h1 => ?_, fun h1 => ?_⟩⟩
    · have hk : k < xs.length := by have := of_decide_eq_true h1; omega
      exact ⟨⟨by omega, by omega⟩, relabs_part hk 0 8 (by omega) rfl rfl, rules1_w _ _, fun h2 => congrArg (Value.int .i64) (idxB_some hk h2 q2).symm, fun h2 => ⟨i - 1, k + 1, by omega, ⟨by omega, lt_next q2 h2⟩, wrap_next k (by omega), trivial, rfl, trivial⟩⟩
    · have hk : k = xs.length := by have := of_decide_eq_false h1; omega
      subst hk
      exact congrArg (Value.int .i64) (idxB_none q2).symm)
theorem routSame_w (q r : Rout) : CallK Try.prog 105 [routV q, vpt 0 (Array.mk (routL r))] (.bool (pfxEq q.to r.to)) :=
  CallK.via progOK (pfs []) [] 100 (Adv.chks (6 : Nat) (some (Value.bool (pfxEq (Rout.to q) (Rout.to r)))) Adv.nil Adv.nil) (by kernel_rfl) (by kernel_rfl) (p := Ask.holds Try.prog (Ask.eqv (nat_lit 48) (Value.agg (Array.mk (pfxL (Rout.to q)))) (Value.agg (Array.mk (pfxL (Rout.to r)))) (pfxEq (Rout.to q) (Rout.to r))) ∧
  (pfxEq (Rout.to q) (Rout.to r) = true → Value.bool true = Value.bool (pfxEq (Rout.to q) (Rout.to r))) ∧
    (pfxEq (Rout.to q) (Rout.to r) = false → Value.bool false = Value.bool (pfxEq (Rout.to q) (Rout.to r)))) (by kernel_rfl) (by
    exact ⟨pfxEq_eqD _ _, fun h => by rw [h], fun h => by rw [h]⟩)
theorem idxRout_w (xs : List Rout) (r : Rout) (hl : xs.length ≤ 1099511627776) : CallK Try.prog 141 [routsV xs, .func (.func 105) (Array.mk []) (Array.mk [vpt 0 (Array.mk (routL r))])] (.int .i64 (idxB xs fun q => pfxEq q.to r.to)) :=
  CallK.via progOK (pfs []) [] 100 (Adv.loop (4 : Nat) (fun (k : Nat) => [((8 : Nat), Value.int IntKind.i64 (↑k : Int))]) ((fun (h : Heap) (x : Nat) => h) (Heap.mk (nat_lit 0) Trie.leaf))
  (fun (i k : Nat) => i + k = List.length xs ∧ ∀ (j : Nat), j < k → pfxEq (Rout.to (List.getD xs j default)) (Rout.to r) = false) (List.length xs) (0 : Nat) fun (i4 s4 : Nat) (j4 : Nat → Value) =>
  Adv.split (5 : Nat)
    (Adv.chk (11 : Nat) none
      (Adv.chk (12 : Nat) (some (Value.agg (Array.mk (routL (List.getD xs s4 default))))) (Adv.purs (13 : Nat) (pfxEq (Rout.to (List.getD xs s4 default)) (Rout.to r)) Adv.nil Adv.nil)))
    Adv.nil) (by kernel_rfl) (by kernel_rfl) (p := ((List.length xs + (0 : Nat) = List.length xs ∧ ∀ (j : Nat), j < (0 : Nat) → pfxEq (Rout.to (List.getD xs j default)) (Rout.to r) = false) ∧
    Value.int IntKind.i64 (0 : Int) = Value.int IntKind.i64 (0 : Int) ∧ Heap.mk (nat_lit 0) Trie.leaf = Heap.mk (nat_lit 0) Trie.leaf) ∧
  ∀ (i4 s4 : Nat) (j4 : Nat → Value),
    (i4 + s4 = List.length xs ∧ ∀ (j : Nat), j < s4 → pfxEq (Rout.to (List.getD xs j default)) (Rout.to r) = false) →
      (decide ((↑s4 : Int) < (↑(List.length xs) : Int)) = true →
          ((0 : Int) ≤ (↑s4 : Int) ∧ (↑s4 : Int) < (↑(List.length xs) : Int)) ∧
            Ask.holds Try.prog (Ask.part (Array.toList (Array.mk (routsL xs))) (Int.toNat (↑(Int.toNat (↑s4 : Int) * nat_lit 3) : Int)) (nat_lit 3) (routL (List.getD xs s4 default))) ∧
              CallK Try.prog (nat_lit 105)
                  [Value.agg (Array.mk (routL (List.getD xs s4 default))), Value.iface (nat_lit 1000001) (Value.tuple (Array.mk [Value.int IntKind.i64 (0 : Int), Value.agg (Array.mk (routL r))]))]
                  (Value.bool (pfxEq (Rout.to (List.getD xs s4 default)) (Rout.to r))) ∧
                (pfxEq (Rout.to (List.getD xs s4 default)) (Rout.to r) = true → Value.int IntKind.i64 (↑s4 : Int) = Value.int IntKind.i64 (idxB xs fun (q : Rout) => pfxEq (Rout.to q) (Rout.to r))) ∧
                  (pfxEq (Rout.to (List.getD xs s4 default)) (Rout.to r) = false →
                    ∃ (i4' : Nat),
                      ∃ (s4' : Nat),
                        i4' < i4 ∧
                          (i4' + s4' = List.length xs ∧ ∀ (j : Nat), j < s4' → pfxEq (Rout.to (List.getD xs j default)) (Rout.to r) = false) ∧
                            Value.int IntKind.i64 (IntKind.wrap IntKind.i64 ((↑s4 : Int) + (1 : Int))) = Value.int IntKind.i64 (↑s4' : Int) ∧ True ∧ true = true ∧ True)) ∧
        (decide ((↑s4 : Int) < (↑(List.length xs) : Int)) = false → Value.int IntKind.i64 (-1 : Int) = Value.int IntKind.i64 (idxB xs fun (q : Rout) => pfxEq (Rout.to q) (Rout.to r)))) (by kernel_rfl) (by
    refine ⟨⟨⟨by omega, fun j hj => by omega⟩, rfl, rfl⟩, fun i k j ⟨q1, q2⟩ => ⟨fun h1 => ?_, fun h1 => ?_⟩⟩
    · have hk : k < xs.length := by have := of_decide_eq_true h1; omega
      exact ⟨⟨by omega, by omega⟩, routs_part hk 0 3 (by omega) rfl rfl, routSame_w _ _, fun h2 => congrArg (Value.int .i64) (idxB_some (d := default) hk h2 q2).symm, fun h2 => ⟨i - 1, k + 1, by omega, ⟨by omega, lt_next q2 h2⟩, wrap_next k (by omega), trivial, rfl, trivial⟩⟩
    · have hk : k = xs.length := by have := of_decide_eq_false h1; omega
      subst hk
      exact congrArg (Value.int .i64) (idxB_none (d := default) q2).symm)
theorem anyRout_w (xs : List Rout) (r : Rout) (hl : xs.length ≤ 1099511627776) : CallK Try.prog 107 [routsV xs, .func (.func 105) (Array.mk []) (Array.mk [vpt 0 (Array.mk (routL r))])] (.bool (xs.any fun q => pfxEq q.to r.to)) :=
  CallK.via progOK (pfs []) [] 100 (Adv.pur (3 : Nat) (Value.int IntKind.i64 (idxB xs fun (q : Rout) => pfxEq (Rout.to q) (Rout.to r))) (Adv.split (4 : Nat) Adv.nil Adv.nil)) (by kernel_rfl) (by kernel_rfl) (p := CallK Try.prog (nat_lit 141)
    [Value.iface (nat_lit 1000000) (Value.tuple (Array.mk [Value.int IntKind.i64 (↑(List.length xs) : Int), Value.agg (Array.mk (routsL xs))])),
      Value.func (Fn.func (nat_lit 105)) (Array.mk []) (Array.mk [Value.iface (nat_lit 1000001) (Value.tuple (Array.mk [Value.int IntKind.i64 (0 : Int), Value.agg (Array.mk (routL r))]))])]
    (Value.int IntKind.i64 (idxB xs fun (q : Rout) => pfxEq (Rout.to q) (Rout.to r))) ∧
  (decide ((idxB xs fun (q : Rout) => pfxEq (Rout.to q) (Rout.to r)) ≥ (0 : Int)) = true → Value.bool true = Value.bool (List.any xs fun (q : Rout) => pfxEq (Rout.to q) (Rout.to r))) ∧
    (decide ((idxB xs fun (q : Rout) => pfxEq (Rout.to q) (Rout.to r)) ≥ (0 : Int)) = false → Value.bool false = Value.bool (List.any xs fun (q : Rout) => pfxEq (Rout.to q) (Rout.to r)))) (by kernel_rfl) (by
    rw [← anyB_idx]
    exact ⟨idxRout_w xs r hl, fun h => by rw [← h], fun h => by rw [← h]⟩)
theorem faceSame_w (q r : Face) : CallK Try.prog 130 [faceV q, vpt 0 (Array.mk (faceL r))] (.bool (q.addr == r.addr)) :=
  CallK.via progOK (pfs []) [] 100 (Adv.split (6 : Nat) Adv.nil Adv.nil) (by kernel_rfl) (by kernel_rfl) (p := ((Face.addr q == Face.addr r) = true → Value.bool true = Value.bool (Face.addr q == Face.addr r)) ∧ ((Face.addr q == Face.addr r) = false → Value.bool false = Value.bool (Face.addr q == Face.addr r))) (by kernel_rfl) (by
    exact ⟨fun h => by rw [h], fun h => by rw [h]⟩)
theorem idxFace_w (xs : List Face) (r : Face) (hl : xs.length ≤ 1099511627776) : CallK Try.prog 74 [facesV xs, .func (.func 130) (Array.mk []) (Array.mk [vpt 0 (Array.mk (faceL r))])] (.int .i64 (idxB xs fun q => q.addr == r.addr)) :=
  CallK.via progOK (pfs []) [] 100 (Adv.loop (4 : Nat) (fun (k : Nat) => [((8 : Nat), Value.int IntKind.i64 (↑k : Int))]) ((fun (h : Heap) (x : Nat) => h) (Heap.mk (nat_lit 0) Trie.leaf))
  (fun (i k : Nat) => i + k = List.length xs ∧ ∀ (j : Nat), j < k → (Face.addr (List.getD xs j default) == Face.addr r) = false) (List.length xs) (0 : Nat) fun (i4 s4 : Nat) (j4 : Nat → Value) =>
  Adv.split (5 : Nat)
    (Adv.chk (11 : Nat) none
      (Adv.chk (12 : Nat) (some (Value.agg (Array.mk (faceL (List.getD xs s4 default))))) (Adv.purs (13 : Nat) (Face.addr (List.getD xs s4 default) == Face.addr r) Adv.nil Adv.nil)))
    Adv.nil) (by kernel_rfl) (by kernel_rfl) (p := ((List.length xs + (0 : Nat) = List.length xs ∧ ∀ (j : Nat), j < (0 : Nat) → (Face.addr (List.getD xs j default) == Face.addr r) = false) ∧
    Value.int IntKind.i64 (0 : Int) = Value.int IntKind.i64 (0 : Int) ∧ Heap.mk (nat_lit 0) Trie.leaf = Heap.mk (nat_lit 0) Trie.leaf) ∧
  ∀ (i4 s4 : Nat) (j4 : Nat → Value),
    (i4 + s4 = List.length xs ∧ ∀ (j : Nat), j < s4 → (Face.addr (List.getD xs j default) == Face.addr r) = false) →
      (decide ((↑s4 : Int) < (↑(List.length xs) : Int)) = true →
          ((0 : Int) ≤ (↑s4 : Int) ∧ (↑s4 : Int) < (↑(List.length xs) : Int)) ∧
            Ask.holds Try.prog (Ask.part (Array.toList (Array.mk (facesL xs))) (Int.toNat (↑(Int.toNat (↑s4 : Int) * nat_lit 97) : Int)) (nat_lit 97) (faceL (List.getD xs s4 default))) ∧
              CallK Try.prog (nat_lit 130)
                  [Value.agg (Array.mk (faceL (List.getD xs s4 default))), Value.iface (nat_lit 1000001) (Value.tuple (Array.mk [Value.int IntKind.i64 (0 : Int), Value.agg (Array.mk (faceL r))]))]
                  (Value.bool (Face.addr (List.getD xs s4 default) == Face.addr r)) ∧
                ((Face.addr (List.getD xs s4 default) == Face.addr r) = true → Value.int IntKind.i64 (↑s4 : Int) = Value.int IntKind.i64 (idxB xs fun (q : Face) => Face.addr q == Face.addr r)) ∧
                  ((Face.addr (List.getD xs s4 default) == Face.addr r) = false →
                    ∃ (i4' : Nat),
                      ∃ (s4' : Nat),
                        i4' < i4 ∧
                          (i4' + s4' = List.length xs ∧ ∀ (j : Nat), j < s4' → (Face.addr (List.getD xs j default) == Face.addr r) = false) ∧
                            Value.int IntKind.i64 (IntKind.wrap IntKind.i64 ((↑s4 : Int) + (1 : Int))) = Value.int IntKind.i64 (↑s4' : Int) ∧ True ∧ true = true ∧ True)) ∧
        (decide ((↑s4 : Int) < (↑(List.length xs) : Int)) = false → Value.int IntKind.i64 (-1 : Int) = Value.int IntKind.i64 (idxB xs fun (q : Face) => Face.addr q == Face.addr r))) (by kernel_rfl) (by
    refine ⟨⟨⟨by omega, fun j hj => by omega⟩, rfl, rfl⟩, fun i k j ⟨q1, q2⟩ => ⟨fun h1 => ?_, fun h1 => ?_⟩⟩
    · have hk : k < xs.length := by have := of_decide_eq_true h1; omega
      exact ⟨⟨by omega, by omega⟩, faces_part hk 0 97 (by omega) rfl rfl, faceSame_w _ _, fun h2 => congrArg (Value.int .i64) (idxB_some (d := default) hk h2 q2).symm, fun h2 => ⟨i - 1, k + 1, by omega, ⟨by omega, lt_next q2 h2⟩, wrap_next k (by omega), trivial, rfl, trivial⟩⟩
    · have hk : k = xs.length := by have := of_decide_eq_false h1; omega
      subst hk
      exact congrArg (Value.int .i64) (idxB_none (d := default) q2).symm)
theorem anyFace_w (xs : List Face) (r : Face) (hl : xs.length ≤ 1099511627776) : CallK Try.prog 132 [facesV xs, .func (.func 130) (Array.mk []) (Array.mk [vpt 0 (Array.mk (faceL r))])] (.bool (xs.any fun q => q.addr == r.addr)) :=
  CallK.via progOK (pfs []) [] 100 (Adv.pur (3 : Nat) (Value.int IntKind.i64 (idxB xs fun (q : Face) => Face.addr q == Face.addr r)) (Adv.split (4 : Nat) Adv.nil Adv.nil)) (by kernel_rfl) (by kernel_rfl) (p := CallK Try.prog (nat_lit 74)
    [Value.iface (nat_lit 1000000) (Value.tuple (Array.mk [Value.int IntKind.i64 (↑(List.length xs) : Int), Value.agg (Array.mk (facesL xs))])),
      Value.func (Fn.func (nat_lit 130)) (Array.mk []) (Array.mk [Value.iface (nat_lit 1000001) (Value.tuple (Array.mk [Value.int IntKind.i64 (0 : Int), Value.agg (Array.mk (faceL r))]))])]
    (Value.int IntKind.i64 (idxB xs fun (q : Face) => Face.addr q == Face.addr r)) ∧
  (decide ((idxB xs fun (q : Face) => Face.addr q == Face.addr r) ≥ (0 : Int)) = true → Value.bool true = Value.bool (List.any xs fun (q : Face) => Face.addr q == Face.addr r)) ∧
    (decide ((idxB xs fun (q : Face) => Face.addr q == Face.addr r) ≥ (0 : Int)) = false → Value.bool false = Value.bool (List.any xs fun (q : Face) => Face.addr q == Face.addr r))) (by kernel_rfl) (by
    rw [← anyB_idx]
    exact ⟨idxFace_w xs r hl, fun h => by rw [← h], fun h => by rw [← h]⟩)
theorem lblRight3_w (a b d : Lbl) : CallK Try.prog 114 [vsl 3 (Array.mk (lblL a ++ lblL b ++ lblL d))] (.bool (rightL a && rightL b && rightL d)) :=
  CallK.via progOK (pfs []) [] 100 (Adv.purs (10 : Nat) (rightL a) (Adv.purs (20 : Nat) (rightL b) (Adv.purs (30 : Nat) (rightL d) Adv.nil Adv.nil) Adv.nil) Adv.nil) (by kernel_rfl) (by kernel_rfl) (p := CallK Try.prog (nat_lit 142) [Value.agg (Array.mk (lblL a))] (Value.bool (rightL a)) ∧
  (rightL a = true →
      CallK Try.prog (nat_lit 142) [Value.agg (Array.mk (lblL b))] (Value.bool (rightL b)) ∧
        (rightL b = true →
            CallK Try.prog (nat_lit 142) [Value.agg (Array.mk (lblL d))] (Value.bool (rightL d)) ∧
              (rightL d = true → Value.bool true = Value.bool (rightL a && rightL b && rightL d)) ∧ (rightL d = false → Value.bool false = Value.bool (rightL a && rightL b && rightL d))) ∧
          (rightL b = false → Value.bool false = Value.bool (rightL a && rightL b && rightL d))) ∧
    (rightL a = false → Value.bool false = Value.bool (rightL a && rightL b && rightL d))) (by kernel_rfl) (by
    simp only [Value.bool.injEq]
    repeat' (first | exact lblRight_w _ | apply And.intro | intro)
    all_goals grind)
theorem tblGet {xs : List Lbl} {x : Lbl} (h : keyHas xs x = true) : (Ask.get (nums xs.length) (keyIdx xs x) (.int .i64 (keyIdx xs x : Nat))).holds Try.prog := key_get h
theorem tblFind_t (xs : List Lbl) (x : Lbl) (h : keyHas xs x = true) : CallK Try.prog 150 [tblV xs, lblV x] (.tuple (Array.mk [.int .i64 (keyIdx xs x : Nat), .bool true])) :=
  CallK.via progOK (pfs []) [] 100 (Adv.cas (10 : Nat) (keyHas xs x) (Adv.chk (10 : Nat) (some (Value.tuple (Array.mk [Value.int IntKind.i64 (Int.ofNat (keyIdx xs x)), keyVal xs x]))) Adv.nil)
  (Adv.chk (10 : Nat) (some Value.nilFunc) Adv.nil)) (by kernel_rfl) (by kernel_rfl) (p := (keyHas xs x = true →
    (Ask.holds Try.prog (Ask.get (Array.toList (Array.mk (nums (List.length xs)))) (Int.toNat (Int.ofNat (keyIdx xs x))) (Value.int IntKind.i64 (↑(keyIdx xs x) : Int))) ∧
        Ask.holds Try.prog (Ask.find (nat_lit 44) (Value.agg (Array.mk (lblL x))) (Array.toList (Array.mk (lblKeys xs))) (some (Int.toNat (Int.ofNat (keyIdx xs x)))))) ∧
      Value.tuple (Array.mk [Value.int IntKind.i64 (↑(keyIdx xs x) : Int), Value.bool true]) = Value.tuple (Array.mk [Value.int IntKind.i64 (↑(keyIdx xs x) : Int), Value.bool true])) ∧
  (keyHas xs x = false →
    Ask.holds Try.prog (Ask.find (nat_lit 44) (Value.agg (Array.mk (lblL x))) (Array.toList (Array.mk (lblKeys xs))) none) ∧
      Value.tuple (Array.mk [Value.int IntKind.i64 (0 : Int), Value.bool false]) = Value.tuple (Array.mk [Value.int IntKind.i64 (↑(keyIdx xs x) : Int), Value.bool true]))) (by kernel_rfl) (by
    exact ⟨fun _ => ⟨⟨tblGet h, key_find h⟩, rfl⟩, fun e => by rw [h] at e; cases e⟩)
theorem tblFind_f (xs : List Lbl) (x : Lbl) (h : keyHas xs x = false) : CallK Try.prog 150 [tblV xs, lblV x] (.tuple (Array.mk [.int .i64 0, .bool false])) :=
  CallK.via progOK (pfs []) [] 100 (Adv.cas (10 : Nat) (keyHas xs x) (Adv.chk (10 : Nat) (some (Value.tuple (Array.mk [Value.int IntKind.i64 (Int.ofNat (keyIdx xs x)), keyVal xs x]))) Adv.nil)
  (Adv.chk (10 : Nat) (some Value.nilFunc) Adv.nil)) (by kernel_rfl) (by kernel_rfl) (p := (keyHas xs x = true →
    (Ask.holds Try.prog (Ask.get (Array.toList (Array.mk (nums (List.length xs)))) (Int.toNat (Int.ofNat (keyIdx xs x))) (Value.int IntKind.i64 (↑(keyIdx xs x) : Int))) ∧
        Ask.holds Try.prog (Ask.find (nat_lit 44) (Value.agg (Array.mk (lblL x))) (Array.toList (Array.mk (lblKeys xs))) (some (Int.toNat (Int.ofNat (keyIdx xs x)))))) ∧
      Value.tuple (Array.mk [Value.int IntKind.i64 (↑(keyIdx xs x) : Int), Value.bool true]) = Value.tuple (Array.mk [Value.int IntKind.i64 (0 : Int), Value.bool false])) ∧
  (keyHas xs x = false →
    Ask.holds Try.prog (Ask.find (nat_lit 44) (Value.agg (Array.mk (lblL x))) (Array.toList (Array.mk (lblKeys xs))) none) ∧
      Value.tuple (Array.mk [Value.int IntKind.i64 (0 : Int), Value.bool false]) = Value.tuple (Array.mk [Value.int IntKind.i64 (0 : Int), Value.bool false]))) (by kernel_rfl) (by
    exact ⟨fun e => (by rw [h] at e; cases e), fun _ => ⟨key_none h, rfl⟩⟩)
/-- Are an interface's labels right? -/
def rangedB (c : Conf) (x : Face) : Bool := keyHas c.labels x.dflt && (rightL x.lo && rightL x.hi && rightL x.dflt) && domL x.hi x.lo && inL x.dflt x.lo x.hi && (!(x.mode == 0) || lblEq x.lo x.hi && lblEq x.lo x.dflt)
theorem ranged_w (c : Conf) (x : Face) : CallK Try.prog 133 [vpt 0 (Array.mk (lookL c)), faceV x] (.bool (rangedB c x)) :=
  CallK.via progOK (pfs []) [] 100 (Adv.cas (8 : Nat) (keyHas (Conf.labels c) (Face.dflt x))
  (Adv.pur (8 : Nat) (Value.tuple (Array.mk [Value.int IntKind.i64 (↑(keyIdx (Conf.labels c) (Face.dflt x)) : Int), Value.bool true]))
    (Adv.bors (24 : Nat) (rightL (Face.lo x) && rightL (Face.hi x) && rightL (Face.dflt x))
      (Adv.purs (32 : Nat) (domL (Face.hi x) (Face.lo x))
        (Adv.purs (42 : Nat) (inL (Face.dflt x) (Face.lo x) (Face.hi x))
          (Adv.split (47 : Nat) Adv.nil
            (Adv.chks (53 : Nat) (some (Value.bool (lblEq (Face.lo x) (Face.hi x)))) (Adv.chks (59 : Nat) (some (Value.bool (lblEq (Face.lo x) (Face.dflt x)))) Adv.nil Adv.nil) Adv.nil))
          Adv.nil)
        Adv.nil)
      Adv.nil))
  (Adv.pur (8 : Nat) (Value.tuple (Array.mk [Value.int IntKind.i64 (0 : Int), Value.bool false])) Adv.nil)) (by kernel_rfl) (by kernel_rfl) (p := (keyHas (Conf.labels c) (Face.dflt x) = true →
    CallK Try.prog (nat_lit 150)
        [Value.iface (nat_lit 1000001)
            (Value.tuple
              (Array.mk
                [Value.int IntKind.i64 (0 : Int),
                  Value.agg
                    (Array.mk
                      [Value.iface (nat_lit 1000000) (Value.tuple (Array.mk [Value.int IntKind.i64 (↑(List.length (Conf.labels c)) : Int), Value.agg (Array.mk (lblsL (Conf.labels c)))])),
                        Value.iface (nat_lit 1000004) (Value.tuple (Array.mk [Value.agg (Array.mk (lblKeys (Conf.labels c))), Value.agg (Array.mk (nums (List.length (Conf.labels c))))]))])])),
          Value.agg (Array.mk (lblL (Face.dflt x)))]
        (Value.tuple (Array.mk [Value.int IntKind.i64 (↑(keyIdx (Conf.labels c) (Face.dflt x)) : Int), Value.bool true])) ∧
      CallK Try.prog (nat_lit 114)
          [Value.iface (nat_lit 1000000)
              (Value.tuple
                (Array.mk
                  [Value.int IntKind.i64 (3 : Int),
                    Value.agg
                      (Array.mk
                        (Value.int IntKind.i64 (Lbl.level (Face.lo x)) ::
                          Value.int IntKind.u8 (List.getD (Lbl.cats (Face.lo x)) (0 : Nat) (0 : Int)) ::
                            Value.int IntKind.u8 (List.getD (Lbl.cats (Face.lo x)) (1 : Nat) (0 : Int)) ::
                              Value.int IntKind.u8 (List.getD (Lbl.cats (Face.lo x)) (2 : Nat) (0 : Int)) ::
                                Value.int IntKind.u8 (List.getD (Lbl.cats (Face.lo x)) (3 : Nat) (0 : Int)) ::
                                  Value.int IntKind.u8 (List.getD (Lbl.cats (Face.lo x)) (4 : Nat) (0 : Int)) ::
                                    Value.int IntKind.u8 (List.getD (Lbl.cats (Face.lo x)) (5 : Nat) (0 : Int)) ::
                                      Value.int IntKind.u8 (List.getD (Lbl.cats (Face.lo x)) (6 : Nat) (0 : Int)) ::
                                        Value.int IntKind.u8 (List.getD (Lbl.cats (Face.lo x)) (7 : Nat) (0 : Int)) ::
                                          Value.int IntKind.u8 (List.getD (Lbl.cats (Face.lo x)) (8 : Nat) (0 : Int)) ::
                                            Value.int IntKind.u8 (List.getD (Lbl.cats (Face.lo x)) (9 : Nat) (0 : Int)) ::
                                              Value.int IntKind.u8 (List.getD (Lbl.cats (Face.lo x)) (10 : Nat) (0 : Int)) ::
                                                Value.int IntKind.u8 (List.getD (Lbl.cats (Face.lo x)) (11 : Nat) (0 : Int)) ::
                                                  Value.int IntKind.u8 (List.getD (Lbl.cats (Face.lo x)) (12 : Nat) (0 : Int)) ::
                                                    Value.int IntKind.u8 (List.getD (Lbl.cats (Face.lo x)) (13 : Nat) (0 : Int)) ::
                                                      Value.int IntKind.u8 (List.getD (Lbl.cats (Face.lo x)) (14 : Nat) (0 : Int)) ::
                                                        Value.int IntKind.u8 (List.getD (Lbl.cats (Face.lo x)) (15 : Nat) (0 : Int)) ::
                                                          Value.int IntKind.u8 (List.getD (Lbl.cats (Face.lo x)) (16 : Nat) (0 : Int)) ::
                                                            Value.int IntKind.u8 (List.getD (Lbl.cats (Face.lo x)) (17 : Nat) (0 : Int)) ::
                                                              Value.int IntKind.u8 (List.getD (Lbl.cats (Face.lo x)) (18 : Nat) (0 : Int)) ::
                                                                Value.int IntKind.u8 (List.getD (Lbl.cats (Face.lo x)) (19 : Nat) (0 : Int)) ::
                                                                  Value.int IntKind.u8 (List.getD (Lbl.cats (Face.lo x)) (20 : Nat) (0 : Int)) ::
                                                                    Value.int IntKind.u8 (List.getD (Lbl.cats (Face.lo x)) (21 : Nat) (0 : Int)) ::
                                                                      Value.int IntKind.u8 (List.getD (Lbl.cats (Face.lo x)) (22 : Nat) (0 : Int)) ::
                                                                        Value.int IntKind.u8 (List.getD (Lbl.cats (Face.lo x)) (23 : Nat) (0 : Int)) ::
                                                                          Value.int IntKind.u8 (List.getD (Lbl.cats (Face.lo x)) (24 : Nat) (0 : Int)) ::
                                                                            Value.int IntKind.u8 (List.getD (Lbl.cats (Face.lo x)) (25 : Nat) (0 : Int)) ::
                                                                              Value.int IntKind.u8 (List.getD (Lbl.cats (Face.lo x)) (26 : Nat) (0 : Int)) ::
                                                                                Value.int IntKind.u8 (List.getD (Lbl.cats (Face.lo x)) (27 : Nat) (0 : Int)) ::
                                                                                  Value.int IntKind.u8 (List.getD (Lbl.cats (Face.lo x)) (28 : Nat) (0 : Int)) ::
                                                                                    Value.int IntKind.u8 (List.getD (Lbl.cats (Face.lo x)) (29 : Nat) (0 : Int)) ::
                                                                                      Value.int IntKind.i64 (Lbl.level (Face.hi x)) ::
                                                                                        Value.int IntKind.u8 (List.getD (Lbl.cats (Face.hi x)) (0 : Nat) (0 : Int)) ::
                                                                                          Value.int IntKind.u8 (List.getD (Lbl.cats (Face.hi x)) (1 : Nat) (0 : Int)) ::
                                                                                            Value.int IntKind.u8 (List.getD (Lbl.cats (Face.hi x)) (2 : Nat) (0 : Int)) ::
                                                                                              Value.int IntKind.u8 (List.getD (Lbl.cats (Face.hi x)) (3 : Nat) (0 : Int)) ::
                                                                                                Value.int IntKind.u8 (List.getD (Lbl.cats (Face.hi x)) (4 : Nat) (0 : Int)) ::
                                                                                                  Value.int IntKind.u8 (List.getD (Lbl.cats (Face.hi x)) (5 : Nat) (0 : Int)) ::
                                                                                                    Value.int IntKind.u8 (List.getD (Lbl.cats (Face.hi x)) (6 : Nat) (0 : Int)) ::
                                                                                                      Value.int IntKind.u8 (List.getD (Lbl.cats (Face.hi x)) (7 : Nat) (0 : Int)) ::
                                                                                                        Value.int IntKind.u8 (List.getD (Lbl.cats (Face.hi x)) (8 : Nat) (0 : Int)) ::
                                                                                                          Value.int IntKind.u8 (List.getD (Lbl.cats (Face.hi x)) (9 : Nat) (0 : Int)) ::
                                                                                                            Value.int IntKind.u8 (List.getD (Lbl.cats (Face.hi x)) (10 : Nat) (0 : Int)) ::
                                                                                                              Value.int IntKind.u8 (List.getD (Lbl.cats (Face.hi x)) (11 : Nat) (0 : Int)) ::
                                                                                                                Value.int IntKind.u8 (List.getD (Lbl.cats (Face.hi x)) (12 : Nat) (0 : Int)) ::
                                                                                                                  Value.int IntKind.u8 (List.getD (Lbl.cats (Face.hi x)) (13 : Nat) (0 : Int)) ::
                                                                                                                    Value.int IntKind.u8 (List.getD (Lbl.cats (Face.hi x)) (14 : Nat) (0 : Int)) ::
                                                                                                                      Value.int IntKind.u8 (List.getD (Lbl.cats (Face.hi x)) (15 : Nat) (0 : Int)) ::
                                                                                                                        Value.int IntKind.u8 (List.getD (Lbl.cats (Face.hi x)) (16 : Nat) (0 : Int)) ::
                                                                                                                          Value.int IntKind.u8
                                                                                                                              (List.getD (Lbl.cats (Face.hi x)) (17 : Nat) (0 : Int)) ::
                                                                                                                            Value.int IntKind.u8
                                                                                                                                (List.getD (Lbl.cats (Face.hi x)) (18 : Nat) (0 : Int)) ::
                                                                                                                              Value.int IntKind.u8
                                                                                                                                  (List.getD (Lbl.cats (Face.hi x)) (19 : Nat) (0 : Int)) ::
                                                                                                                                Value.int IntKind.u8
                                                                                                                                    (List.getD (Lbl.cats (Face.hi x)) (20 : Nat) (0 : Int)) ::
                                                                                                                                  Value.int IntKind.u8
                                                                                                                                      (List.getD (Lbl.cats (Face.hi x)) (21 : Nat) (0 : Int)) ::
                                                                                                                                    Value.int IntKind.u8
                                                                                                                                        (List.getD (Lbl.cats (Face.hi x)) (22 : Nat) (0 : Int)) ::
                                                                                                                                      Value.int IntKind.u8
                                                                                                                                          (List.getD (Lbl.cats (Face.hi x)) (23 : Nat) (0 : Int)) ::
                                                                                                                                        Value.int IntKind.u8
                                                                                                                                            (List.getD (Lbl.cats (Face.hi x)) (24 : Nat) (0 : Int)) ::
                                                                                                                                          Value.int IntKind.u8
                                                                                                                                              (List.getD (Lbl.cats (Face.hi x)) (25 : Nat) (0 : Int)) ::
                                                                                                                                            Value.int IntKind.u8
                                                                                                                                                (List.getD (Lbl.cats (Face.hi x)) (26 : Nat)
                                                                                                                                                  (0 : Int)) ::
                                                                                                                                              Value.int IntKind.u8
                                                                                                                                                  (List.getD (Lbl.cats (Face.hi x)) (27 : Nat)
                                                                                                                                                    (0 : Int)) ::
                                                                                                                                                Value.int IntKind.u8
                                                                                                                                                    (List.getD (Lbl.cats (Face.hi x)) (28 : Nat)
                                                                                                                                                      (0 : Int)) ::
                                                                                                                                                  Value.int IntKind.u8
                                                                                                                                                      (List.getD (Lbl.cats (Face.hi x)) (29 : Nat)
                                                                                                                                                        (0 : Int)) ::
                                                                                                                                                    lblL (Face.dflt x)))]))]
          (Value.bool (rightL (Face.lo x) && rightL (Face.hi x) && rightL (Face.dflt x))) ∧
        ((rightL (Face.lo x) && rightL (Face.hi x) && rightL (Face.dflt x)) = true →
            CallK Try.prog (nat_lit 122) [Value.agg (Array.mk (lblL (Face.hi x))), Value.agg (Array.mk (lblL (Face.lo x)))] (Value.bool (domL (Face.hi x) (Face.lo x))) ∧
              (domL (Face.hi x) (Face.lo x) = true →
                  CallK Try.prog (nat_lit 117) [Value.agg (Array.mk (lblL (Face.dflt x))), Value.agg (Array.mk (lblL (Face.lo x))), Value.agg (Array.mk (lblL (Face.hi x)))]
                      (Value.bool (inL (Face.dflt x) (Face.lo x) (Face.hi x))) ∧
                    (inL (Face.dflt x) (Face.lo x) (Face.hi x) = true →
                        ((Face.mode x != (0 : Int)) = true → Value.bool true = Value.bool (rangedB c x)) ∧
                          ((Face.mode x != (0 : Int)) = false →
                            Ask.holds Try.prog (Ask.eqv (nat_lit 44) (Value.agg (Array.mk (lblL (Face.lo x)))) (Value.agg (Array.mk (lblL (Face.hi x)))) (lblEq (Face.lo x) (Face.hi x))) ∧
                              (lblEq (Face.lo x) (Face.hi x) = true →
                                  Ask.holds Try.prog (Ask.eqv (nat_lit 44) (Value.agg (Array.mk (lblL (Face.lo x)))) (Value.agg (Array.mk (lblL (Face.dflt x)))) (lblEq (Face.lo x) (Face.dflt x))) ∧
                                    (lblEq (Face.lo x) (Face.dflt x) = true → Value.bool true = Value.bool (rangedB c x)) ∧
                                      (lblEq (Face.lo x) (Face.dflt x) = false → Value.bool false = Value.bool (rangedB c x))) ∧
                                (lblEq (Face.lo x) (Face.hi x) = false → Value.bool false = Value.bool (rangedB c x)))) ∧
                      (inL (Face.dflt x) (Face.lo x) (Face.hi x) = false → Value.bool false = Value.bool (rangedB c x))) ∧
                (domL (Face.hi x) (Face.lo x) = false → Value.bool false = Value.bool (rangedB c x))) ∧
          ((rightL (Face.lo x) && rightL (Face.hi x) && rightL (Face.dflt x)) = false → Value.bool false = Value.bool (rangedB c x))) ∧
  (keyHas (Conf.labels c) (Face.dflt x) = false →
    CallK Try.prog (nat_lit 150)
        [Value.iface (nat_lit 1000001)
            (Value.tuple
              (Array.mk
                [Value.int IntKind.i64 (0 : Int),
                  Value.agg
                    (Array.mk
                      [Value.iface (nat_lit 1000000) (Value.tuple (Array.mk [Value.int IntKind.i64 (↑(List.length (Conf.labels c)) : Int), Value.agg (Array.mk (lblsL (Conf.labels c)))])),
                        Value.iface (nat_lit 1000004) (Value.tuple (Array.mk [Value.agg (Array.mk (lblKeys (Conf.labels c))), Value.agg (Array.mk (nums (List.length (Conf.labels c))))]))])])),
          Value.agg (Array.mk (lblL (Face.dflt x)))]
        (Value.tuple (Array.mk [Value.int IntKind.i64 (0 : Int), Value.bool false])) ∧
      Value.bool false = Value.bool (rangedB c x))) (by kernel_rfl) (by
    simp only [Value.bool.injEq]
    repeat' (first | exact tblFind_t _ _ (by assumption) | exact tblFind_f _ _ (by assumption) | exact lblRight3_w _ _ _ | exact dom_w _ _ | exact in_w _ _ _ | exact lblEq_eqD _ _ | rfl | apply And.intro | intro)
    all_goals grind [rangedB])
/-- What is wrong with an interface behind others. -/
def faceE (c : Conf) (ys : List Face) (x : Face) : Int := if (kindI x.addr == 4) = false then 1 else if (ys.any fun q => q.addr == x.addr) = true then 7
  else if x.mtu < 68 ∨ 65535 < x.mtu ∨ x.mode < 0 ∨ 2 < x.mode then 1 else if x.mode = 1 ∧ (x.doi < 0 ∨ c.dois.length ≤ x.doi) then 1 else if rangedB c x = false then 8 else 0
theorem face_w (c : Conf) (x : Face) (ys : List Face) (hl : ys.length ≤ 1099511627776) (h0 : 0 ≤ x.addr) (h1 : x.addr < 4294967296) : CallK Try.prog 98 [vpt 0 (Array.mk (lookL c)), faceV x, facesV ys] (.int .i64 (faceE c ys x)) :=
  CallK.via progOK (pfs []) [] 100 (Adv.pur (6 : Nat) (Value.int IntKind.i64 (kindI (Face.addr x)))
  (Adv.split (7 : Nat) Adv.nil
    (Adv.bors (11 : Nat) (List.any ys fun (q : Face) => Face.addr q == Face.addr x) Adv.nil
      (Adv.split (15 : Nat) Adv.nil
        (Adv.split (19 : Nat) Adv.nil
          (Adv.split (24 : Nat) Adv.nil
            (Adv.split (29 : Nat) Adv.nil
              (Adv.split (34 : Nat) (Adv.split (38 : Nat) Adv.nil (Adv.split (48 : Nat) Adv.nil (Adv.purs (54 : Nat) (rangedB c x) Adv.nil Adv.nil)))
                (Adv.purs (40 : Nat) (rangedB c x) Adv.nil Adv.nil))))))))) (by kernel_rfl) (by kernel_rfl) (p := CallK Try.prog (nat_lit 131) [Value.int IntKind.u32 (Face.addr x)] (Value.int IntKind.i64 (kindI (Face.addr x))) ∧
  ((kindI (Face.addr x) != (4 : Int)) = true → Value.int IntKind.i64 (1 : Int) = Value.int IntKind.i64 (faceE c ys x)) ∧
    ((kindI (Face.addr x) != (4 : Int)) = false →
      CallK Try.prog (nat_lit 132)
          [Value.iface (nat_lit 1000000) (Value.tuple (Array.mk [Value.int IntKind.i64 (↑(List.length ys) : Int), Value.agg (Array.mk (facesL ys))])),
            Value.func (Fn.func (nat_lit 130)) (Array.mk []) (Array.mk [Value.iface (nat_lit 1000001) (Value.tuple (Array.mk [Value.int IntKind.i64 (0 : Int), Value.agg (Array.mk (faceL x))]))])]
          (Value.bool (List.any ys fun (q : Face) => Face.addr q == Face.addr x)) ∧
        ((List.any ys fun (q : Face) => Face.addr q == Face.addr x) = true → Value.int IntKind.i64 (7 : Int) = Value.int IntKind.i64 (faceE c ys x)) ∧
          ((List.any ys fun (q : Face) => Face.addr q == Face.addr x) = false →
            (decide (Face.mtu x < (68 : Int)) = true → Value.int IntKind.i64 (1 : Int) = Value.int IntKind.i64 (faceE c ys x)) ∧
              (decide (Face.mtu x < (68 : Int)) = false →
                (decide (Face.mtu x > (65535 : Int)) = true → Value.int IntKind.i64 (1 : Int) = Value.int IntKind.i64 (faceE c ys x)) ∧
                  (decide (Face.mtu x > (65535 : Int)) = false →
                    (decide (Face.mode x < (0 : Int)) = true → Value.int IntKind.i64 (1 : Int) = Value.int IntKind.i64 (faceE c ys x)) ∧
                      (decide (Face.mode x < (0 : Int)) = false →
                        (decide (Face.mode x > (2 : Int)) = true → Value.int IntKind.i64 (1 : Int) = Value.int IntKind.i64 (faceE c ys x)) ∧
                          (decide (Face.mode x > (2 : Int)) = false →
                            ((Face.mode x == (1 : Int)) = true →
                                (decide (Face.doi x < (0 : Int)) = true → Value.int IntKind.i64 (1 : Int) = Value.int IntKind.i64 (faceE c ys x)) ∧
                                  (decide (Face.doi x < (0 : Int)) = false →
                                    (decide (Face.doi x ≥ (↑(List.length (Conf.dois c)) : Int)) = true → Value.int IntKind.i64 (1 : Int) = Value.int IntKind.i64 (faceE c ys x)) ∧
                                      (decide (Face.doi x ≥ (↑(List.length (Conf.dois c)) : Int)) = false →
                                        CallK Try.prog (nat_lit 133)
                                            [Value.iface (nat_lit 1000001) (Value.tuple (Array.mk [Value.int IntKind.i64 (0 : Int), Value.agg (Array.mk (lookL c))])), Value.agg (Array.mk (faceL x))]
                                            (Value.bool (rangedB c x)) ∧
                                          (rangedB c x = true → Value.int IntKind.i64 (0 : Int) = Value.int IntKind.i64 (faceE c ys x)) ∧
                                            (rangedB c x = false → Value.int IntKind.i64 (8 : Int) = Value.int IntKind.i64 (faceE c ys x))))) ∧
                              ((Face.mode x == (1 : Int)) = false →
                                CallK Try.prog (nat_lit 133)
                                    [Value.iface (nat_lit 1000001) (Value.tuple (Array.mk [Value.int IntKind.i64 (0 : Int), Value.agg (Array.mk (lookL c))])), Value.agg (Array.mk (faceL x))]
                                    (Value.bool (rangedB c x)) ∧
                                  (rangedB c x = true → Value.int IntKind.i64 (0 : Int) = Value.int IntKind.i64 (faceE c ys x)) ∧
                                    (rangedB c x = false → Value.int IntKind.i64 (8 : Int) = Value.int IntKind.i64 (faceE c ys x)))))))))) (by kernel_rfl) (by
    simp only [Value.int.injEq]
    repeat' (first | exact kind_w _ h0 h1 | exact anyFace_w _ _ hl | exact ranged_w _ _ | rfl | apply And.intro | intro)
    all_goals grind [faceE])
end Go.Proofs.Ytepijhnfeafmaaa
