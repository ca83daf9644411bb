/- Texts packed together: CDoi CLook. -/
import Derived.Test.YtepijhnfeafmaaaZ17
section
/- What the functions of domains answer. -/
set_option linter.unusedVariables false
set_option linter.unusedSimpArgs false
set_option maxRecDepth 100000
namespace Go.Proofs.Ytepijhnfeafmaaa
open Go Go.Ideal
def trues (n : Nat) : List Value := List.replicate n (.bool true)
def hereK (ys : List Pair) : List Value := ys.map fun p => .int .i64 p.here
def hereHas (ys : List Pair) (n : Int) : Bool := ys.any fun p => n == p.here
def hereIdx (ys : List Pair) (n : Int) : Nat := ys.findIdx fun p => n == p.here
def thereK (ys : List Pair) : List Value := ys.map fun p => .int .i64 p.there
def thereHas (ys : List Pair) (n : Int) : Bool := ys.any fun p => n == p.there
def thereIdx (ys : List Pair) (n : Int) : Nat := ys.findIdx fun p => n == p.there
def trueV (_ : List Pair) (_ : Int) : Value := .bool true
/-- Is a pair right behind others? -/
def pairOK (xs : List Pair) (most : Int) (k : Nat) : Bool :=
  decide (0 ≤ (xs.getD k default).here) && decide ((xs.getD k default).here ≤ most) && decide (0 ≤ (xs.getD k default).there) && decide ((xs.getD k default).there ≤ most) &&
  !hereHas (xs.take k) (xs.getD k default).here && !thereHas (xs.take k) (xs.getD k default).there
def pairsR (xs : List Pair) (most : Int) : Bool := decide (xs.length ≤ 256) && (List.range xs.length).all (pairOK xs most)
theorem pairsR_no {xs : List Pair} {most : Int} {k : Nat} (hk : k < xs.length) (h : pairOK xs most k = false) : Value.bool false = Value.bool (pairsR xs most) := by
  unfold pairsR; rw [allB_no hk h, Bool.and_false]
theorem here_find {ys : List Pair} {n : Int} (h : hereHas ys n = true) : (Ask.find 3 (.int .i64 n) (hereK ys) (some (hereIdx ys n))).holds Try.prog := by
  show findI _ _ _ _ 0 = _
  rw [hereK, findI_mapK (eq := fun p => n == p.here) (fun a => by kernel_rfl), (findIdx_of_any h).1]; rfl
theorem here_none {ys : List Pair} {n : Int} (h : hereHas ys n = false) : (Ask.find 3 (.int .i64 n) (hereK ys) none).holds Try.prog := by
  show findI _ _ _ _ 0 = _
  rw [hereK, findI_mapK (eq := fun p => n == p.here) (fun a => by kernel_rfl), findIdx_of_not_any h]; rfl
theorem there_find {ys : List Pair} {n : Int} (h : thereHas ys n = true) : (Ask.find 3 (.int .i64 n) (thereK ys) (some (thereIdx ys n))).holds Try.prog := by
  show findI _ _ _ _ 0 = _
  rw [thereK, findI_mapK (eq := fun p => n == p.there) (fun a => by kernel_rfl), (findIdx_of_any h).1]; rfl
theorem there_none {ys : List Pair} {n : Int} (h : thereHas ys n = false) : (Ask.find 3 (.int .i64 n) (thereK ys) none).holds Try.prog := by
  show findI _ _ _ _ 0 = _
  rw [thereK, findI_mapK (eq := fun p => n == p.there) (fun a => by kernel_rfl), findIdx_of_not_any h]; rfl
theorem trues_get {n k : Nat} (h : k < n) : (Ask.get (trues n) k (.bool true)).holds Try.prog := by
  show (trues n)[k]? = _
  simp [trues, h]
theorem trues_snoc (n : Nat) : trues (n + 1) = trues n ++ [.bool true] := by simp [trues, List.replicate_succ']
theorem trues_refs (n N : Nat) : (trues n).all (refsOK 8 N) = true := by
  rw [List.all_eq_true]; intro v hv
  simp only [trues, List.mem_replicate] at hv
  obtain ⟨_, rfl⟩ := hv
  rfl
theorem pairs_part {xs : List Pair} {k : Nat} (hk : k < xs.length) (r m : Nat) (hr : r + m ≤ 2) {o : Nat} (ho : o = k * 2 + r) {out : List Value} (e : ((pairL (xs.getD k default)).drop r).take m = out) : (Ask.part (pairsL xs) o m out).holds Try.prog := by
  subst ho
  exact cellsOf_part (P := Try.prog) (f := pairL) pairL_length default hk r m hr out e
theorem pairs_w (xs : List Pair) (most : Int) : CallK Try.prog 129 [pairsV xs, .int .i64 most] (.bool (pairsR xs most)) :=
  CallK.via progOK (pfs []) [] 100 (Adv.split (6 : Nat) Adv.nil
  (Adv.loop (18 : Nat) (fun (k : Nat) => [((16 : Nat), Value.int IntKind.i64 (↑k : Int))])
    ((fun (h : Heap) (k : Nat) => Heap.set (Heap.set h (0 : Nat) (Blk.map (hereK (List.take k xs)) (trues k))) (1 : Nat) (Blk.map (thereK (List.take k xs)) (trues k)))
      (Heap.mk (nat_lit 2) (Trie.node (some (Blk.map [] [])) (Trie.node (some (Blk.map [] [])) Trie.leaf Trie.leaf) Trie.leaf)))
    (fun (i k : Nat) => i + k = List.length xs ∧ ∀ (j : Nat), j < k → pairOK xs most j = true) (List.length xs) (0 : Nat) fun (i18 s18 : Nat) (j18 : Nat → Value) =>
    Adv.split (20 : Nat)
      (Adv.chk (25 : Nat) none
        (Adv.chk (26 : Nat) (some (Value.agg (Array.mk [Value.int IntKind.i64 (Pair.here (List.getD xs s18 default)), Value.int IntKind.i64 (Pair.there (List.getD xs s18 default))])))
          (Adv.split (33 : Nat) Adv.nil
            (Adv.split (38 : Nat) Adv.nil
              (Adv.split (43 : Nat) Adv.nil
                (Adv.split (49 : Nat) Adv.nil
                  (Adv.cas (55 : Nat) (hereHas (List.take s18 xs) (Pair.here (List.getD xs s18 default)))
                    (Adv.chk (55 : Nat)
                      (some
                        (Value.tuple
                          (Array.mk
                            [Value.int IntKind.i64 (Int.ofNat (hereIdx (List.take s18 xs) (Pair.here (List.getD xs s18 default)))), trueV (List.take s18 xs) (Pair.here (List.getD xs s18 default))])))
                      Adv.nil)
                    (Adv.chk (55 : Nat) (some Value.nilFunc)
                      (Adv.cas (61 : Nat) (thereHas (List.take s18 xs) (Pair.there (List.getD xs s18 default)))
                        (Adv.chk (61 : Nat)
                          (some
                            (Value.tuple
                              (Array.mk
                                [Value.int IntKind.i64 (Int.ofNat (thereIdx (List.take s18 xs) (Pair.there (List.getD xs s18 default)))),
                                  trueV (List.take s18 xs) (Pair.there (List.getD xs s18 default))])))
                          Adv.nil)
                        (Adv.chk (61 : Nat) (some Value.nilFunc) (Adv.chk (70 : Nat) (some Value.nilFunc) (Adv.chk (71 : Nat) (some Value.nilFunc) Adv.nil))))))))))))
      Adv.nil)) (by kernel_rfl) (by kernel_rfl) (p := (decide ((↑(List.length xs) : Int) > (256 : Int)) = true → Value.bool false = Value.bool (pairsR xs most)) ∧
  (decide ((↑(List.length xs) : Int) > (256 : Int)) = false →
    ((List.length xs + (0 : Nat) = List.length xs ∧ ∀ (j : Nat), j < (0 : Nat) → pairOK xs most j = true) ∧
        Value.int IntKind.i64 (0 : Int) = Value.int IntKind.i64 (0 : Int) ∧
          Heap.mk (nat_lit 2) (Trie.node (some (Blk.map [] [])) (Trie.node (some (Blk.map [] [])) Trie.leaf Trie.leaf) Trie.leaf) =
            Heap.mk (nat_lit 2) (Trie.node (some (Blk.map [] [])) (Trie.node (some (Blk.map [] [])) Trie.leaf Trie.leaf) Trie.leaf)) ∧
      ∀ (i18 s18 : Nat) (j18 : Nat → Value),
        (i18 + s18 = List.length xs ∧ ∀ (j : Nat), j < s18 → pairOK xs most j = true) →
          (decide ((↑s18 : Int) < (↑(List.length xs) : Int)) = true →
              ((0 : Int) ≤ (↑s18 : Int) ∧ (↑s18 : Int) < (↑(List.length xs) : Int)) ∧
                Ask.holds Try.prog
                    (Ask.part (Array.toList (Array.mk (pairsL xs))) (Int.toNat (↑(Int.toNat (↑s18 : Int) * nat_lit 2) : Int)) (nat_lit 2)
                      [Value.int IntKind.i64 (Pair.here (List.getD xs s18 default)), Value.int IntKind.i64 (Pair.there (List.getD xs s18 default))]) ∧
                  (decide (Pair.here (List.getD xs s18 default) < (0 : Int)) = true → Value.bool false = Value.bool (pairsR xs most)) ∧
                    (decide (Pair.here (List.getD xs s18 default) < (0 : Int)) = false →
                      (decide (Pair.here (List.getD xs s18 default) > most) = true → Value.bool false = Value.bool (pairsR xs most)) ∧
                        (decide (Pair.here (List.getD xs s18 default) > most) = false →
                          (decide (Pair.there (List.getD xs s18 default) < (0 : Int)) = true → Value.bool false = Value.bool (pairsR xs most)) ∧
                            (decide (Pair.there (List.getD xs s18 default) < (0 : Int)) = false →
                              (decide (Pair.there (List.getD xs s18 default) > most) = true → Value.bool false = Value.bool (pairsR xs most)) ∧
                                (decide (Pair.there (List.getD xs s18 default) > most) = false →
                                  (hereHas (List.take s18 xs) (Pair.here (List.getD xs s18 default)) = true →
                                      (Ask.holds Try.prog (Ask.get (trues s18) (Int.toNat (Int.ofNat (hereIdx (List.take s18 xs) (Pair.here (List.getD xs s18 default))))) (Value.bool true)) ∧
                                          Ask.holds Try.prog
                                            (Ask.find (nat_lit 3) (Value.int IntKind.i64 (Pair.here (List.getD xs s18 default))) (hereK (List.take s18 xs))
                                              (some (Int.toNat (Int.ofNat (hereIdx (List.take s18 xs) (Pair.here (List.getD xs s18 default)))))))) ∧
                                        Value.bool false = Value.bool (pairsR xs most)) ∧
                                    (hereHas (List.take s18 xs) (Pair.here (List.getD xs s18 default)) = false →
                                      Ask.holds Try.prog (Ask.find (nat_lit 3) (Value.int IntKind.i64 (Pair.here (List.getD xs s18 default))) (hereK (List.take s18 xs)) none) ∧
                                        (thereHas (List.take s18 xs) (Pair.there (List.getD xs s18 default)) = true →
                                            (Ask.holds Try.prog (Ask.get (trues s18) (Int.toNat (Int.ofNat (thereIdx (List.take s18 xs) (Pair.there (List.getD xs s18 default))))) (Value.bool true)) ∧
                                                Ask.holds Try.prog
                                                  (Ask.find (nat_lit 3) (Value.int IntKind.i64 (Pair.there (List.getD xs s18 default))) (thereK (List.take s18 xs))
                                                    (some (Int.toNat (Int.ofNat (thereIdx (List.take s18 xs) (Pair.there (List.getD xs s18 default)))))))) ∧
                                              Value.bool false = Value.bool (pairsR xs most)) ∧
                                          (thereHas (List.take s18 xs) (Pair.there (List.getD xs s18 default)) = false →
                                            Ask.holds Try.prog (Ask.find (nat_lit 3) (Value.int IntKind.i64 (Pair.there (List.getD xs s18 default))) (thereK (List.take s18 xs)) none) ∧
                                              Ask.holds Try.prog (Ask.find (nat_lit 3) (Value.int IntKind.i64 (Pair.here (List.getD xs s18 default))) (hereK (List.take s18 xs)) none) ∧
                                                Ask.holds Try.prog (Ask.find (nat_lit 3) (Value.int IntKind.i64 (Pair.there (List.getD xs s18 default))) (thereK (List.take s18 xs)) none) ∧
                                                  Value.int IntKind.i64 (Pair.there (List.getD xs s18 default)) = Value.int IntKind.i64 (Pair.there (List.getD xs s18 default)) ∧
                                                    ∃ (i18' : Nat),
                                                      ∃ (s18' : Nat),
                                                        i18' < i18 ∧
                                                          (i18' + s18' = List.length xs ∧ ∀ (j : Nat), j < s18' → pairOK xs most j = true) ∧
                                                            Value.int IntKind.i64 (IntKind.wrap IntKind.i64 ((↑s18 : Int) + (1 : Int))) = Value.int IntKind.i64 (↑s18' : Int) ∧
                                                              (some
                                                                      (Blk.map (thereK (List.take s18 xs) ++ [Value.int IntKind.i64 (Pair.there (List.getD xs s18 default))])
                                                                        (trues s18 ++ [Value.bool true])) =
                                                                    some (Blk.map (thereK (List.take s18' xs)) (trues s18')) ∧
                                                                  some
                                                                        (Blk.map (hereK (List.take s18 xs) ++ [Value.int IntKind.i64 (Pair.here (List.getD xs s18 default))])
                                                                          (trues s18 ++ [Value.bool true])) =
                                                                      some (Blk.map (hereK (List.take s18' xs)) (trues s18')) ∧
                                                                    True) ∧
                                                                true = true ∧
                                                                  List.all (trues s18') (refsOK (nat_lit 8) (nat_lit 2)) = true ∧
                                                                    List.all (trues s18') (refsOK (nat_lit 8) (nat_lit 2)) = true ∧ True))))))) ∧
            (decide ((↑s18 : Int) < (↑(List.length xs) : Int)) = false → Value.bool true = Value.bool (pairsR xs most)))) (by kernel_rfl) (by
    have no : ∀ {k : Nat}, k < xs.length → pairOK xs most k = false → Value.bool false = Value.bool (pairsR xs most) := fun hk h => pairsR_no hk h
    refine ⟨fun h1 => ?_, fun h1 => ⟨⟨⟨by omega, fun j hj => by omega⟩, rfl, rfl⟩, fun i k j ⟨q1, q2⟩ => ⟨fun h2 => ?_, fun h2 => ?_⟩⟩⟩
    · unfold pairsR; rw [decide_eq_false (by have := of_decide_eq_true h1; omega)]; rfl
    · have hk : k < xs.length := by have := of_decide_eq_true h2; omega
      have h256 : xs.length ≤ 256 := by have := of_decide_eq_false h1; omega
      refine ⟨⟨by omega, by omega⟩, pairs_part hk 0 2 (by omega) rfl rfl, fun h3 => ?_, fun h3 => ⟨fun h4 => ?_, fun h4 => ⟨fun h5 => ?_, fun h5 => ⟨fun h6 => ?_, fun h6 => ⟨fun h7 => ⟨⟨trues_get ?_, here_find h7⟩, ?_⟩, fun h7 => ⟨here_none h7, fun h8 => ⟨⟨trues_get ?_, there_find h8⟩, ?_⟩, fun h8 => ⟨there_none h8, here_none h7, there_none h8, rfl, i - 1, k + 1, by omega, ⟨by omega, lt_next q2 ?_⟩, wrap_next k (by omega), ⟨?_, ?_, trivial⟩, rfl, ⟨trues_refs _ _, trues_refs _ _, trivial⟩⟩⟩⟩⟩⟩⟩⟩
      · exact no hk (by unfold pairOK; rw [decide_eq_false (by have := of_decide_eq_true h3; omega)]; simp)
      · exact no hk (by unfold pairOK; rw [decide_eq_false (p := _ ≤ most) (by have := of_decide_eq_true h4; omega)]; simp)
      · exact no hk (by unfold pairOK; rw [decide_eq_false (p := 0 ≤ (xs.getD k default).there) (by have := of_decide_eq_true h5; omega)]; simp)
      · exact no hk (by unfold pairOK; rw [decide_eq_false (p := (xs.getD k default).there ≤ most) (by have := of_decide_eq_true h6; omega)]; simp)
      · have := (findIdx_of_any h7).2
        rw [List.length_take_of_le (by omega)] at this
        exact this
      · exact no hk (by unfold pairOK; rw [h7]; simp)
      · have := (findIdx_of_any h8).2
        rw [List.length_take_of_le (by omega)] at this
        exact this
      · exact no hk (by unfold pairOK; rw [h8]; simp)
      · unfold pairOK
        have a1 := of_decide_eq_false h3
        have a2 := of_decide_eq_false h4
        have a3 := of_decide_eq_false h5
        have a4 := of_decide_eq_false h6
        rw [h7, h8, show decide (0 ≤ (xs.getD k default).here) = true from decide_eq_true (by omega), show decide ((xs.getD k default).here ≤ most) = true from decide_eq_true (by omega),
          show decide (0 ≤ (xs.getD k default).there) = true from decide_eq_true (by omega), show decide ((xs.getD k default).there ≤ most) = true from decide_eq_true (by omega)]; rfl
      · rw [take_snoc default hk, trues_snoc]; simp only [thereK, List.map_append]; rfl
      · rw [take_snoc default hk, trues_snoc]; simp only [hereK, List.map_append]; rfl
    · have hk : k = xs.length := by have := of_decide_eq_false h2; omega
      subst hk
      unfold pairsR
      rw [allB_iff.2 q2, decide_eq_true (by have := of_decide_eq_false h1; omega)]; rfl)
theorem hereHas_take {xs : List Pair} {k : Nat} (hk : k ≤ xs.length) {n : Int} : hereHas (xs.take k) n = true ↔ ∃ j, j < k ∧ n = (xs.getD j default).here := by
  unfold hereHas
  rw [List.any_eq_true]
  constructor
  · rintro ⟨p, hp, e⟩
    obtain ⟨j, hj, rfl⟩ := List.getElem_of_mem hp
    rw [List.length_take] at hj
    refine ⟨j, by omega, ?_⟩
    rw [List.getElem_take] at e
    simpa [List.getD, List.getElem?_eq_getElem (show j < xs.length by omega)] using e
  · rintro ⟨j, hj, e⟩
    refine ⟨(xs.take k)[j]'(by rw [List.length_take]; omega), List.getElem_mem _, ?_⟩
    rw [List.getElem_take]
    simpa [List.getD, List.getElem?_eq_getElem (show j < xs.length by omega)] using e
theorem thereHas_take {xs : List Pair} {k : Nat} (hk : k ≤ xs.length) {n : Int} : thereHas (xs.take k) n = true ↔ ∃ j, j < k ∧ n = (xs.getD j default).there := by
  unfold thereHas
  rw [List.any_eq_true]
  constructor
  · rintro ⟨p, hp, e⟩
    obtain ⟨j, hj, rfl⟩ := List.getElem_of_mem hp
    rw [List.length_take] at hj
    refine ⟨j, by omega, ?_⟩
    rw [List.getElem_take] at e
    simpa [List.getD, List.getElem?_eq_getElem (show j < xs.length by omega)] using e
  · rintro ⟨j, hj, e⟩
    refine ⟨(xs.take k)[j]'(by rw [List.length_take]; omega), List.getElem_mem _, ?_⟩
    rw [List.getElem_take]
    simpa [List.getD, List.getElem?_eq_getElem (show j < xs.length by omega)] using e
theorem has_false {b : Bool} {p : Prop} (h : b = true ↔ p) (hn : ¬ p) : b = false := by
  cases b with
  | false => rfl
  | true => exact absurd (h.1 rfl) hn
theorem refPairs_w (xs : List Pair) (most : Int) (hl : xs.length ≤ 1099511627776) : CallK Try.prog 108 [pairsV xs, .int .i64 most] (.bool (pairsR xs most)) :=
  CallK.via progOK (pfs []) [] 100 (Adv.loop (5 : Nat) (fun (k : Nat) => [((5 : Nat), Value.int IntKind.i64 (↑k : Int))]) ((fun (h : Heap) (x : Nat) => h) (Heap.mk (nat_lit 0) Trie.leaf))
  (fun (i k : Nat) => i + k = List.length xs ∧ ∀ (j : Nat), j < k → pairOK xs most j = true) (List.length xs) (0 : Nat) fun (i5 s5 : Nat) (j5 : Nat → Value) =>
  Adv.split (11 : Nat)
    (Adv.chk (18 : Nat) none
      (Adv.chk (20 : Nat) (some (Value.int IntKind.i64 (Pair.here (List.getD xs s5 default))))
        (Adv.split (21 : Nat) Adv.nil
          (Adv.chk (25 : Nat) none
            (Adv.chk (27 : Nat) (some (Value.int IntKind.i64 (Pair.here (List.getD xs s5 default))))
              (Adv.split (29 : Nat) Adv.nil
                (Adv.chk (34 : Nat) none
                  (Adv.chk (36 : Nat) (some (Value.int IntKind.i64 (Pair.there (List.getD xs s5 default))))
                    (Adv.split (37 : Nat) Adv.nil
                      (Adv.chk (42 : Nat) none
                        (Adv.chk (44 : Nat) (some (Value.int IntKind.i64 (Pair.there (List.getD xs s5 default))))
                          (Adv.split (46 : Nat) Adv.nil
                            (Adv.loop (51 : Nat) (fun (k : Nat) => [((6 : Nat), Value.int IntKind.i64 (↑k : Int))]) ((fun (h : Heap) (x : Nat) => h) (Heap.mk (nat_lit 0) Trie.leaf))
                              (fun (i k : Nat) =>
                                i + k = s5 ∧
                                  ∀ (j : Nat),
                                    j < k → Pair.here (List.getD xs j default) ≠ Pair.here (List.getD xs s5 default) ∧ Pair.there (List.getD xs j default) ≠ Pair.there (List.getD xs s5 default))
                              s5 (0 : Nat) fun (i51 s51 : Nat) (j51 : Nat → Value) =>
                              Adv.split (56 : Nat)
                                (Adv.chk (62 : Nat) none
                                  (Adv.chk (64 : Nat) (some (Value.int IntKind.i64 (Pair.here (List.getD xs s51 default))))
                                    (Adv.chk (67 : Nat) none
                                      (Adv.chk (69 : Nat) (some (Value.int IntKind.i64 (Pair.here (List.getD xs s5 default))))
                                        (Adv.split (70 : Nat) Adv.nil
                                          (Adv.chk (74 : Nat) none
                                            (Adv.chk (76 : Nat) (some (Value.int IntKind.i64 (Pair.there (List.getD xs s51 default))))
                                              (Adv.chk (79 : Nat) none
                                                (Adv.chk (81 : Nat) (some (Value.int IntKind.i64 (Pair.there (List.getD xs s5 default)))) (Adv.split (82 : Nat) Adv.nil Adv.nil))))))))))
                                Adv.nil)))))))))))))
    (Adv.split (16 : Nat) Adv.nil Adv.nil)) (by kernel_rfl) (by kernel_rfl) (p := ((List.length xs + (0 : Nat) = List.length xs ∧ ∀ (j : Nat), j < (0 : Nat) → pairOK xs most j = true) ∧
    Value.int IntKind.i64 (0 : Int) = Value.int IntKind.i64 (0 : Int) ∧ Heap.mk (nat_lit 0) Trie.leaf = Heap.mk (nat_lit 0) Trie.leaf) ∧
  ∀ (i5 s5 : Nat) (j5 : Nat → Value),
    (i5 + s5 = List.length xs ∧ ∀ (j : Nat), j < s5 → pairOK xs most j = true) →
      (decide ((↑s5 : Int) < (↑(List.length xs) : Int)) = true →
          ((0 : Int) ≤ (↑s5 : Int) ∧ (↑s5 : Int) < (↑(List.length xs) : Int)) ∧
            Ask.holds Try.prog
                (Ask.part (Array.toList (Array.mk (pairsL xs))) (Int.toNat (↑(Int.toNat (↑(Int.toNat (↑s5 : Int) * nat_lit 2) : Int) + nat_lit 0) : Int)) (nat_lit 1)
                  [Value.int IntKind.i64 (Pair.here (List.getD xs s5 default))]) ∧
              (decide (Pair.here (List.getD xs s5 default) < (0 : Int)) = true → Value.bool false = Value.bool (pairsR xs most)) ∧
                (decide (Pair.here (List.getD xs s5 default) < (0 : Int)) = false →
                  ((0 : Int) ≤ (↑s5 : Int) ∧ (↑s5 : Int) < (↑(List.length xs) : Int)) ∧
                    Ask.holds Try.prog
                        (Ask.part (Array.toList (Array.mk (pairsL xs))) (Int.toNat (↑(Int.toNat (↑(Int.toNat (↑s5 : Int) * nat_lit 2) : Int) + nat_lit 0) : Int)) (nat_lit 1)
                          [Value.int IntKind.i64 (Pair.here (List.getD xs s5 default))]) ∧
                      (decide (Pair.here (List.getD xs s5 default) > most) = true → Value.bool false = Value.bool (pairsR xs most)) ∧
                        (decide (Pair.here (List.getD xs s5 default) > most) = false →
                          ((0 : Int) ≤ (↑s5 : Int) ∧ (↑s5 : Int) < (↑(List.length xs) : Int)) ∧
                            Ask.holds Try.prog
                                (Ask.part (Array.toList (Array.mk (pairsL xs))) (Int.toNat (↑(Int.toNat (↑(Int.toNat (↑s5 : Int) * nat_lit 2) : Int) + nat_lit 1) : Int)) (nat_lit 1)
                                  [Value.int IntKind.i64 (Pair.there (List.getD xs s5 default))]) ∧
                              (decide (Pair.there (List.getD xs s5 default) < (0 : Int)) = true → Value.bool false = Value.bool (pairsR xs most)) ∧
                                (decide (Pair.there (List.getD xs s5 default) < (0 : Int)) = false →
                                  ((0 : Int) ≤ (↑s5 : Int) ∧ (↑s5 : Int) < (↑(List.length xs) : Int)) ∧
                                    Ask.holds Try.prog
                                        (Ask.part (Array.toList (Array.mk (pairsL xs))) (Int.toNat (↑(Int.toNat (↑(Int.toNat (↑s5 : Int) * nat_lit 2) : Int) + nat_lit 1) : Int)) (nat_lit 1)
                                          [Value.int IntKind.i64 (Pair.there (List.getD xs s5 default))]) ∧
                                      (decide (Pair.there (List.getD xs s5 default) > most) = true → Value.bool false = Value.bool (pairsR xs most)) ∧
                                        (decide (Pair.there (List.getD xs s5 default) > most) = false →
                                          ((s5 + (0 : Nat) = s5 ∧
                                                ∀ (j : Nat),
                                                  j < (0 : Nat) →
                                                    Pair.here (List.getD xs j default) ≠ Pair.here (List.getD xs s5 default) ∧
                                                      Pair.there (List.getD xs j default) ≠ Pair.there (List.getD xs s5 default)) ∧
                                              Value.int IntKind.i64 (0 : Int) = Value.int IntKind.i64 (0 : Int) ∧ Heap.mk (nat_lit 0) Trie.leaf = Heap.mk (nat_lit 0) Trie.leaf) ∧
                                            ∀ (i51 s51 : Nat) (j51 : Nat → Value),
                                              (i51 + s51 = s5 ∧
                                                  ∀ (j : Nat),
                                                    j < s51 →
                                                      Pair.here (List.getD xs j default) ≠ Pair.here (List.getD xs s5 default) ∧
                                                        Pair.there (List.getD xs j default) ≠ Pair.there (List.getD xs s5 default)) →
                                                (decide ((↑s51 : Int) < (↑s5 : Int)) = true →
                                                    ((0 : Int) ≤ (↑s51 : Int) ∧ (↑s51 : Int) < (↑(List.length xs) : Int)) ∧
                                                      Ask.holds Try.prog
                                                          (Ask.part (Array.toList (Array.mk (pairsL xs))) (Int.toNat (↑(Int.toNat (↑(Int.toNat (↑s51 : Int) * nat_lit 2) : Int) + nat_lit 0) : Int))
                                                            (nat_lit 1) [Value.int IntKind.i64 (Pair.here (List.getD xs s51 default))]) ∧
                                                        ((0 : Int) ≤ (↑s5 : Int) ∧ (↑s5 : Int) < (↑(List.length xs) : Int)) ∧
                                                          Ask.holds Try.prog
                                                              (Ask.part (Array.toList (Array.mk (pairsL xs))) (Int.toNat (↑(Int.toNat (↑(Int.toNat (↑s5 : Int) * nat_lit 2) : Int) + nat_lit 0) : Int))
                                                                (nat_lit 1) [Value.int IntKind.i64 (Pair.here (List.getD xs s5 default))]) ∧
                                                            ((Pair.here (List.getD xs s51 default) == Pair.here (List.getD xs s5 default)) = true → Value.bool false = Value.bool (pairsR xs most)) ∧
                                                              ((Pair.here (List.getD xs s51 default) == Pair.here (List.getD xs s5 default)) = false →
                                                                ((0 : Int) ≤ (↑s51 : Int) ∧ (↑s51 : Int) < (↑(List.length xs) : Int)) ∧
                                                                  Ask.holds Try.prog
                                                                      (Ask.part (Array.toList (Array.mk (pairsL xs)))
                                                                        (Int.toNat (↑(Int.toNat (↑(Int.toNat (↑s51 : Int) * nat_lit 2) : Int) + nat_lit 1) : Int)) (nat_lit 1)
                                                                        [Value.int IntKind.i64 (Pair.there (List.getD xs s51 default))]) ∧
                                                                    ((0 : Int) ≤ (↑s5 : Int) ∧ (↑s5 : Int) < (↑(List.length xs) : Int)) ∧
                                                                      Ask.holds Try.prog
                                                                          (Ask.part (Array.toList (Array.mk (pairsL xs)))
                                                                            (Int.toNat (↑(Int.toNat (↑(Int.toNat (↑s5 : Int) * nat_lit 2) : Int) + nat_lit 1) : Int)) (nat_lit 1)
                                                                            [Value.int IntKind.i64 (Pair.there (List.getD xs s5 default))]) ∧
                                                                        ((Pair.there (List.getD xs s51 default) == Pair.there (List.getD xs s5 default)) = true →
                                                                            Value.bool false = Value.bool (pairsR xs most)) ∧
                                                                          ((Pair.there (List.getD xs s51 default) == Pair.there (List.getD xs s5 default)) = false →
                                                                            ∃ (i51' : Nat),
                                                                              ∃ (s51' : Nat),
                                                                                i51' < i51 ∧
                                                                                  (i51' + s51' = s5 ∧
                                                                                      ∀ (j : Nat),
                                                                                        j < s51' →
                                                                                          Pair.here (List.getD xs j default) ≠ Pair.here (List.getD xs s5 default) ∧
                                                                                            Pair.there (List.getD xs j default) ≠ Pair.there (List.getD xs s5 default)) ∧
                                                                                    Value.int IntKind.i64 (IntKind.wrap IntKind.i64 ((↑s51 : Int) + (1 : Int))) = Value.int IntKind.i64 (↑s51' : Int) ∧
                                                                                      True ∧ true = true ∧ True))) ∧
                                                  (decide ((↑s51 : Int) < (↑s5 : Int)) = false →
                                                    ∃ (i5' : Nat),
                                                      ∃ (s5' : Nat),
                                                        i5' < i5 ∧
                                                          (i5' + s5' = List.length xs ∧ ∀ (j : Nat), j < s5' → pairOK xs most j = true) ∧
                                                            Value.int IntKind.i64 (IntKind.wrap IntKind.i64 ((↑s5 : Int) + (1 : Int))) = Value.int IntKind.i64 (↑s5' : Int) ∧
                                                              True ∧ true = true ∧ True)))))) ∧
        (decide ((↑s5 : Int) < (↑(List.length xs) : Int)) = false →
          (decide ((↑(List.length xs) : Int) ≤ (256 : Int)) = true → Value.bool true = Value.bool (pairsR xs most)) ∧
            (decide ((↑(List.length xs) : Int) ≤ (256 : Int)) = false → Value.bool false = Value.bool (pairsR xs most)))) (by kernel_rfl) (by
    have no : ∀ {k : Nat}, k < xs.length → pairOK xs most k = false → Value.bool false = Value.bool (pairsR xs most) := fun hk h => pairsR_no hk h
    refine ⟨⟨⟨by omega, fun j hj => by omega⟩, rfl, rfl⟩, fun i k j ⟨q1, q2⟩ => ⟨fun h2 => ?_, fun h2 => ?_⟩⟩
    · have hk : k < xs.length := by have := of_decide_eq_true h2; omega
      have p0 : ∀ {k : Nat}, k < xs.length → (Ask.part (pairsL xs) (k * 2) 1 [.int .i64 (xs.getD k default).here]).holds Try.prog := fun hk => pairs_part hk 0 1 (by omega) rfl rfl
      have p1 : ∀ {k : Nat}, k < xs.length → (Ask.part (pairsL xs) (k * 2 + 1) 1 [.int .i64 (xs.getD k default).there]).holds Try.prog := fun hk => pairs_part hk 1 1 (by omega) rfl rfl
      refine ⟨⟨by omega, by omega⟩, p0 hk, fun h3 => ?_, fun h3 => ⟨⟨by omega, by omega⟩, p0 hk, fun h4 => ?_, fun h4 => ⟨⟨by omega, by omega⟩, p1 hk, fun h5 => ?_, fun h5 => ⟨⟨by omega, by omega⟩, p1 hk, fun h6 => ?_, fun h6 => ⟨⟨⟨by omega, fun j hj => by omega⟩, rfl, rfl⟩, fun i2 m j2 ⟨r1, r2⟩ => ⟨fun h7 => ?_, fun h7 => ?_⟩⟩⟩⟩⟩⟩
      · exact no hk (by unfold pairOK; rw [decide_eq_false (by have := of_decide_eq_true h3; omega)]; simp)
      · exact no hk (by unfold pairOK; rw [decide_eq_false (p := _ ≤ most) (by have := of_decide_eq_true h4; omega)]; simp)
      · exact no hk (by unfold pairOK; rw [decide_eq_false (p := 0 ≤ (xs.getD k default).there) (by have := of_decide_eq_true h5; omega)]; simp)
      · exact no hk (by unfold pairOK; rw [decide_eq_false (p := (xs.getD k default).there ≤ most) (by have := of_decide_eq_true h6; omega)]; simp)
      · have hm : m < k := by have := of_decide_eq_true h7; omega
        refine ⟨⟨by omega, by omega⟩, p0 (by omega), ⟨by omega, by omega⟩, p0 hk, fun h8 => ?_, fun h8 => ⟨⟨by omega, by omega⟩, p1 (by omega), ⟨by omega, by omega⟩, p1 hk, fun h9 => ?_, fun h9 => ⟨i2 - 1, m + 1, by omega, ⟨by omega, lt_next r2 ⟨by simpa using h8, by simpa using h9⟩⟩, wrap_next m (by omega), trivial, rfl, trivial⟩⟩⟩
        · have : hereHas (xs.take k) (xs.getD k default).here = true := (hereHas_take (by omega)).2 ⟨m, hm, by simpa using (beq_iff_eq.1 h8).symm⟩
          exact no hk (by unfold pairOK; rw [this]; simp)
        · have : thereHas (xs.take k) (xs.getD k default).there = true := (thereHas_take (by omega)).2 ⟨m, hm, by simpa using (beq_iff_eq.1 h9).symm⟩
          exact no hk (by unfold pairOK; rw [this]; simp)
      · have hm : m = k := by have := of_decide_eq_false h7; omega
        subst hm
        have e1 : hereHas (xs.take m) (xs.getD m default).here = false := has_false (hereHas_take (by omega)) fun ⟨j, hj, e⟩ => (r2 j hj).1 e.symm
        have e2 : thereHas (xs.take m) (xs.getD m default).there = false := has_false (thereHas_take (by omega)) fun ⟨j, hj, e⟩ => (r2 j hj).2 e.symm
        refine ⟨i - 1, m + 1, by omega, ⟨by omega, lt_next q2 ?_⟩, wrap_next m (by omega), trivial, rfl, trivial⟩
        unfold pairOK
        have a1 := of_decide_eq_false h3
        have a2 := of_decide_eq_false h4
        have a3 := of_decide_eq_false h5
        have a4 := of_decide_eq_false h6
        rw [e1, e2, show decide (0 ≤ (xs.getD m default).here) = true from decide_eq_true (by omega), show decide ((xs.getD m default).here ≤ most) = true from decide_eq_true (by omega),
          show decide (0 ≤ (xs.getD m default).there) = true from decide_eq_true (by omega), show decide ((xs.getD m default).there ≤ most) = true from decide_eq_true (by omega)]; rfl
    · have hk : k = xs.length := by have := of_decide_eq_false h2; omega
      subst hk
      unfold pairsR
      rw [allB_iff.2 q2, Bool.and_true]
      exact ⟨fun h => congrArg Value.bool (decide_eq_true (by have := of_decide_eq_true h; omega)).symm, fun h => congrArg Value.bool (decide_eq_false (by have := of_decide_eq_false h; omega)).symm⟩)
def doiR (d : Doi) : Bool := pairsR d.levels 255 && pairsR d.cats 239
theorem doiBad_w (d : Doi) : CallK Try.prog 128 [doiV d] (.bool (!doiR d)) :=
  CallK.via progOK (pfs []) [] 100 (Adv.purs (6 : Nat) (pairsR (Doi.levels d) (255 : Int)) (Adv.purs (11 : Nat) (pairsR (Doi.cats d) (239 : Int)) Adv.nil Adv.nil) Adv.nil) (by kernel_rfl) (by kernel_rfl) (p := CallK Try.prog (nat_lit 129)
    [Value.iface (nat_lit 1000000) (Value.tuple (Array.mk [Value.int IntKind.i64 (↑(List.length (Doi.levels d)) : Int), Value.agg (Array.mk (pairsL (Doi.levels d)))])),
      Value.int IntKind.i64 (255 : Int)]
    (Value.bool (pairsR (Doi.levels d) (255 : Int))) ∧
  (pairsR (Doi.levels d) (255 : Int) = true →
      CallK Try.prog (nat_lit 129)
          [Value.iface (nat_lit 1000000) (Value.tuple (Array.mk [Value.int IntKind.i64 (↑(List.length (Doi.cats d)) : Int), Value.agg (Array.mk (pairsL (Doi.cats d)))])),
            Value.int IntKind.i64 (239 : Int)]
          (Value.bool (pairsR (Doi.cats d) (239 : Int))) ∧
        (pairsR (Doi.cats d) (239 : Int) = true → Value.bool false = Value.bool !doiR d) ∧ (pairsR (Doi.cats d) (239 : Int) = false → Value.bool true = Value.bool !doiR d)) ∧
    (pairsR (Doi.levels d) (255 : Int) = false → Value.bool true = Value.bool !doiR d)) (by kernel_rfl) (by
    simp only [Value.bool.injEq]
    repeat' (first | exact pairs_w _ _ | apply And.intro | intro)
    all_goals grind [doiR])
theorem doiRight1_w (d : Doi) : CallK Try.prog 97 [vsl 1 (Array.mk (doiL d))] (.bool (doiR d)) :=
  CallK.via progOK (pfs []) [] 100 (Adv.purs (32 : Nat) (!doiR d) Adv.nil Adv.nil) (by kernel_rfl) (by kernel_rfl) (p := CallK Try.prog (nat_lit 128)
    [Value.agg
        (Array.mk
          [Value.int IntKind.u32 (Doi.number d),
            Value.iface (nat_lit 1000000) (Value.tuple (Array.mk [Value.int IntKind.i64 (↑(List.length (Doi.levels d)) : Int), Value.agg (Array.mk (pairsL (Doi.levels d)))])),
            Value.iface (nat_lit 1000000) (Value.tuple (Array.mk [Value.int IntKind.i64 (↑(List.length (Doi.cats d)) : Int), Value.agg (Array.mk (pairsL (Doi.cats d)))]))])]
    (Value.bool !doiR d) ∧
  ((!doiR d) = true → Value.bool false = Value.bool (doiR d)) ∧ ((!doiR d) = false → Value.bool true = Value.bool (doiR d))) (by kernel_rfl) (by
    simp only [Value.bool.injEq]
    repeat' (first | exact doiBad_w _ | apply And.intro | intro)
    all_goals grind)
theorem domBad_w (d : Doi) : CallK Try.prog 96 [doiV d] (.bool (!doiR d)) :=
  CallK.via progOK (pfs []) [] 100 (Adv.bors (6 : Nat) (doiR d) Adv.nil Adv.nil) (by kernel_rfl) (by kernel_rfl) (p := CallK Try.prog (nat_lit 97)
    [Value.iface (nat_lit 1000000)
        (Value.tuple
          (Array.mk
            [Value.int IntKind.i64 (1 : Int),
              Value.agg
                (Array.mk
                  [Value.int IntKind.u32 (Doi.number d),
                    Value.iface (nat_lit 1000000) (Value.tuple (Array.mk [Value.int IntKind.i64 (↑(List.length (Doi.levels d)) : Int), Value.agg (Array.mk (pairsL (Doi.levels d)))])),
                    Value.iface (nat_lit 1000000) (Value.tuple (Array.mk [Value.int IntKind.i64 (↑(List.length (Doi.cats d)) : Int), Value.agg (Array.mk (pairsL (Doi.cats d)))]))])]))]
    (Value.bool (doiR d)) ∧
  (doiR d = true → Value.bool false = Value.bool !doiR d) ∧ (doiR d = false → Value.bool true = Value.bool !doiR d)) (by kernel_rfl) (by
    simp only [Value.bool.injEq]
    repeat' (first | exact doiRight1_w _ | apply And.intro | intro)
    all_goals grind)
theorem refDoi_w (d : Doi) (h1 : d.levels.length ≤ 1099511627776) (h2 : d.cats.length ≤ 1099511627776) : CallK Try.prog 60 [doiV d] (.bool (doiR d)) :=
  CallK.via progOK (pfs []) [] 100 (Adv.purs (6 : Nat) (pairsR (Doi.levels d) (255 : Int)) (Adv.purs (10 : Nat) (pairsR (Doi.cats d) (239 : Int)) Adv.nil Adv.nil) Adv.nil) (by kernel_rfl) (by kernel_rfl) (p := CallK Try.prog (nat_lit 108)
    [Value.iface (nat_lit 1000000) (Value.tuple (Array.mk [Value.int IntKind.i64 (↑(List.length (Doi.levels d)) : Int), Value.agg (Array.mk (pairsL (Doi.levels d)))])),
      Value.int IntKind.i64 (255 : Int)]
    (Value.bool (pairsR (Doi.levels d) (255 : Int))) ∧
  (pairsR (Doi.levels d) (255 : Int) = true →
      CallK Try.prog (nat_lit 108)
          [Value.iface (nat_lit 1000000) (Value.tuple (Array.mk [Value.int IntKind.i64 (↑(List.length (Doi.cats d)) : Int), Value.agg (Array.mk (pairsL (Doi.cats d)))])),
            Value.int IntKind.i64 (239 : Int)]
          (Value.bool (pairsR (Doi.cats d) (239 : Int))) ∧
        (pairsR (Doi.cats d) (239 : Int) = true → Value.bool true = Value.bool (doiR d)) ∧ (pairsR (Doi.cats d) (239 : Int) = false → Value.bool false = Value.bool (doiR d))) ∧
    (pairsR (Doi.levels d) (255 : Int) = false → Value.bool false = Value.bool (doiR d))) (by kernel_rfl) (by
    simp only [Value.bool.injEq]
    repeat' (first | exact refPairs_w _ _ (by assumption) | apply And.intro | intro)
    all_goals grind [doiR])
theorem dois_part {xs : List Doi} {k : Nat} (hk : k < xs.length) (r m : Nat) (hr : r + m ≤ 3) {o : Nat} (ho : o = k * 3 + r) {out : List Value} (e : ((doiL (xs.getD k default)).drop r).take m = out) : (Ask.part (doisL xs) o m out).holds Try.prog := by
  subst ho
  exact cellsOf_part (P := Try.prog) (f := doiL) doiL_length default hk r m hr out e
theorem idxDoi_w (xs : List Doi) (hl : xs.length ≤ 1099511627776) : CallK Try.prog 95 [doisV xs, .func (.func 96) (Array.mk []) (Array.mk [])] (.int .i64 (idxB xs fun d => !doiR d)) :=
  CallK.via progOK (pfs []) [] 100 (Adv.loop (7 : Nat) (fun (k : Nat) => [((8 : Nat), Value.int IntKind.i64 (↑k : Int))]) ((fun (h : Heap) (x : Nat) => h) (Heap.mk (nat_lit 0) Trie.leaf))
  (fun (i k : Nat) => i + k = List.length xs ∧ ∀ (j : Nat), j < k → (!doiR (List.getD xs j default)) = false) (List.length xs) (0 : Nat) fun (i7 s7 : Nat) (j7 : Nat → Value) =>
  Adv.split (9 : Nat)
    (Adv.chk (20 : Nat) none
      (Adv.chk (21 : Nat)
        (some
          (Value.agg
            (Array.mk
              [Value.int IntKind.u32 (Doi.number (List.getD xs s7 default)),
                Value.iface (nat_lit 1000000)
                  (Value.tuple (Array.mk [Value.int IntKind.i64 (↑(List.length (Doi.levels (List.getD xs s7 default))) : Int), Value.agg (Array.mk (pairsL (Doi.levels (List.getD xs s7 default))))])),
                Value.iface (nat_lit 1000000)
                  (Value.tuple (Array.mk [Value.int IntKind.i64 (↑(List.length (Doi.cats (List.getD xs s7 default))) : Int), Value.agg (Array.mk (pairsL (Doi.cats (List.getD xs s7 default))))]))])))
        (Adv.purs (22 : Nat) (!doiR (List.getD xs s7 default)) Adv.nil Adv.nil)))
    Adv.nil) (by kernel_rfl) (by kernel_rfl) (p := ((List.length xs + (0 : Nat) = List.length xs ∧ ∀ (j : Nat), j < (0 : Nat) → (!doiR (List.getD xs j default)) = false) ∧
    Value.int IntKind.i64 (0 : Int) = Value.int IntKind.i64 (0 : Int) ∧ Heap.mk (nat_lit 0) Trie.leaf = Heap.mk (nat_lit 0) Trie.leaf) ∧
  ∀ (i7 s7 : Nat) (j7 : Nat → Value),
    (i7 + s7 = List.length xs ∧ ∀ (j : Nat), j < s7 → (!doiR (List.getD xs j default)) = false) →
      (decide ((↑s7 : Int) < (↑(List.length xs) : Int)) = true →
          ((0 : Int) ≤ (↑s7 : Int) ∧ (↑s7 : Int) < (↑(List.length xs) : Int)) ∧
            Ask.holds Try.prog
                (Ask.part (Array.toList (Array.mk (doisL xs))) (Int.toNat (↑(Int.toNat (↑s7 : Int) * nat_lit 3) : Int)) (nat_lit 3)
                  [Value.int IntKind.u32 (Doi.number (List.getD xs s7 default)),
                    Value.iface (nat_lit 1000000)
                      (Value.tuple
                        (Array.mk [Value.int IntKind.i64 (↑(List.length (Doi.levels (List.getD xs s7 default))) : Int), Value.agg (Array.mk (pairsL (Doi.levels (List.getD xs s7 default))))])),
                    Value.iface (nat_lit 1000000)
                      (Value.tuple
                        (Array.mk [Value.int IntKind.i64 (↑(List.length (Doi.cats (List.getD xs s7 default))) : Int), Value.agg (Array.mk (pairsL (Doi.cats (List.getD xs s7 default))))]))]) ∧
              CallK Try.prog (nat_lit 96)
                  [Value.agg
                      (Array.mk
                        [Value.int IntKind.u32 (Doi.number (List.getD xs s7 default)),
                          Value.iface (nat_lit 1000000)
                            (Value.tuple
                              (Array.mk [Value.int IntKind.i64 (↑(List.length (Doi.levels (List.getD xs s7 default))) : Int), Value.agg (Array.mk (pairsL (Doi.levels (List.getD xs s7 default))))])),
                          Value.iface (nat_lit 1000000)
                            (Value.tuple
                              (Array.mk [Value.int IntKind.i64 (↑(List.length (Doi.cats (List.getD xs s7 default))) : Int), Value.agg (Array.mk (pairsL (Doi.cats (List.getD xs s7 default))))]))])]
                  (Value.bool !doiR (List.getD xs s7 default)) ∧
                ((!doiR (List.getD xs s7 default)) = true → Value.int IntKind.i64 (↑s7 : Int) = Value.int IntKind.i64 (idxB xs fun (d : Doi) => !doiR d)) ∧
                  ((!doiR (List.getD xs s7 default)) = false →
                    ∃ (i7' : Nat),
                      ∃ (s7' : Nat),
                        i7' < i7 ∧
                          (i7' + s7' = List.length xs ∧ ∀ (j : Nat), j < s7' → (!doiR (List.getD xs j default)) = false) ∧
                            Value.int IntKind.i64 (IntKind.wrap IntKind.i64 ((↑s7 : Int) + (1 : Int))) = Value.int IntKind.i64 (↑s7' : Int) ∧ True ∧ true = true ∧ True)) ∧
        (decide ((↑s7 : Int) < (↑(List.length xs) : Int)) = false → Value.int IntKind.i64 (-1 : Int) = Value.int IntKind.i64 (idxB xs fun (d : Doi) => !doiR d))) (by kernel_rfl) (by
    refine ⟨⟨⟨by omega, fun j hj => by omega⟩, rfl, rfl⟩, fun i k j ⟨q1, q2⟩ => ⟨fun h1 => ?_, fun h1 => ?_⟩⟩
    · have hk : k < xs.length := by have := of_decide_eq_true h1; omega
      exact ⟨⟨by omega, by omega⟩, dois_part hk 0 3 (by omega) rfl rfl, domBad_w _, fun h2 => congrArg (Value.int .i64) (idxB_some hk h2 q2).symm, fun h2 => ⟨i - 1, k + 1, by omega, ⟨by omega, lt_next q2 h2⟩, wrap_next k (by omega), trivial, rfl, trivial⟩⟩
    · have hk : k = xs.length := by have := of_decide_eq_false h1; omega
      subst hk
      exact congrArg (Value.int .i64) (idxB_none q2).symm)
end Go.Proofs.Ytepijhnfeafmaaa

end
section
/- What the functions that look at a config's parts answer. -/
set_option linter.unusedVariables false
set_option linter.unusedSimpArgs false
set_option maxRecDepth 100000
namespace Go.Proofs.Ytepijhnfeafmaaa
open Go Go.Ideal
/-- A config that is looked at. -/
def lookL (c : Conf) : List Value := confL c ++ [tblV c.labels]
theorem rules_part {xs : List Rule} {k : Nat} (hk : k < xs.length) (r m : Nat) (hr : r + m ≤ 12) {o : Nat} (ho : o = k * 12 + r) {out : List Value} (e : ((ruleL (xs.getD k default)).drop r).take m = out) : (Ask.part (rulesL xs) o m out).holds Try.prog := by
  subst ho; exact cellsOf_part (P := Try.prog) (f := ruleL) ruleL_length default hk r m hr out e
theorem relabs_part {xs : List Relab} {k : Nat} (hk : k < xs.length) (r m : Nat) (hr : r + m ≤ 8) {o : Nat} (ho : o = k * 8 + r) {out : List Value} (e : ((relabL (xs.getD k default)).drop r).take m = out) : (Ask.part (relabsL xs) o m out).holds Try.prog := by
  subst ho; exact cellsOf_part (P := Try.prog) (f := relabL) relabL_length default hk r m hr out e
theorem routs_part {xs : List Rout} {k : Nat} (hk : k < xs.length) (r m : Nat) (hr : r + m ≤ 3) {o : Nat} (ho : o = k * 3 + r) {out : List Value} (e : ((routL (xs.getD k default)).drop r).take m = out) : (Ask.part (routsL xs) o m out).holds Try.prog := by
  subst ho; exact cellsOf_part (P := Try.prog) (f := routL) routL_length default hk r m hr out e
theorem faces_part {xs : List Face} {k : Nat} (hk : k < xs.length) (r m : Nat) (hr : r + m ≤ 97) {o : Nat} (ho : o = k * 97 + r) {out : List Value} (e : ((faceL (xs.getD k default)).drop r).take m = out) : (Ask.part (facesL xs) o m out).holds Try.prog := by
  subst ho; exact cellsOf_part (P := Try.prog) (f := faceL) faceL_length default hk r m hr out e
theorem ruleBad_w (r : Rule) : CallK Try.prog 138 [ruleV r] (.bool (!ruleR r)) :=
  CallK.via progOK (pfs []) [] 100 (Adv.purs (5 : Nat) (ruleR r) Adv.nil Adv.nil) (by kernel_rfl) (by kernel_rfl) (p := CallK Try.prog (nat_lit 139) [Value.agg (Array.mk (ruleL r))] (Value.bool (ruleR r)) ∧
  (ruleR r = true → Value.bool false = Value.bool !ruleR r) ∧ (ruleR r = false → Value.bool true = Value.bool !ruleR r)) (by kernel_rfl) (by
    exact ⟨rule_w _, fun h => by rw [h]; rfl, fun h => by rw [h]; rfl⟩)
theorem ruleRight1_w (r : Rule) : CallK Try.prog 104 [vsl 1 (Array.mk (ruleL r))] (.bool (ruleR r)) :=
  CallK.via progOK (pfs []) [] 100 (Adv.purs (32 : Nat) (!ruleR r) Adv.nil Adv.nil) (by kernel_rfl) (by kernel_rfl) (p := CallK Try.prog (nat_lit 138) [Value.agg (Array.mk (ruleL r))] (Value.bool !ruleR r) ∧
  ((!ruleR r) = true → Value.bool false = Value.bool (ruleR r)) ∧ ((!ruleR r) = false → Value.bool true = Value.bool (ruleR r))) (by kernel_rfl) (by
    simp only [Value.bool.injEq]
    repeat' (first | exact ruleBad_w _ | apply And.intro | intro)
    all_goals grind)
theorem rulesBad_w (r : Rule) : CallK Try.prog 103 [ruleV r] (.bool (!ruleR r)) :=
  CallK.via progOK (pfs []) [] 100 (Adv.bors (6 : Nat) (ruleR r) Adv.nil Adv.nil) (by kernel_rfl) (by kernel_rfl) (p := CallK Try.prog (nat_lit 104) [Value.iface (nat_lit 1000000) (Value.tuple (Array.mk [Value.int IntKind.i64 (1 : Int), Value.agg (Array.mk (ruleL r))]))] (Value.bool (ruleR r)) ∧
  (ruleR r = true → Value.bool false = Value.bool !ruleR r) ∧ (ruleR r = false → Value.bool true = Value.bool !ruleR r)) (by kernel_rfl) (by
    exact ⟨ruleRight1_w _, fun h => by rw [h]; rfl, fun h => by rw [h]; rfl⟩)
theorem idxRule_w (xs : List Rule) (hl : xs.length ≤ 1099511627776) : CallK Try.prog 102 [rulesV xs, .func (.func 103) (Array.mk []) (Array.mk [])] (.int .i64 (idxB xs fun d => !ruleR d)) :=
  CallK.via progOK (pfs []) [] 100 (Adv.loop (7 : Nat) (fun (k : Nat) => [((8 : Nat), Value.int IntKind.i64 (↑k : Int))]) ((fun (h : Heap) (x : Nat) => h) (Heap.mk (nat_lit 0) Trie.leaf))
  (fun (i k : Nat) => i + k = List.length xs ∧ ∀ (j : Nat), j < k → (!ruleR (List.getD xs j default)) = false) (List.length xs) (0 : Nat) fun (i7 s7 : Nat) (j7 : Nat → Value) =>
  Adv.split (9 : Nat)
    (Adv.chk (20 : Nat) none (Adv.chk (21 : Nat) (some (Value.agg (Array.mk (ruleL (List.getD xs s7 default))))) (Adv.purs (22 : Nat) (!ruleR (List.getD xs s7 default)) Adv.nil Adv.nil))) Adv.nil) (by kernel_rfl) (by kernel_rfl) (p := ((List.length xs + (0 : Nat) = List.length xs ∧ ∀ (j : Nat), j < (0 : Nat) → (!ruleR (List.getD xs j default)) = false) ∧
    Value.int IntKind.i64 (0 : Int) = Value.int IntKind.i64 (0 : Int) ∧ Heap.mk (nat_lit 0) Trie.leaf = Heap.mk (nat_lit 0) Trie.leaf) ∧
  ∀ (i7 s7 : Nat) (j7 : Nat → Value),
    (i7 + s7 = List.length xs ∧ ∀ (j : Nat), j < s7 → (!ruleR (List.getD xs j default)) = false) →
      (decide ((↑s7 : Int) < (↑(List.length xs) : Int)) = true →
          ((0 : Int) ≤ (↑s7 : Int) ∧ (↑s7 : Int) < (↑(List.length xs) : Int)) ∧
            Ask.holds Try.prog (Ask.part (Array.toList (Array.mk (rulesL xs))) (Int.toNat (↑(Int.toNat (↑s7 : Int) * nat_lit 12) : Int)) (nat_lit 12) (ruleL (List.getD xs s7 default))) ∧
              CallK Try.prog (nat_lit 103) [Value.agg (Array.mk (ruleL (List.getD xs s7 default)))] (Value.bool !ruleR (List.getD xs s7 default)) ∧
                ((!ruleR (List.getD xs s7 default)) = true → Value.int IntKind.i64 (↑s7 : Int) = Value.int IntKind.i64 (idxB xs fun (d : Rule) => !ruleR d)) ∧
                  ((!ruleR (List.getD xs s7 default)) = false →
                    ∃ (i7' : Nat),
                      ∃ (s7' : Nat),
                        i7' < i7 ∧
                          (i7' + s7' = List.length xs ∧ ∀ (j : Nat), j < s7' → (!ruleR (List.getD xs j default)) = false) ∧
                            Value.int IntKind.i64 (IntKind.wrap IntKind.i64 ((↑s7 : Int) + (1 : Int))) = Value.int IntKind.i64 (↑s7' : Int) ∧ True ∧ true = true ∧ True)) ∧
        (decide ((↑s7 : Int) < (↑(List.length xs) : Int)) = false → Value.int IntKind.i64 (-1 : Int) = Value.int IntKind.i64 (idxB xs fun (d : Rule) => !ruleR d))) (by kernel_rfl) (by
    refine ⟨⟨⟨by omega, fun j hj => by omega⟩, rfl, rfl⟩, fun i k j ⟨q1, q2⟩ => ⟨fun h1 => ?_, fun h1 => ?_⟩⟩
    · have hk : k < xs.length := by have := of_decide_eq_true h1; omega
      exact ⟨⟨by omega, by omega⟩, rules_part hk 0 12 (by omega) rfl rfl, rulesBad_w _, fun h2 => congrArg (Value.int .i64) (idxB_some hk h2 q2).symm, fun h2 => ⟨i - 1, k + 1, by omega, ⟨by omega, lt_next q2 h2⟩, wrap_next k (by omega), trivial, rfl, trivial⟩⟩
    · have hk : k = xs.length := by have := of_decide_eq_false h1; omega
      subst hk
      exact congrArg (Value.int .i64) (idxB_none q2).symm)
theorem guardBad_w (n : Int) (r : Relab) : CallK Try.prog 135 [relabV r, vpt 0 (Array.mk [.int .i64 n])] (.bool (!relabR n r)) :=
  CallK.via progOK (pfs []) [] 100 (Adv.purs (6 : Nat) (relabR n r) Adv.nil Adv.nil) (by kernel_rfl) (by kernel_rfl) (p := CallK Try.prog (nat_lit 136) [Value.int IntKind.i64 n, Value.agg (Array.mk (relabL r))] (Value.bool (relabR n r)) ∧
  (relabR n r = true → Value.bool false = Value.bool !relabR n r) ∧ (relabR n r = false → Value.bool true = Value.bool !relabR n r)) (by kernel_rfl) (by
    exact ⟨relab_w _ _, fun h => by rw [h]; rfl, fun h => by rw [h]; rfl⟩)
theorem guardRight1_w (n : Int) (r : Relab) : CallK Try.prog 101 [.int .i64 n, vsl 1 (Array.mk (relabL r))] (.bool (relabR n r)) :=
  CallK.via progOK (pfs []) [] 100 (Adv.bors (34 : Nat) (!relabR n r) Adv.nil Adv.nil) (by kernel_rfl) (by kernel_rfl) (p := CallK Try.prog (nat_lit 135) [Value.agg (Array.mk (relabL r)), Value.iface (nat_lit 1000001) (Value.tuple (Array.mk [Value.int IntKind.i64 (0 : Int), Value.agg (Array.mk [Value.int IntKind.i64 n])]))]
    (Value.bool !relabR n r) ∧
  ((!relabR n r) = true → Value.bool false = Value.bool (relabR n r)) ∧ ((!relabR n r) = false → Value.bool true = Value.bool (relabR n r))) (by kernel_rfl) (by
    simp only [Value.bool.injEq]
    repeat' (first | exact guardBad_w _ _ | apply And.intro | intro)
    all_goals grind)
theorem rules1_w (c : Conf) (r : Relab) : CallK Try.prog 100 [relabV r, vpt 0 (Array.mk [vpt 0 (Array.mk (lookL c))])] (.bool (!relabR c.labels.length r)) :=
  CallK.via progOK (pfs []) [] 100 (Adv.bors (12 : Nat) (relabR (↑(List.length (Conf.labels c)) : Int) r) Adv.nil Adv.nil) (by kernel_rfl) (by kernel_rfl) (p := CallK Try.prog (nat_lit 101)
    [Value.int IntKind.i64 (↑(List.length (Conf.labels c)) : Int), Value.iface (nat_lit 1000000) (Value.tuple (Array.mk [Value.int IntKind.i64 (1 : Int), Value.agg (Array.mk (relabL r))]))]
    (Value.bool (relabR (↑(List.length (Conf.labels c)) : Int) r)) ∧
  (relabR (↑(List.length (Conf.labels c)) : Int) r = true →
      (Value.iface (nat_lit 1000001) (Value.tuple (Array.mk [Value.int IntKind.i64 (0 : Int), Value.agg (Array.mk (lookL c))])) =
            Value.iface (nat_lit 1000001) (Value.tuple (Array.mk [Value.int IntKind.i64 (0 : Int), Value.agg (Array.mk (lookL c))])) ∧
          Value.iface (nat_lit 1000000) (Value.tuple (Array.mk [Value.int IntKind.i64 (↑(List.length (Conf.labels c)) : Int), Value.agg (Array.mk (lblsL (Conf.labels c)))])) =
            Value.iface (nat_lit 1000000) (Value.tuple (Array.mk [Value.int IntKind.i64 (↑(List.length (Conf.labels c)) : Int), Value.agg (Array.mk (lblsL (Conf.labels c)))]))) ∧
        Value.bool false = Value.bool !relabR (↑(List.length (Conf.labels c)) : Int) r) ∧
    (relabR (↑(List.length (Conf.labels c)) : Int) r = false →
      (Value.iface (nat_lit 1000001) (Value.tuple (Array.mk [Value.int IntKind.i64 (0 : Int), Value.agg (Array.mk (lookL c))])) =
            Value.iface (nat_lit 1000001) (Value.tuple (Array.mk [Value.int IntKind.i64 (0 : Int), Value.agg (Array.mk (lookL c))])) ∧
          Value.iface (nat_lit 1000000) (Value.tuple (Array.mk [Value.int IntKind.i64 (↑(List.length (Conf.labels c)) : Int), Value.agg (Array.mk (lblsL (Conf.labels c)))])) =
            Value.iface (nat_lit 1000000) (Value.tuple (Array.mk [Value.int IntKind.i64 (↑(List.length (Conf.labels c)) : Int), Value.agg (Array.mk (lblsL (Conf.labels c)))]))) ∧
        Value.bool true = Value.bool !relabR (↑(List.length (Conf.labels c)) : Int) r)) (by kernel_rfl) (by
    exact ⟨guardRight1_w _ _, fun h => ⟨⟨rfl, rfl⟩, by rw [h]; rfl⟩, fun h => ⟨⟨rfl, rfl⟩, by rw [h]; rfl⟩⟩)
theorem idxRelab_w (c : Conf) (xs : List Relab) (hl : xs.length ≤ 1099511627776) : CallK Try.prog 99 [relabsV xs, .func (.func 100) (Array.mk []) (Array.mk [vpt 0 (Array.mk [vpt 0 (Array.mk (lookL c))])])] (.int .i64 (idxB xs fun r => !relabR c.labels.length r)) :=
  CallK.via progOK (pfs []) [] 100 (Adv.loop (7 : Nat) (fun (k : Nat) => [((8 : Nat), Value.int IntKind.i64 (↑k : Int))]) ((fun (h : Heap) (x : Nat) => h) (Heap.mk (nat_lit 0) Trie.leaf))
  (fun (i k : Nat) => i + k = List.length xs ∧ ∀ (j : Nat), j < k → (!relabR (↑(List.length (Conf.labels c)) : Int) (List.getD xs j default)) = false) (List.length xs) (0 : Nat)
  fun (i7 s7 : Nat) (j7 : Nat → Value) =>
  Adv.split (9 : Nat)
    (Adv.chk (20 : Nat) none
      (Adv.chk (21 : Nat) (some (Value.agg (Array.mk (relabL (List.getD xs s7 default)))))
        (Adv.purs (22 : Nat) (!relabR (↑(List.length (Conf.labels c)) : Int) (List.getD xs s7 default)) Adv.nil Adv.nil)))
    Adv.nil) (by kernel_rfl) (by kernel_rfl) (p := ((List.length xs + (0 : Nat) = List.length xs ∧ ∀ (j : Nat), j < (0 : Nat) → (!relabR (↑(List.length (Conf.labels c)) : Int) (List.getD xs j default)) = false) ∧
    Value.int IntKind.i64 (0 : Int) = Value.int IntKind.i64 (0 : Int) ∧ Heap.mk (nat_lit 0) Trie.leaf = Heap.mk (nat_lit 0) Trie.leaf) ∧
  ∀ (i7 s7 : Nat) (j7 : Nat → Value),
    (i7 + s7 = List.length xs ∧ ∀ (j : Nat), j < s7 → (!relabR (↑(List.length (Conf.labels c)) : Int) (List.getD xs j default)) = false) →
      (decide ((↑s7 : Int) < (↑(List.length xs) : Int)) = true →
          ((0 : Int) ≤ (↑s7 : Int) ∧ (↑s7 : Int) < (↑(List.length xs) : Int)) ∧
            Ask.holds Try.prog (Ask.part (Array.toList (Array.mk (relabsL xs))) (Int.toNat (↑(Int.toNat (↑s7 : Int) * nat_lit 8) : Int)) (nat_lit 8) (relabL (List.getD xs s7 default))) ∧
              CallK Try.prog (nat_lit 100)
                  [Value.agg (Array.mk (relabL (List.getD xs s7 default))),
                    Value.iface (nat_lit 1000001)
                      (Value.tuple
                        (Array.mk
                          [Value.int IntKind.i64 (0 : Int),
                            Value.agg (Array.mk [Value.iface (nat_lit 1000001) (Value.tuple (Array.mk [Value.int IntKind.i64 (0 : Int), Value.agg (Array.mk (lookL c))]))])]))]
                  (Value.bool !relabR (↑(List.length (Conf.labels c)) : Int) (List.getD xs s7 default)) ∧
                ((!relabR (↑(List.length (Conf.labels c)) : Int) (List.getD xs s7 default)) = true →
                    Value.int IntKind.i64 (↑s7 : Int) = Value.int IntKind.i64 (idxB xs fun (r : Relab) => !relabR (↑(List.length (Conf.labels c)) : Int) r)) ∧
                  ((!relabR (↑(List.length (Conf.labels c)) : Int) (List.getD xs s7 default)) = false →
                    ∃ (i7' : Nat),
                      ∃ (s7' : Nat),
                        i7' < i7 ∧
                          (i7' + s7' = List.length xs ∧ ∀ (j : Nat), j < s7' → (!relabR (↑(List.length (Conf.labels c)) : Int) (List.getD xs j default)) = false) ∧
                            Value.int IntKind.i64 (IntKind.wrap IntKind.i64 ((↑s7 : Int) + (1 : Int))) = Value.int IntKind.i64 (↑s7' : Int) ∧ True ∧ true = true ∧ True)) ∧
        (decide ((↑s7 : Int) < (↑(List.length xs) : Int)) = false →
          Value.int IntKind.i64 (-1 : Int) = Value.int IntKind.i64 (idxB xs fun (r : Relab) => !relabR (↑(List.length (Conf.labels c)) : Int) r))) (by kernel_rfl) (by
    refine ⟨⟨⟨by omega, fun j hj => by omega⟩, rfl, rfl⟩, fun i k j ⟨q1, q2⟩ => ⟨fun h1 => ?_, fun h1 => ?_⟩⟩
    · have hk : k < xs.length := by have := of_decide_eq_true h1; omega
      exact ⟨⟨by omega, by omega⟩, relabs_part hk 0 8 (by omega) rfl rfl, rules1_w _ _, fun h2 => congrArg (Value.int .i64) (idxB_some hk h2 q2).symm, fun h2 => ⟨i - 1, k + 1, by omega, ⟨by omega, lt_next q2 h2⟩, wrap_next k (by omega), trivial, rfl, trivial⟩⟩
    · have hk : k = xs.length := by have := of_decide_eq_false h1; omega
      subst hk
      exact congrArg (Value.int .i64) (idxB_none q2).symm)
theorem routSame_w (q r : Rout) : CallK Try.prog 105 [routV q, vpt 0 (Array.mk (routL r))] (.bool (pfxEq q.to r.to)) :=
  CallK.via progOK (pfs []) [] 100 (Adv.chks (8 : Nat) (some (Value.bool (pfxEq (Rout.to q) (Rout.to r)))) Adv.nil Adv.nil) (by kernel_rfl) (by kernel_rfl) (p := Ask.holds Try.prog (Ask.eqv (nat_lit 48) (Value.agg (Array.mk (pfxL (Rout.to q)))) (Value.agg (Array.mk (pfxL (Rout.to r)))) (pfxEq (Rout.to q) (Rout.to r))) ∧
  (pfxEq (Rout.to q) (Rout.to r) = true → Value.bool true = Value.bool (pfxEq (Rout.to q) (Rout.to r))) ∧
    (pfxEq (Rout.to q) (Rout.to r) = false → Value.bool false = Value.bool (pfxEq (Rout.to q) (Rout.to r)))) (by kernel_rfl) (by
    exact ⟨pfxEq_eqD _ _, fun h => by rw [h], fun h => by rw [h]⟩)
theorem idxRout_w (xs : List Rout) (r : Rout) (hl : xs.length ≤ 1099511627776) : CallK Try.prog 141 [routsV xs, .func (.func 105) (Array.mk []) (Array.mk [vpt 0 (Array.mk (routL r))])] (.int .i64 (idxB xs fun q => pfxEq q.to r.to)) :=
  CallK.via progOK (pfs []) [] 100 (Adv.loop (7 : Nat) (fun (k : Nat) => [((8 : Nat), Value.int IntKind.i64 (↑k : Int))]) ((fun (h : Heap) (x : Nat) => h) (Heap.mk (nat_lit 0) Trie.leaf))
  (fun (i k : Nat) => i + k = List.length xs ∧ ∀ (j : Nat), j < k → pfxEq (Rout.to (List.getD xs j default)) (Rout.to r) = false) (List.length xs) (0 : Nat) fun (i7 s7 : Nat) (j7 : Nat → Value) =>
  Adv.split (9 : Nat)
    (Adv.chk (20 : Nat) none
      (Adv.chk (21 : Nat) (some (Value.agg (Array.mk (routL (List.getD xs s7 default))))) (Adv.purs (22 : Nat) (pfxEq (Rout.to (List.getD xs s7 default)) (Rout.to r)) Adv.nil Adv.nil)))
    Adv.nil) (by kernel_rfl) (by kernel_rfl) (p := ((List.length xs + (0 : Nat) = List.length xs ∧ ∀ (j : Nat), j < (0 : Nat) → pfxEq (Rout.to (List.getD xs j default)) (Rout.to r) = false) ∧
    Value.int IntKind.i64 (0 : Int) = Value.int IntKind.i64 (0 : Int) ∧ Heap.mk (nat_lit 0) Trie.leaf = Heap.mk (nat_lit 0) Trie.leaf) ∧
  ∀ (i7 s7 : Nat) (j7 : Nat → Value),
    (i7 + s7 = List.length xs ∧ ∀ (j : Nat), j < s7 → pfxEq (Rout.to (List.getD xs j default)) (Rout.to r) = false) →
      (decide ((↑s7 : Int) < (↑(List.length xs) : Int)) = true →
          ((0 : Int) ≤ (↑s7 : Int) ∧ (↑s7 : Int) < (↑(List.length xs) : Int)) ∧
            Ask.holds Try.prog (Ask.part (Array.toList (Array.mk (routsL xs))) (Int.toNat (↑(Int.toNat (↑s7 : Int) * nat_lit 3) : Int)) (nat_lit 3) (routL (List.getD xs s7 default))) ∧
              CallK Try.prog (nat_lit 105)
                  [Value.agg (Array.mk (routL (List.getD xs s7 default))), Value.iface (nat_lit 1000001) (Value.tuple (Array.mk [Value.int IntKind.i64 (0 : Int), Value.agg (Array.mk (routL r))]))]
                  (Value.bool (pfxEq (Rout.to (List.getD xs s7 default)) (Rout.to r))) ∧
                (pfxEq (Rout.to (List.getD xs s7 default)) (Rout.to r) = true → Value.int IntKind.i64 (↑s7 : Int) = Value.int IntKind.i64 (idxB xs fun (q : Rout) => pfxEq (Rout.to q) (Rout.to r))) ∧
                  (pfxEq (Rout.to (List.getD xs s7 default)) (Rout.to r) = false →
                    ∃ (i7' : Nat),
                      ∃ (s7' : Nat),
                        i7' < i7 ∧
                          (i7' + s7' = List.length xs ∧ ∀ (j : Nat), j < s7' → pfxEq (Rout.to (List.getD xs j default)) (Rout.to r) = false) ∧
                            Value.int IntKind.i64 (IntKind.wrap IntKind.i64 ((↑s7 : Int) + (1 : Int))) = Value.int IntKind.i64 (↑s7' : Int) ∧ True ∧ true = true ∧ True)) ∧
        (decide ((↑s7 : Int) < (↑(List.length xs) : Int)) = false → Value.int IntKind.i64 (-1 : Int) = Value.int IntKind.i64 (idxB xs fun (q : Rout) => pfxEq (Rout.to q) (Rout.to r)))) (by kernel_rfl) (by
    refine ⟨⟨⟨by omega, fun j hj => by omega⟩, rfl, rfl⟩, fun i k j ⟨q1, q2⟩ => ⟨fun h1 => ?_, fun h1 => ?_⟩⟩
    · have hk : k < xs.length := by have := of_decide_eq_true h1; omega
      exact ⟨⟨by omega, by omega⟩, routs_part hk 0 3 (by omega) rfl rfl, routSame_w _ _, fun h2 => congrArg (Value.int .i64) (idxB_some (d := default) hk h2 q2).symm, fun h2 => ⟨i - 1, k + 1, by omega, ⟨by omega, lt_next q2 h2⟩, wrap_next k (by omega), trivial, rfl, trivial⟩⟩
    · have hk : k = xs.length := by have := of_decide_eq_false h1; omega
      subst hk
      exact congrArg (Value.int .i64) (idxB_none (d := default) q2).symm)
theorem anyRout_w (xs : List Rout) (r : Rout) (hl : xs.length ≤ 1099511627776) : CallK Try.prog 107 [routsV xs, .func (.func 105) (Array.mk []) (Array.mk [vpt 0 (Array.mk (routL r))])] (.bool (xs.any fun q => pfxEq q.to r.to)) :=
  CallK.via progOK (pfs []) [] 100 (Adv.pur (5 : Nat) (Value.int IntKind.i64 (idxB xs fun (q : Rout) => pfxEq (Rout.to q) (Rout.to r))) (Adv.split (6 : Nat) Adv.nil Adv.nil)) (by kernel_rfl) (by kernel_rfl) (p := CallK Try.prog (nat_lit 141)
    [Value.iface (nat_lit 1000000) (Value.tuple (Array.mk [Value.int IntKind.i64 (↑(List.length xs) : Int), Value.agg (Array.mk (routsL xs))])),
      Value.func (Fn.func (nat_lit 105)) (Array.mk []) (Array.mk [Value.iface (nat_lit 1000001) (Value.tuple (Array.mk [Value.int IntKind.i64 (0 : Int), Value.agg (Array.mk (routL r))]))])]
    (Value.int IntKind.i64 (idxB xs fun (q : Rout) => pfxEq (Rout.to q) (Rout.to r))) ∧
  (decide ((idxB xs fun (q : Rout) => pfxEq (Rout.to q) (Rout.to r)) ≥ (0 : Int)) = true → Value.bool true = Value.bool (List.any xs fun (q : Rout) => pfxEq (Rout.to q) (Rout.to r))) ∧
    (decide ((idxB xs fun (q : Rout) => pfxEq (Rout.to q) (Rout.to r)) ≥ (0 : Int)) = false → Value.bool false = Value.bool (List.any xs fun (q : Rout) => pfxEq (Rout.to q) (Rout.to r)))) (by kernel_rfl) (by
    rw [← anyB_idx]
    exact ⟨idxRout_w xs r hl, fun h => by rw [← h], fun h => by rw [← h]⟩)
theorem faceSame_w (q r : Face) : CallK Try.prog 130 [faceV q, vpt 0 (Array.mk (faceL r))] (.bool (q.addr == r.addr)) :=
  CallK.via progOK (pfs []) [] 100 (Adv.split (8 : Nat) Adv.nil Adv.nil) (by kernel_rfl) (by kernel_rfl) (p := ((Face.addr q == Face.addr r) = true → Value.bool true = Value.bool (Face.addr q == Face.addr r)) ∧ ((Face.addr q == Face.addr r) = false → Value.bool false = Value.bool (Face.addr q == Face.addr r))) (by kernel_rfl) (by
    exact ⟨fun h => by rw [h], fun h => by rw [h]⟩)
theorem idxFace_w (xs : List Face) (r : Face) (hl : xs.length ≤ 1099511627776) : CallK Try.prog 74 [facesV xs, .func (.func 130) (Array.mk []) (Array.mk [vpt 0 (Array.mk (faceL r))])] (.int .i64 (idxB xs fun q => q.addr == r.addr)) :=
  CallK.via progOK (pfs []) [] 100 (Adv.loop (7 : Nat) (fun (k : Nat) => [((8 : Nat), Value.int IntKind.i64 (↑k : Int))]) ((fun (h : Heap) (x : Nat) => h) (Heap.mk (nat_lit 0) Trie.leaf))
  (fun (i k : Nat) => i + k = List.length xs ∧ ∀ (j : Nat), j < k → (Face.addr (List.getD xs j default) == Face.addr r) = false) (List.length xs) (0 : Nat) fun (i7 s7 : Nat) (j7 : Nat → Value) =>
  Adv.split (9 : Nat)
    (Adv.chk (20 : Nat) none
      (Adv.chk (21 : Nat) (some (Value.agg (Array.mk (faceL (List.getD xs s7 default))))) (Adv.purs (22 : Nat) (Face.addr (List.getD xs s7 default) == Face.addr r) Adv.nil Adv.nil)))
    Adv.nil) (by kernel_rfl) (by kernel_rfl) (p := ((List.length xs + (0 : Nat) = List.length xs ∧ ∀ (j : Nat), j < (0 : Nat) → (Face.addr (List.getD xs j default) == Face.addr r) = false) ∧
    Value.int IntKind.i64 (0 : Int) = Value.int IntKind.i64 (0 : Int) ∧ Heap.mk (nat_lit 0) Trie.leaf = Heap.mk (nat_lit 0) Trie.leaf) ∧
  ∀ (i7 s7 : Nat) (j7 : Nat → Value),
    (i7 + s7 = List.length xs ∧ ∀ (j : Nat), j < s7 → (Face.addr (List.getD xs j default) == Face.addr r) = false) →
      (decide ((↑s7 : Int) < (↑(List.length xs) : Int)) = true →
          ((0 : Int) ≤ (↑s7 : Int) ∧ (↑s7 : Int) < (↑(List.length xs) : Int)) ∧
            Ask.holds Try.prog (Ask.part (Array.toList (Array.mk (facesL xs))) (Int.toNat (↑(Int.toNat (↑s7 : Int) * nat_lit 97) : Int)) (nat_lit 97) (faceL (List.getD xs s7 default))) ∧
              CallK Try.prog (nat_lit 130)
                  [Value.agg (Array.mk (faceL (List.getD xs s7 default))), Value.iface (nat_lit 1000001) (Value.tuple (Array.mk [Value.int IntKind.i64 (0 : Int), Value.agg (Array.mk (faceL r))]))]
                  (Value.bool (Face.addr (List.getD xs s7 default) == Face.addr r)) ∧
                ((Face.addr (List.getD xs s7 default) == Face.addr r) = true → Value.int IntKind.i64 (↑s7 : Int) = Value.int IntKind.i64 (idxB xs fun (q : Face) => Face.addr q == Face.addr r)) ∧
                  ((Face.addr (List.getD xs s7 default) == Face.addr r) = false →
                    ∃ (i7' : Nat),
                      ∃ (s7' : Nat),
                        i7' < i7 ∧
                          (i7' + s7' = List.length xs ∧ ∀ (j : Nat), j < s7' → (Face.addr (List.getD xs j default) == Face.addr r) = false) ∧
                            Value.int IntKind.i64 (IntKind.wrap IntKind.i64 ((↑s7 : Int) + (1 : Int))) = Value.int IntKind.i64 (↑s7' : Int) ∧ True ∧ true = true ∧ True)) ∧
        (decide ((↑s7 : Int) < (↑(List.length xs) : Int)) = false → Value.int IntKind.i64 (-1 : Int) = Value.int IntKind.i64 (idxB xs fun (q : Face) => Face.addr q == Face.addr r))) (by kernel_rfl) (by
    refine ⟨⟨⟨by omega, fun j hj => by omega⟩, rfl, rfl⟩, fun i k j ⟨q1, q2⟩ => ⟨fun h1 => ?_, fun h1 => ?_⟩⟩
    · have hk : k < xs.length := by have := of_decide_eq_true h1; omega
      exact ⟨⟨by omega, by omega⟩, faces_part hk 0 97 (by omega) rfl rfl, faceSame_w _ _, fun h2 => congrArg (Value.int .i64) (idxB_some (d := default) hk h2 q2).symm, fun h2 => ⟨i - 1, k + 1, by omega, ⟨by omega, lt_next q2 h2⟩, wrap_next k (by omega), trivial, rfl, trivial⟩⟩
    · have hk : k = xs.length := by have := of_decide_eq_false h1; omega
      subst hk
      exact congrArg (Value.int .i64) (idxB_none (d := default) q2).symm)
theorem anyFace_w (xs : List Face) (r : Face) (hl : xs.length ≤ 1099511627776) : CallK Try.prog 132 [facesV xs, .func (.func 130) (Array.mk []) (Array.mk [vpt 0 (Array.mk (faceL r))])] (.bool (xs.any fun q => q.addr == r.addr)) :=
  CallK.via progOK (pfs []) [] 100 (Adv.pur (5 : Nat) (Value.int IntKind.i64 (idxB xs fun (q : Face) => Face.addr q == Face.addr r)) (Adv.split (6 : Nat) Adv.nil Adv.nil)) (by kernel_rfl) (by kernel_rfl) (p := CallK Try.prog (nat_lit 74)
    [Value.iface (nat_lit 1000000) (Value.tuple (Array.mk [Value.int IntKind.i64 (↑(List.length xs) : Int), Value.agg (Array.mk (facesL xs))])),
      Value.func (Fn.func (nat_lit 130)) (Array.mk []) (Array.mk [Value.iface (nat_lit 1000001) (Value.tuple (Array.mk [Value.int IntKind.i64 (0 : Int), Value.agg (Array.mk (faceL r))]))])]
    (Value.int IntKind.i64 (idxB xs fun (q : Face) => Face.addr q == Face.addr r)) ∧
  (decide ((idxB xs fun (q : Face) => Face.addr q == Face.addr r) ≥ (0 : Int)) = true → Value.bool true = Value.bool (List.any xs fun (q : Face) => Face.addr q == Face.addr r)) ∧
    (decide ((idxB xs fun (q : Face) => Face.addr q == Face.addr r) ≥ (0 : Int)) = false → Value.bool false = Value.bool (List.any xs fun (q : Face) => Face.addr q == Face.addr r))) (by kernel_rfl) (by
    rw [← anyB_idx]
    exact ⟨idxFace_w xs r hl, fun h => by rw [← h], fun h => by rw [← h]⟩)
theorem lblRight3_w (a b d : Lbl) : CallK Try.prog 114 [vsl 3 (Array.mk (lblL a ++ lblL b ++ lblL d))] (.bool (rightL a && rightL b && rightL d)) :=
  CallK.via progOK (pfs []) [] 100 (Adv.purs (19 : Nat) (rightL a) (Adv.purs (36 : Nat) (rightL b) (Adv.purs (53 : Nat) (rightL d) Adv.nil Adv.nil) Adv.nil) Adv.nil) (by kernel_rfl) (by kernel_rfl) (p := CallK Try.prog (nat_lit 142) [Value.agg (Array.mk (lblL a))] (Value.bool (rightL a)) ∧
  (rightL a = true →
      CallK Try.prog (nat_lit 142) [Value.agg (Array.mk (lblL b))] (Value.bool (rightL b)) ∧
        (rightL b = true →
            CallK Try.prog (nat_lit 142) [Value.agg (Array.mk (lblL d))] (Value.bool (rightL d)) ∧
              (rightL d = true → Value.bool true = Value.bool (rightL a && rightL b && rightL d)) ∧ (rightL d = false → Value.bool false = Value.bool (rightL a && rightL b && rightL d))) ∧
          (rightL b = false → Value.bool false = Value.bool (rightL a && rightL b && rightL d))) ∧
    (rightL a = false → Value.bool false = Value.bool (rightL a && rightL b && rightL d))) (by kernel_rfl) (by
    simp only [Value.bool.injEq]
    repeat' (first | exact lblRight_w _ | apply And.intro | intro)
    all_goals grind)
theorem tblGet {xs : List Lbl} {x : Lbl} (h : keyHas xs x = true) : (Ask.get (nums xs.length) (keyIdx xs x) (.int .i64 (keyIdx xs x : Nat))).holds Try.prog := key_get h
theorem tblFind_t (xs : List Lbl) (x : Lbl) (h : keyHas xs x = true) : CallK Try.prog 150 [tblV xs, lblV x] (.tuple (Array.mk [.int .i64 (keyIdx xs x : Nat), .bool true])) :=
  CallK.via progOK (pfs []) [] 100 (Adv.cas (15 : Nat) (keyHas xs x) (Adv.chk (15 : Nat) (some (Value.tuple (Array.mk [Value.int IntKind.i64 (Int.ofNat (keyIdx xs x)), keyVal xs x]))) Adv.nil)
  (Adv.chk (15 : Nat) (some Value.nilFunc) Adv.nil)) (by kernel_rfl) (by kernel_rfl) (p := (keyHas xs x = true →
    (Ask.holds Try.prog (Ask.get (Array.toList (Array.mk (nums (List.length xs)))) (Int.toNat (Int.ofNat (keyIdx xs x))) (Value.int IntKind.i64 (↑(keyIdx xs x) : Int))) ∧
        Ask.holds Try.prog (Ask.find (nat_lit 44) (Value.agg (Array.mk (lblL x))) (Array.toList (Array.mk (lblKeys xs))) (some (Int.toNat (Int.ofNat (keyIdx xs x)))))) ∧
      Value.tuple (Array.mk [Value.int IntKind.i64 (↑(keyIdx xs x) : Int), Value.bool true]) = Value.tuple (Array.mk [Value.int IntKind.i64 (↑(keyIdx xs x) : Int), Value.bool true])) ∧
  (keyHas xs x = false →
    Ask.holds Try.prog (Ask.find (nat_lit 44) (Value.agg (Array.mk (lblL x))) (Array.toList (Array.mk (lblKeys xs))) none) ∧
      Value.tuple (Array.mk [Value.int IntKind.i64 (0 : Int), Value.bool false]) = Value.tuple (Array.mk [Value.int IntKind.i64 (↑(keyIdx xs x) : Int), Value.bool true]))) (by kernel_rfl) (by
    exact ⟨fun _ => ⟨⟨tblGet h, key_find h⟩, rfl⟩, fun e => by rw [h] at e; cases e⟩)
theorem tblFind_f (xs : List Lbl) (x : Lbl) (h : keyHas xs x = false) : CallK Try.prog 150 [tblV xs, lblV x] (.tuple (Array.mk [.int .i64 0, .bool false])) :=
  CallK.via progOK (pfs []) [] 100 (Adv.cas (15 : Nat) (keyHas xs x) (Adv.chk (15 : Nat) (some (Value.tuple (Array.mk [Value.int IntKind.i64 (Int.ofNat (keyIdx xs x)), keyVal xs x]))) Adv.nil)
  (Adv.chk (15 : Nat) (some Value.nilFunc) Adv.nil)) (by kernel_rfl) (by kernel_rfl) (p := (keyHas xs x = true →
    (Ask.holds Try.prog (Ask.get (Array.toList (Array.mk (nums (List.length xs)))) (Int.toNat (Int.ofNat (keyIdx xs x))) (Value.int IntKind.i64 (↑(keyIdx xs x) : Int))) ∧
        Ask.holds Try.prog (Ask.find (nat_lit 44) (Value.agg (Array.mk (lblL x))) (Array.toList (Array.mk (lblKeys xs))) (some (Int.toNat (Int.ofNat (keyIdx xs x)))))) ∧
      Value.tuple (Array.mk [Value.int IntKind.i64 (↑(keyIdx xs x) : Int), Value.bool true]) = Value.tuple (Array.mk [Value.int IntKind.i64 (0 : Int), Value.bool false])) ∧
  (keyHas xs x = false →
    Ask.holds Try.prog (Ask.find (nat_lit 44) (Value.agg (Array.mk (lblL x))) (Array.toList (Array.mk (lblKeys xs))) none) ∧
      Value.tuple (Array.mk [Value.int IntKind.i64 (0 : Int), Value.bool false]) = Value.tuple (Array.mk [Value.int IntKind.i64 (0 : Int), Value.bool false]))) (by kernel_rfl) (by
    exact ⟨fun e => (by rw [h] at e; cases e), fun _ => ⟨key_none h, rfl⟩⟩)
/-- Are an interface's labels right? -/
def rangedB (c : Conf) (x : Face) : Bool := keyHas c.labels x.dflt && (rightL x.lo && rightL x.hi && rightL x.dflt) && domL x.hi x.lo && inL x.dflt x.lo x.hi && (!(x.mode == 0) || lblEq x.lo x.hi && lblEq x.lo x.dflt)
theorem ranged_w (c : Conf) (x : Face) : CallK Try.prog 133 [vpt 0 (Array.mk (lookL c)), faceV x] (.bool (rangedB c x)) :=
  CallK.via progOK (pfs []) [] 100 (Adv.cas (10 : Nat) (keyHas (Conf.labels c) (Face.dflt x))
  (Adv.pur (10 : Nat) (Value.tuple (Array.mk [Value.int IntKind.i64 (↑(keyIdx (Conf.labels c) (Face.dflt x)) : Int), Value.bool true]))
    (Adv.bors (28 : Nat) (rightL (Face.lo x) && rightL (Face.hi x) && rightL (Face.dflt x))
      (Adv.purs (36 : Nat) (domL (Face.hi x) (Face.lo x))
        (Adv.purs (46 : Nat) (inL (Face.dflt x) (Face.lo x) (Face.hi x))
          (Adv.split (53 : Nat) Adv.nil
            (Adv.chks (59 : Nat) (some (Value.bool (lblEq (Face.lo x) (Face.hi x)))) (Adv.chks (65 : Nat) (some (Value.bool (lblEq (Face.lo x) (Face.dflt x)))) Adv.nil Adv.nil) Adv.nil))
          Adv.nil)
        Adv.nil)
      Adv.nil))
  (Adv.pur (10 : Nat) (Value.tuple (Array.mk [Value.int IntKind.i64 (0 : Int), Value.bool false])) Adv.nil)) (by kernel_rfl) (by kernel_rfl) (p := (keyHas (Conf.labels c) (Face.dflt x) = true →
    CallK Try.prog (nat_lit 150)
        [Value.iface (nat_lit 1000001)
            (Value.tuple
              (Array.mk
                [Value.int IntKind.i64 (0 : Int),
                  Value.agg
                    (Array.mk
                      [Value.iface (nat_lit 1000000) (Value.tuple (Array.mk [Value.int IntKind.i64 (↑(List.length (Conf.labels c)) : Int), Value.agg (Array.mk (lblsL (Conf.labels c)))])),
                        Value.iface (nat_lit 1000004) (Value.tuple (Array.mk [Value.agg (Array.mk (lblKeys (Conf.labels c))), Value.agg (Array.mk (nums (List.length (Conf.labels c))))]))])])),
          Value.agg (Array.mk (lblL (Face.dflt x)))]
        (Value.tuple (Array.mk [Value.int IntKind.i64 (↑(keyIdx (Conf.labels c) (Face.dflt x)) : Int), Value.bool true])) ∧
      CallK Try.prog (nat_lit 114)
          [Value.iface (nat_lit 1000000)
              (Value.tuple
                (Array.mk
                  [Value.int IntKind.i64 (3 : Int),
                    Value.agg
                      (Array.mk
                        (Value.int IntKind.i64 (Lbl.level (Face.lo x)) ::
                          Value.int IntKind.u8 (List.getD (Lbl.cats (Face.lo x)) (0 : Nat) (0 : Int)) ::
                            Value.int IntKind.u8 (List.getD (Lbl.cats (Face.lo x)) (1 : Nat) (0 : Int)) ::
                              Value.int IntKind.u8 (List.getD (Lbl.cats (Face.lo x)) (2 : Nat) (0 : Int)) ::
                                Value.int IntKind.u8 (List.getD (Lbl.cats (Face.lo x)) (3 : Nat) (0 : Int)) ::
                                  Value.int IntKind.u8 (List.getD (Lbl.cats (Face.lo x)) (4 : Nat) (0 : Int)) ::
                                    Value.int IntKind.u8 (List.getD (Lbl.cats (Face.lo x)) (5 : Nat) (0 : Int)) ::
                                      Value.int IntKind.u8 (List.getD (Lbl.cats (Face.lo x)) (6 : Nat) (0 : Int)) ::
                                        Value.int IntKind.u8 (List.getD (Lbl.cats (Face.lo x)) (7 : Nat) (0 : Int)) ::
                                          Value.int IntKind.u8 (List.getD (Lbl.cats (Face.lo x)) (8 : Nat) (0 : Int)) ::
                                            Value.int IntKind.u8 (List.getD (Lbl.cats (Face.lo x)) (9 : Nat) (0 : Int)) ::
                                              Value.int IntKind.u8 (List.getD (Lbl.cats (Face.lo x)) (10 : Nat) (0 : Int)) ::
                                                Value.int IntKind.u8 (List.getD (Lbl.cats (Face.lo x)) (11 : Nat) (0 : Int)) ::
                                                  Value.int IntKind.u8 (List.getD (Lbl.cats (Face.lo x)) (12 : Nat) (0 : Int)) ::
                                                    Value.int IntKind.u8 (List.getD (Lbl.cats (Face.lo x)) (13 : Nat) (0 : Int)) ::
                                                      Value.int IntKind.u8 (List.getD (Lbl.cats (Face.lo x)) (14 : Nat) (0 : Int)) ::
                                                        Value.int IntKind.u8 (List.getD (Lbl.cats (Face.lo x)) (15 : Nat) (0 : Int)) ::
                                                          Value.int IntKind.u8 (List.getD (Lbl.cats (Face.lo x)) (16 : Nat) (0 : Int)) ::
                                                            Value.int IntKind.u8 (List.getD (Lbl.cats (Face.lo x)) (17 : Nat) (0 : Int)) ::
                                                              Value.int IntKind.u8 (List.getD (Lbl.cats (Face.lo x)) (18 : Nat) (0 : Int)) ::
                                                                Value.int IntKind.u8 (List.getD (Lbl.cats (Face.lo x)) (19 : Nat) (0 : Int)) ::
                                                                  Value.int IntKind.u8 (List.getD (Lbl.cats (Face.lo x)) (20 : Nat) (0 : Int)) ::
                                                                    Value.int IntKind.u8 (List.getD (Lbl.cats (Face.lo x)) (21 : Nat) (0 : Int)) ::
                                                                      Value.int IntKind.u8 (List.getD (Lbl.cats (Face.lo x)) (22 : Nat) (0 : Int)) ::
                                                                        Value.int IntKind.u8 (List.getD (Lbl.cats (Face.lo x)) (23 : Nat) (0 : Int)) ::
                                                                          Value.int IntKind.u8 (List.getD (Lbl.cats (Face.lo x)) (24 : Nat) (0 : Int)) ::
                                                                            Value.int IntKind.u8 (List.getD (Lbl.cats (Face.lo x)) (25 : Nat) (0 : Int)) ::
                                                                              Value.int IntKind.u8 (List.getD (Lbl.cats (Face.lo x)) (26 : Nat) (0 : Int)) ::
                                                                                Value.int IntKind.u8 (List.getD (Lbl.cats (Face.lo x)) (27 : Nat) (0 : Int)) ::
                                                                                  Value.int IntKind.u8 (List.getD (Lbl.cats (Face.lo x)) (28 : Nat) (0 : Int)) ::
                                                                                    Value.int IntKind.u8 (List.getD (Lbl.cats (Face.lo x)) (29 : Nat) (0 : Int)) ::
                                                                                      Value.int IntKind.i64 (Lbl.level (Face.hi x)) ::
                                                                                        Value.int IntKind.u8 (List.getD (Lbl.cats (Face.hi x)) (0 : Nat) (0 : Int)) ::
                                                                                          Value.int IntKind.u8 (List.getD (Lbl.cats (Face.hi x)) (1 : Nat) (0 : Int)) ::
                                                                                            Value.int IntKind.u8 (List.getD (Lbl.cats (Face.hi x)) (2 : Nat) (0 : Int)) ::
                                                                                              Value.int IntKind.u8 (List.getD (Lbl.cats (Face.hi x)) (3 : Nat) (0 : Int)) ::
                                                                                                Value.int IntKind.u8 (List.getD (Lbl.cats (Face.hi x)) (4 : Nat) (0 : Int)) ::
                                                                                                  Value.int IntKind.u8 (List.getD (Lbl.cats (Face.hi x)) (5 : Nat) (0 : Int)) ::
                                                                                                    Value.int IntKind.u8 (List.getD (Lbl.cats (Face.hi x)) (6 : Nat) (0 : Int)) ::
                                                                                                      Value.int IntKind.u8 (List.getD (Lbl.cats (Face.hi x)) (7 : Nat) (0 : Int)) ::
                                                                                                        Value.int IntKind.u8 (List.getD (Lbl.cats (Face.hi x)) (8 : Nat) (0 : Int)) ::
                                                                                                          Value.int IntKind.u8 (List.getD (Lbl.cats (Face.hi x)) (9 : Nat) (0 : Int)) ::
                                                                                                            Value.int IntKind.u8 (List.getD (Lbl.cats (Face.hi x)) (10 : Nat) (0 : Int)) ::
                                                                                                              Value.int IntKind.u8 (List.getD (Lbl.cats (Face.hi x)) (11 : Nat) (0 : Int)) ::
                                                                                                                Value.int IntKind.u8 (List.getD (Lbl.cats (Face.hi x)) (12 : Nat) (0 : Int)) ::
                                                                                                                  Value.int IntKind.u8 (List.getD (Lbl.cats (Face.hi x)) (13 : Nat) (0 : Int)) ::
                                                                                                                    Value.int IntKind.u8 (List.getD (Lbl.cats (Face.hi x)) (14 : Nat) (0 : Int)) ::
                                                                                                                      Value.int IntKind.u8 (List.getD (Lbl.cats (Face.hi x)) (15 : Nat) (0 : Int)) ::
                                                                                                                        Value.int IntKind.u8 (List.getD (Lbl.cats (Face.hi x)) (16 : Nat) (0 : Int)) ::
                                                                                                                          Value.int IntKind.u8
                                                                                                                              (List.getD (Lbl.cats (Face.hi x)) (17 : Nat) (0 : Int)) ::
                                                                                                                            Value.int IntKind.u8
                                                                                                                                (List.getD (Lbl.cats (Face.hi x)) (18 : Nat) (0 : Int)) ::
                                                                                                                              Value.int IntKind.u8
                                                                                                                                  (List.getD (Lbl.cats (Face.hi x)) (19 : Nat) (0 : Int)) ::
                                                                                                                                Value.int IntKind.u8
                                                                                                                                    (List.getD (Lbl.cats (Face.hi x)) (20 : Nat) (0 : Int)) ::
                                                                                                                                  Value.int IntKind.u8
                                                                                                                                      (List.getD (Lbl.cats (Face.hi x)) (21 : Nat) (0 : Int)) ::
                                                                                                                                    Value.int IntKind.u8
                                                                                                                                        (List.getD (Lbl.cats (Face.hi x)) (22 : Nat) (0 : Int)) ::
                                                                                                                                      Value.int IntKind.u8
                                                                                                                                          (List.getD (Lbl.cats (Face.hi x)) (23 : Nat) (0 : Int)) ::
                                                                                                                                        Value.int IntKind.u8
                                                                                                                                            (List.getD (Lbl.cats (Face.hi x)) (24 : Nat) (0 : Int)) ::
                                                                                                                                          Value.int IntKind.u8
                                                                                                                                              (List.getD (Lbl.cats (Face.hi x)) (25 : Nat) (0 : Int)) ::
                                                                                                                                            Value.int IntKind.u8
                                                                                                                                                (List.getD (Lbl.cats (Face.hi x)) (26 : Nat)
                                                                                                                                                  (0 : Int)) ::
                                                                                                                                              Value.int IntKind.u8
                                                                                                                                                  (List.getD (Lbl.cats (Face.hi x)) (27 : Nat)
                                                                                                                                                    (0 : Int)) ::
                                                                                                                                                Value.int IntKind.u8
                                                                                                                                                    (List.getD (Lbl.cats (Face.hi x)) (28 : Nat)
                                                                                                                                                      (0 : Int)) ::
                                                                                                                                                  Value.int IntKind.u8
                                                                                                                                                      (List.getD (Lbl.cats (Face.hi x)) (29 : Nat)
                                                                                                                                                        (0 : Int)) ::
                                                                                                                                                    lblL (Face.dflt x)))]))]
          (Value.bool (rightL (Face.lo x) && rightL (Face.hi x) && rightL (Face.dflt x))) ∧
        ((rightL (Face.lo x) && rightL (Face.hi x) && rightL (Face.dflt x)) = true →
            CallK Try.prog (nat_lit 122) [Value.agg (Array.mk (lblL (Face.hi x))), Value.agg (Array.mk (lblL (Face.lo x)))] (Value.bool (domL (Face.hi x) (Face.lo x))) ∧
              (domL (Face.hi x) (Face.lo x) = true →
                  CallK Try.prog (nat_lit 117) [Value.agg (Array.mk (lblL (Face.dflt x))), Value.agg (Array.mk (lblL (Face.lo x))), Value.agg (Array.mk (lblL (Face.hi x)))]
                      (Value.bool (inL (Face.dflt x) (Face.lo x) (Face.hi x))) ∧
                    (inL (Face.dflt x) (Face.lo x) (Face.hi x) = true →
                        ((Face.mode x != (0 : Int)) = true → Value.bool true = Value.bool (rangedB c x)) ∧
                          ((Face.mode x != (0 : Int)) = false →
                            Ask.holds Try.prog (Ask.eqv (nat_lit 44) (Value.agg (Array.mk (lblL (Face.lo x)))) (Value.agg (Array.mk (lblL (Face.hi x)))) (lblEq (Face.lo x) (Face.hi x))) ∧
                              (lblEq (Face.lo x) (Face.hi x) = true →
                                  Ask.holds Try.prog (Ask.eqv (nat_lit 44) (Value.agg (Array.mk (lblL (Face.lo x)))) (Value.agg (Array.mk (lblL (Face.dflt x)))) (lblEq (Face.lo x) (Face.dflt x))) ∧
                                    (lblEq (Face.lo x) (Face.dflt x) = true → Value.bool true = Value.bool (rangedB c x)) ∧
                                      (lblEq (Face.lo x) (Face.dflt x) = false → Value.bool false = Value.bool (rangedB c x))) ∧
                                (lblEq (Face.lo x) (Face.hi x) = false → Value.bool false = Value.bool (rangedB c x)))) ∧
                      (inL (Face.dflt x) (Face.lo x) (Face.hi x) = false → Value.bool false = Value.bool (rangedB c x))) ∧
                (domL (Face.hi x) (Face.lo x) = false → Value.bool false = Value.bool (rangedB c x))) ∧
          ((rightL (Face.lo x) && rightL (Face.hi x) && rightL (Face.dflt x)) = false → Value.bool false = Value.bool (rangedB c x))) ∧
  (keyHas (Conf.labels c) (Face.dflt x) = false →
    CallK Try.prog (nat_lit 150)
        [Value.iface (nat_lit 1000001)
            (Value.tuple
              (Array.mk
                [Value.int IntKind.i64 (0 : Int),
                  Value.agg
                    (Array.mk
                      [Value.iface (nat_lit 1000000) (Value.tuple (Array.mk [Value.int IntKind.i64 (↑(List.length (Conf.labels c)) : Int), Value.agg (Array.mk (lblsL (Conf.labels c)))])),
                        Value.iface (nat_lit 1000004) (Value.tuple (Array.mk [Value.agg (Array.mk (lblKeys (Conf.labels c))), Value.agg (Array.mk (nums (List.length (Conf.labels c))))]))])])),
          Value.agg (Array.mk (lblL (Face.dflt x)))]
        (Value.tuple (Array.mk [Value.int IntKind.i64 (0 : Int), Value.bool false])) ∧
      Value.bool false = Value.bool (rangedB c x))) (by kernel_rfl) (by
    simp only [Value.bool.injEq]
    repeat' (first | exact tblFind_t _ _ (by assumption) | exact tblFind_f _ _ (by assumption) | exact lblRight3_w _ _ _ | exact dom_w _ _ | exact in_w _ _ _ | exact lblEq_eqD _ _ | rfl | apply And.intro | intro)
    all_goals grind [rangedB])
/-- What is wrong with an interface behind others. -/
def faceE (c : Conf) (ys : List Face) (x : Face) : Int := if (kindI x.addr == 4) = false then 1 else if (ys.any fun q => q.addr == x.addr) = true then 7
  else if x.mtu < 68 ∨ 65535 < x.mtu ∨ x.mode < 0 ∨ 2 < x.mode then 1 else if x.mode = 1 ∧ (x.doi < 0 ∨ c.dois.length ≤ x.doi) then 1 else if rangedB c x = false then 8 else 0
theorem face_w (c : Conf) (x : Face) (ys : List Face) (hl : ys.length ≤ 1099511627776) (h0 : 0 ≤ x.addr) (h1 : x.addr < 4294967296) : CallK Try.prog 98 [vpt 0 (Array.mk (lookL c)), faceV x, facesV ys] (.int .i64 (faceE c ys x)) :=
  CallK.via progOK (pfs []) [] 100 (Adv.pur (10 : Nat) (Value.int IntKind.i64 (kindI (Face.addr x)))
  (Adv.split (11 : Nat) Adv.nil
    (Adv.bors (17 : Nat) (List.any ys fun (q : Face) => Face.addr q == Face.addr x) Adv.nil
      (Adv.split (23 : Nat) Adv.nil
        (Adv.split (27 : Nat) Adv.nil
          (Adv.split (32 : Nat) Adv.nil
            (Adv.split (37 : Nat) Adv.nil
              (Adv.split (44 : Nat) (Adv.split (48 : Nat) Adv.nil (Adv.split (58 : Nat) Adv.nil (Adv.purs (66 : Nat) (rangedB c x) Adv.nil Adv.nil)))
                (Adv.purs (52 : Nat) (rangedB c x) Adv.nil Adv.nil))))))))) (by kernel_rfl) (by kernel_rfl) (p := CallK Try.prog (nat_lit 131) [Value.int IntKind.u32 (Face.addr x)] (Value.int IntKind.i64 (kindI (Face.addr x))) ∧
  ((kindI (Face.addr x) != (4 : Int)) = true → Value.int IntKind.i64 (1 : Int) = Value.int IntKind.i64 (faceE c ys x)) ∧
    ((kindI (Face.addr x) != (4 : Int)) = false →
      CallK Try.prog (nat_lit 132)
          [Value.iface (nat_lit 1000000) (Value.tuple (Array.mk [Value.int IntKind.i64 (↑(List.length ys) : Int), Value.agg (Array.mk (facesL ys))])),
            Value.func (Fn.func (nat_lit 130)) (Array.mk []) (Array.mk [Value.iface (nat_lit 1000001) (Value.tuple (Array.mk [Value.int IntKind.i64 (0 : Int), Value.agg (Array.mk (faceL x))]))])]
          (Value.bool (List.any ys fun (q : Face) => Face.addr q == Face.addr x)) ∧
        ((List.any ys fun (q : Face) => Face.addr q == Face.addr x) = true → Value.int IntKind.i64 (7 : Int) = Value.int IntKind.i64 (faceE c ys x)) ∧
          ((List.any ys fun (q : Face) => Face.addr q == Face.addr x) = false →
            (decide (Face.mtu x < (68 : Int)) = true → Value.int IntKind.i64 (1 : Int) = Value.int IntKind.i64 (faceE c ys x)) ∧
              (decide (Face.mtu x < (68 : Int)) = false →
                (decide (Face.mtu x > (65535 : Int)) = true → Value.int IntKind.i64 (1 : Int) = Value.int IntKind.i64 (faceE c ys x)) ∧
                  (decide (Face.mtu x > (65535 : Int)) = false →
                    (decide (Face.mode x < (0 : Int)) = true → Value.int IntKind.i64 (1 : Int) = Value.int IntKind.i64 (faceE c ys x)) ∧
                      (decide (Face.mode x < (0 : Int)) = false →
                        (decide (Face.mode x > (2 : Int)) = true → Value.int IntKind.i64 (1 : Int) = Value.int IntKind.i64 (faceE c ys x)) ∧
                          (decide (Face.mode x > (2 : Int)) = false →
                            ((Face.mode x == (1 : Int)) = true →
                                (decide (Face.doi x < (0 : Int)) = true → Value.int IntKind.i64 (1 : Int) = Value.int IntKind.i64 (faceE c ys x)) ∧
                                  (decide (Face.doi x < (0 : Int)) = false →
                                    (decide (Face.doi x ≥ (↑(List.length (Conf.dois c)) : Int)) = true → Value.int IntKind.i64 (1 : Int) = Value.int IntKind.i64 (faceE c ys x)) ∧
                                      (decide (Face.doi x ≥ (↑(List.length (Conf.dois c)) : Int)) = false →
                                        CallK Try.prog (nat_lit 133)
                                            [Value.iface (nat_lit 1000001) (Value.tuple (Array.mk [Value.int IntKind.i64 (0 : Int), Value.agg (Array.mk (lookL c))])), Value.agg (Array.mk (faceL x))]
                                            (Value.bool (rangedB c x)) ∧
                                          (rangedB c x = true → Value.int IntKind.i64 (0 : Int) = Value.int IntKind.i64 (faceE c ys x)) ∧
                                            (rangedB c x = false → Value.int IntKind.i64 (8 : Int) = Value.int IntKind.i64 (faceE c ys x))))) ∧
                              ((Face.mode x == (1 : Int)) = false →
                                CallK Try.prog (nat_lit 133)
                                    [Value.iface (nat_lit 1000001) (Value.tuple (Array.mk [Value.int IntKind.i64 (0 : Int), Value.agg (Array.mk (lookL c))])), Value.agg (Array.mk (faceL x))]
                                    (Value.bool (rangedB c x)) ∧
                                  (rangedB c x = true → Value.int IntKind.i64 (0 : Int) = Value.int IntKind.i64 (faceE c ys x)) ∧
                                    (rangedB c x = false → Value.int IntKind.i64 (8 : Int) = Value.int IntKind.i64 (faceE c ys x)))))))))) (by kernel_rfl) (by
    simp only [Value.int.injEq]
    repeat' (first | exact kind_w _ h0 h1 | exact anyFace_w _ _ hl | exact ranged_w _ _ | rfl | apply And.intro | intro)
    all_goals grind [faceE])
end Go.Proofs.Ytepijhnfeafmaaa

end
