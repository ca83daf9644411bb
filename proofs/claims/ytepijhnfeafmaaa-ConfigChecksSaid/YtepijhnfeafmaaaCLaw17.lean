/- What is wrong with any config, and where: the walk of the law. -/
import Derived.Test.YtepijhnfeafmaaaAPrg
import Derived.Test.YtepijhnfeafmaaaCRef3
import Derived.Test.YtepijhnfeafmaaaIRunF
set_option linter.unusedVariables false
set_option linter.unusedSimpArgs false
set_option maxRecDepth 100000
namespace Go.Proofs.Ytepijhnfeafmaaa
open Go Go.Ideal
def greatD (d : Doi) : Bool := decide (300 < d.levels.length) || decide (300 < d.cats.length)
def greatC (c : Conf) : Bool := (c.dois.take 10).any greatD || decide (12 < c.faces.length) || decide (30 < c.labels.length) || decide (8 < c.dois.length) || decide (80 < c.relabels.length) || decide (80 < c.rules.length) || decide (300 < c.routes.length)
/-- Data as they are handed. -/
structure ConfWf (c : Conf) : Prop where
  addr : AddrOK c
  faces : ∀ x ∈ c.faces, FaceOK x
  relabels : ∀ r ∈ c.relabels, PfxOK r.src ∧ PfxOK r.dst
  rules : ∀ r ∈ c.rules, PfxOK r.src ∧ PfxOK r.dst
  routes : ∀ r ∈ c.routes, PfxOK r.to
  labels : ∀ x ∈ c.labels, CatsOK x.cats
theorem ConfWf.ok {c : Conf} (h : ConfWf c) (hg : greatC c = false) : ConfOK c := by
  simp only [greatC, Bool.or_eq_false_iff, decide_eq_false_iff_not] at hg
  obtain ⟨⟨⟨⟨⟨⟨g1, g2⟩, g3⟩, g4⟩, g5⟩, g6⟩, g7⟩ := hg
  refine ⟨⟨by omega, by omega, by omega, by omega, by omega, by omega⟩, h.addr, h.faces, fun d hd => ?_, h.relabels, h.rules, h.routes⟩
  rw [List.take_of_length_le (by omega)] at g1
  have := List.any_eq_false.1 g1 d hd
  simp only [greatD, Bool.or_eq_true, decide_eq_true_eq] at this
  omega
theorem greatD_w (d : Doi) : CallK Try.prog 49 [doiV d] (.bool (greatD d)) :=
  CallK.via progOK (pfs []) [] 100 (Adv.split (5 : Nat) Adv.nil (Adv.split (10 : Nat) Adv.nil Adv.nil)) (by kernel_rfl) (by kernel_rfl) (p := (decide ((↑(List.length (Doi.levels d)) : Int) > (300 : Int)) = true → Value.bool true = Value.bool (greatD d)) ∧
  (decide ((↑(List.length (Doi.levels d)) : Int) > (300 : Int)) = false →
    (decide ((↑(List.length (Doi.cats d)) : Int) > (300 : Int)) = true → Value.bool true = Value.bool (greatD d)) ∧
      (decide ((↑(List.length (Doi.cats d)) : Int) > (300 : Int)) = false → Value.bool false = Value.bool (greatD d)))) (by kernel_rfl) (by
    simp only [Value.bool.injEq]
    repeat' (first | rfl | apply And.intro | intro)
    all_goals grind [greatD])
theorem great_w (c : Conf) : CallK Try.prog 15 [confV c] (.bool (greatC c)) :=
  CallK.via progOK (pfs []) [] 100 (Adv.loop (3 : Nat) (fun (k : Nat) => [((3 : Nat), Value.int IntKind.i64 (↑k : Int))])
  ((fun (h : Heap) (x : Nat) => h) (Heap.mk (nat_lit 1) (Trie.node (some (Blk.cells (confL c) (nat_lit 31) Mode.fix)) Trie.leaf Trie.leaf)))
  (fun (a k : Nat) => a + k = (10 : Nat) ∧ k ≤ List.length (Conf.dois c) ∧ ∀ (j : Nat), j < k → greatD (List.getD (Conf.dois c) j default) = false) (10 : Nat) (0 : Nat)
  fun (i3 s3 : Nat) (j3 : Nat → Value) =>
  Adv.split (8 : Nat)
    (Adv.split (11 : Nat)
      (Adv.chk (16 : Nat) none
        (Adv.chk (17 : Nat) (some (Value.agg (Array.mk (doiL (List.getD (Conf.dois c) s3 default))))) (Adv.purs (18 : Nat) (greatD (List.getD (Conf.dois c) s3 default)) Adv.nil Adv.nil)))
      (Adv.split (16 : Nat) Adv.nil (Adv.split (21 : Nat) Adv.nil (Adv.split (27 : Nat) Adv.nil (Adv.split (33 : Nat) Adv.nil (Adv.split (39 : Nat) Adv.nil (Adv.split (45 : Nat) Adv.nil Adv.nil)))))))
    (Adv.split (14 : Nat) Adv.nil (Adv.split (19 : Nat) Adv.nil (Adv.split (25 : Nat) Adv.nil (Adv.split (31 : Nat) Adv.nil (Adv.split (37 : Nat) Adv.nil (Adv.split (43 : Nat) Adv.nil Adv.nil))))))) (by kernel_rfl) (by kernel_rfl) (p := (((10 : Nat) + (0 : Nat) = (10 : Nat) ∧ (0 : Nat) ≤ List.length (Conf.dois c) ∧ ∀ (j : Nat), j < (0 : Nat) → greatD (List.getD (Conf.dois c) j default) = false) ∧
    Value.int IntKind.i64 (0 : Int) = Value.int IntKind.i64 (0 : Int) ∧
      Heap.mk (nat_lit 1) (Trie.node (some (Blk.cells (confL c) (nat_lit 31) Mode.fix)) Trie.leaf Trie.leaf) =
        Heap.mk (nat_lit 1) (Trie.node (some (Blk.cells (confL c) (nat_lit 31) Mode.fix)) Trie.leaf Trie.leaf)) ∧
  ∀ (i3 s3 : Nat) (j3 : Nat → Value),
    (i3 + s3 = (10 : Nat) ∧ s3 ≤ List.length (Conf.dois c) ∧ ∀ (j : Nat), j < s3 → greatD (List.getD (Conf.dois c) j default) = false) →
      (decide ((↑s3 : Int) < (↑(List.length (Conf.dois c)) : Int)) = true →
          (decide ((↑s3 : Int) < (10 : Int)) = true →
              ((0 : Int) ≤ (↑s3 : Int) ∧ (↑s3 : Int) < (↑(List.length (Conf.dois c)) : Int)) ∧
                Ask.holds Try.prog
                    (Ask.part (Array.toList (Array.mk (doisL (Conf.dois c)))) (Int.toNat (↑(Int.toNat (↑s3 : Int) * nat_lit 3) : Int)) (nat_lit 3) (doiL (List.getD (Conf.dois c) s3 default))) ∧
                  CallK Try.prog (nat_lit 49) [Value.agg (Array.mk (doiL (List.getD (Conf.dois c) s3 default)))] (Value.bool (greatD (List.getD (Conf.dois c) s3 default))) ∧
                    (greatD (List.getD (Conf.dois c) s3 default) = true → Value.bool true = Value.bool (greatC c)) ∧
                      (greatD (List.getD (Conf.dois c) s3 default) = false →
                        ∃ (i3' : Nat),
                          ∃ (s3' : Nat),
                            i3' < i3 ∧
                              (i3' + s3' = (10 : Nat) ∧ s3' ≤ List.length (Conf.dois c) ∧ ∀ (j : Nat), j < s3' → greatD (List.getD (Conf.dois c) j default) = false) ∧
                                Value.int IntKind.i64 (IntKind.wrap IntKind.i64 ((↑s3 : Int) + (1 : Int))) = Value.int IntKind.i64 (↑s3' : Int) ∧
                                  (some (Blk.cells (confL c) (nat_lit 31) Mode.fix) = some (Blk.cells (confL c) (nat_lit 31) Mode.fix) ∧ True) ∧ true = true ∧ true = true ∧ True)) ∧
            (decide ((↑s3 : Int) < (10 : Int)) = false →
              (decide ((↑(List.length (Conf.faces c)) : Int) > (12 : Int)) = true → Value.bool true = Value.bool (greatC c)) ∧
                (decide ((↑(List.length (Conf.faces c)) : Int) > (12 : Int)) = false →
                  (decide ((↑(List.length (Conf.labels c)) : Int) > (30 : Int)) = true → Value.bool true = Value.bool (greatC c)) ∧
                    (decide ((↑(List.length (Conf.labels c)) : Int) > (30 : Int)) = false →
                      (decide ((↑(List.length (Conf.dois c)) : Int) > (8 : Int)) = true → Value.bool true = Value.bool (greatC c)) ∧
                        (decide ((↑(List.length (Conf.dois c)) : Int) > (8 : Int)) = false →
                          (decide ((↑(List.length (Conf.relabels c)) : Int) > (80 : Int)) = true → Value.bool true = Value.bool (greatC c)) ∧
                            (decide ((↑(List.length (Conf.relabels c)) : Int) > (80 : Int)) = false →
                              (decide ((↑(List.length (Conf.rules c)) : Int) > (80 : Int)) = true → Value.bool true = Value.bool (greatC c)) ∧
                                (decide ((↑(List.length (Conf.rules c)) : Int) > (80 : Int)) = false →
                                  (decide ((↑(List.length (Conf.routes c)) : Int) > (300 : Int)) = true → Value.bool true = Value.bool (greatC c)) ∧
                                    (decide ((↑(List.length (Conf.routes c)) : Int) > (300 : Int)) = false → Value.bool false = Value.bool (greatC c))))))))) ∧
        (decide ((↑s3 : Int) < (↑(List.length (Conf.dois c)) : Int)) = false →
          (decide ((↑(List.length (Conf.faces c)) : Int) > (12 : Int)) = true → Value.bool true = Value.bool (greatC c)) ∧
            (decide ((↑(List.length (Conf.faces c)) : Int) > (12 : Int)) = false →
              (decide ((↑(List.length (Conf.labels c)) : Int) > (30 : Int)) = true → Value.bool true = Value.bool (greatC c)) ∧
                (decide ((↑(List.length (Conf.labels c)) : Int) > (30 : Int)) = false →
                  (decide ((↑(List.length (Conf.dois c)) : Int) > (8 : Int)) = true → Value.bool true = Value.bool (greatC c)) ∧
                    (decide ((↑(List.length (Conf.dois c)) : Int) > (8 : Int)) = false →
                      (decide ((↑(List.length (Conf.relabels c)) : Int) > (80 : Int)) = true → Value.bool true = Value.bool (greatC c)) ∧
                        (decide ((↑(List.length (Conf.relabels c)) : Int) > (80 : Int)) = false →
                          (decide ((↑(List.length (Conf.rules c)) : Int) > (80 : Int)) = true → Value.bool true = Value.bool (greatC c)) ∧
                            (decide ((↑(List.length (Conf.rules c)) : Int) > (80 : Int)) = false →
                              (decide ((↑(List.length (Conf.routes c)) : Int) > (300 : Int)) = true → Value.bool true = Value.bool (greatC c)) ∧
                                (decide ((↑(List.length (Conf.routes c)) : Int) > (300 : Int)) = false → Value.bool false = Value.bool (greatC c))))))))) (by kernel_rfl) (by
    have tail : ∀ {k : Nat}, (∀ j, j < k → greatD (c.dois.getD j default) = false) → (k = 10 ∨ k = c.dois.length) → k ≤ 10 → k ≤ c.dois.length → (c.dois.take 10).any greatD = false := fun {k} h1 h2 h3 h4 => by
      rcases h2 with rfl | rfl
      · exact any_take_false default h4 h1
      · rw [List.take_of_length_le h3]; exact anyB_false h1
    refine ⟨⟨⟨by omega, by omega, fun j hj => by omega⟩, rfl, rfl⟩, fun a k j ⟨q1, q2, q3⟩ => ⟨fun h1 => ⟨fun h2 => ?_, fun h2 => ?_⟩, fun h1 => ?_⟩⟩
    · have hk : k < c.dois.length := by have := of_decide_eq_true h1; omega
      have hk2 : k < 10 := by have := of_decide_eq_true h2; omega
      refine ⟨⟨by omega, by omega⟩, dois_part hk 0 3 (by omega) rfl rfl, greatD_w _, fun h3 => ?_, fun h3 => ⟨a - 1, k + 1, by omega, ⟨by omega, by omega, lt_next q3 h3⟩, wrap_next k (by omega), ⟨rfl, trivial⟩, rfl, ⟨rfl, trivial⟩⟩⟩
      have : (c.dois.take 10).any greatD = true := by
        rw [List.any_eq_true]
        refine ⟨c.dois.getD k default, ?_, h3⟩
        have hk3 : k < (c.dois.take 10).length := by rw [List.length_take]; omega
        have := List.getElem_mem hk3
        rw [List.getElem_take] at this
        simpa [List.getD, List.getElem?_eq_getElem hk] using this
      unfold greatC; rw [this]; rfl
    · have e := tail q3 (.inl (by have := of_decide_eq_false h2; omega)) (by omega) q2
      simp only [Value.bool.injEq, greatC, e, Bool.false_or]
      repeat' (first | apply And.intro | intro)
      all_goals grind
    · have e := tail q3 (.inr (by have := of_decide_eq_false h1; omega)) (by omega) q2
      simp only [Value.bool.injEq, greatC, e, Bool.false_or]
      repeat' (first | apply And.intro | intro)
      all_goals grind)
theorem awake17_w : CallK Try.prog 16 [] (.bool true) := CallK.runF progOK 3000 rfl rfl (by kernel_rfl) (by kernel_rfl)
theorem checks17_w (c : Conf) (h : ConfWf c) : CallK Try.prog 3 [confV c] (.bool true) :=
  CallK.via progOK (pfs []) [] 100 (Adv.purs (3 : Nat) (greatC c) (Adv.pur (4 : Nat) (Value.bool true) Adv.nil)
  (Adv.pur (5 : Nat) (Value.tuple (Array.mk [Value.int IntKind.i64 (Prod.fst (checkR c)), Value.int IntKind.i64 (Prod.snd (checkR c))]))
    (Adv.pur (12 : Nat) (Value.tuple (Array.mk [Value.int IntKind.i64 (Prod.fst (checkR c)), Value.int IntKind.i64 (Prod.snd (checkR c))]))
      (Adv.split (20 : Nat)
        (Adv.split (24 : Nat)
          (Adv.purs (28 : Nat) (rightC c) (Adv.split (30 : Nat) (Adv.pur (34 : Nat) (Value.bool true) Adv.nil) Adv.nil) (Adv.split (30 : Nat) Adv.nil (Adv.pur (34 : Nat) (Value.bool true) Adv.nil)))
          Adv.nil)
        Adv.nil)))) (by kernel_rfl) (by kernel_rfl) (p := CallK Try.prog (nat_lit 15) [Value.agg (Array.mk (confL c))] (Value.bool (greatC c)) ∧
  (greatC c = true → CallK Try.prog (nat_lit 16) [] (Value.bool true) ∧ Value.bool true = Value.bool true) ∧
    (greatC c = false →
      CallK Try.prog (nat_lit 17) [Value.agg (Array.mk (confL c))] (Value.tuple (Array.mk [Value.int IntKind.i64 (Prod.fst (checkR c)), Value.int IntKind.i64 (Prod.snd (checkR c))])) ∧
        CallK Try.prog (nat_lit 18) [Value.agg (Array.mk (confL c))] (Value.tuple (Array.mk [Value.int IntKind.i64 (Prod.fst (checkR c)), Value.int IntKind.i64 (Prod.snd (checkR c))])) ∧
          ((Prod.fst (checkR c) == Prod.fst (checkR c)) = true →
              ((Prod.snd (checkR c) == Prod.snd (checkR c)) = true →
                  CallK Try.prog (nat_lit 19) [Value.agg (Array.mk (confL c))] (Value.bool (rightC c)) ∧
                    (rightC c = true →
                        ((Prod.snd (checkR c) == (0 : Int)) = true → CallK Try.prog (nat_lit 16) [] (Value.bool true) ∧ Value.bool true = Value.bool true) ∧
                          ((Prod.snd (checkR c) == (0 : Int)) = false → Value.bool false = Value.bool true)) ∧
                      (rightC c = false →
                        ((Prod.snd (checkR c) == (0 : Int)) = true → Value.bool false = Value.bool true) ∧
                          ((Prod.snd (checkR c) == (0 : Int)) = false → CallK Try.prog (nat_lit 16) [] (Value.bool true) ∧ Value.bool true = Value.bool true))) ∧
                ((Prod.snd (checkR c) == Prod.snd (checkR c)) = false → Value.bool false = Value.bool true)) ∧
            ((Prod.fst (checkR c) == Prod.fst (checkR c)) = false → Value.bool false = Value.bool true))) (by kernel_rfl) (by
    simp only [Value.bool.injEq]
    repeat' (first | exact great_w _ | exact awake17_w | exact check_w _ (h.ok (by assumption)).len h.addr | exact right17_w _ (h.ok (by assumption)).len h.addr | exact ref17_w _ (h.ok (by assumption)) | rfl | apply And.intro | intro)
    all_goals grind [rightC])
end Go.Proofs.Ytepijhnfeafmaaa
