/- Texts packed together: CLawLabs CPlan CCycle CWaitLaw. -/
import Derived.Test.YtepijhnfeafmaaaZ21
section
/- Of any config the labels within the range of any interface; which one has an address: the walk of the law. -/
set_option linter.unusedVariables false
set_option linter.unusedSimpArgs false
set_option maxRecDepth 100000
namespace Go.Proofs.Ytepijhnfeafmaaa
open Go Go.Ideal
/-- The first interface, from one on, that has an address; -1: there is none. -/
def OwnAt (c : Conf) (a : Int) (i : Nat) (own : Int) : Prop := (own = -1 ∧ ∀ j, i ≤ j → j < c.faces.length → ((c.faces.getD j default).addr == a) = false) ∨
  (∃ m : Nat, own = m ∧ i ≤ m ∧ m < c.faces.length ∧ ((c.faces.getD m default).addr == a) = true ∧ ∀ j, i ≤ j → j < m → ((c.faces.getD j default).addr == a) = false)
theorem OwnAt.end {c : Conf} {a own : Int} (h : OwnAt c a 0 own) : own = ownB c a := by
  rcases h with ⟨rfl, h⟩ | ⟨m, rfl, _, hm, h1, h2⟩
  · exact (idxB_none (d := default) fun j hj => h j (Nat.zero_le _) hj).symm
  · exact (idxB_some (d := default) hm h1 fun j hj => h2 j (Nat.zero_le _) hj).symm
theorem OwnAt.yes {c : Conf} {a : Int} {k : Nat} (hk : k < c.faces.length) (h1 : ((c.faces.getD k default).addr == a) = true) : OwnAt c a k k :=
  .inr ⟨k, rfl, Nat.le_refl _, hk, h1, fun j h2 h3 => by omega⟩
theorem OwnAt.no {c : Conf} {a own : Int} {k : Nat} (h : OwnAt c a (k + 1) own) (h1 : ((c.faces.getD k default).addr == a) = false) : OwnAt c a k own := by
  have ext : ∀ {p : Nat → Prop} {n : Nat}, p k → (∀ j, k + 1 ≤ j → j < n → p j) → ∀ j, k ≤ j → j < n → p j := fun {p n} a b j h2 h3 => by
    rcases Nat.lt_or_ge k j with h4 | h4
    · exact b j h4 h3
    · obtain rfl : j = k := by omega
      exact a
  rcases h with ⟨e, h⟩ | ⟨m, e, hm, hn, h2, h3⟩
  · exact .inl ⟨e, ext h1 h⟩
  · exact .inr ⟨m, e, by omega, hn, h2, ext h1 h3⟩
theorem right_ranged {c : Conf} (h : rightC c = true) {i : Nat} (hi : i < c.faces.length) : rangedB c (c.faces.getD i default) = true := by
  have hf : (facesR c).2 = 0 := by grind [rightC, checkR]
  have no : faceE c (c.faces.take i) (c.faces.getD i default) = 0 := by
    rcases firstBad_cases c.faces.length (fun k => faceE c (c.faces.take k) (c.faces.getD k default)) with ⟨k, hk, e, hb, n2⟩ | ⟨e, no⟩
    · unfold facesR at hf; rw [firstBad0_at hk hb n2] at hf; exact absurd hf hb
    · exact no i hi
  grind [faceE]
theorem labels_some {c : Conf} (hw : ConfWf c) {i : Int} (h1 : rightC c = true) (h2 : 0 ≤ i) (h3 : i < c.faces.length) : 0 < (labelsC c i).length := by
  have hi : i.toNat < c.faces.length := by omega
  have hr := right_ranged h1 hi
  have hk : keyHas c.labels (c.faces.getD i.toNat default).dflt = true := by grind [rangedB]
  have hn : inL (c.faces.getD i.toNat default).dflt (c.faces.getD i.toNat default).lo (c.faces.getD i.toNat default).hi = true := by grind [rangedB]
  obtain ⟨y, hy, e⟩ := List.any_eq_true.1 hk
  have hf := hw.faces _ (getD_mem (d := default) hi)
  obtain rfl := (lblEq_iff hf.2.2.1 (hw.labels y hy).1).1 e
  obtain ⟨k, hk2, e2⟩ := List.getElem_of_mem hy
  rw [labelsC_t h1 h2 h3]
  refine List.length_pos_of_mem (a := k) (List.mem_filter.2 ⟨List.mem_range.2 hk2, ?_⟩)
  show inL (c.labels.getD k default) _ _ = true
  rw [show c.labels.getD k default = c.labels[k] by simp [List.getD, List.getElem?_eq_getElem hk2], e2]
  exact hn
theorem great_len {c : Conf} (h : greatC c = false) : c.labels.length ≤ 1000 := by
  simp only [greatC, Bool.or_eq_false_iff, decide_eq_false_iff_not] at h; omega
theorem labelsLaw_w (c : Conf) (i a : Int) (hw : ConfWf c) : CallK Try.prog 5 [confV c, .int .i64 i, .int .u32 a] (.bool true) :=
  CallK.via progOK (pfs []) [] 100 (Adv.purs (6 : Nat) (greatC c) (Adv.pur (9 : Nat) (Value.bool true) Adv.nil)
  (Adv.pur (11 : Nat) (Value.iface (nat_lit 1000000) (Value.tuple (Array.mk [Value.int IntKind.i64 (↑(List.length (labelsC c i)) : Int), Value.agg (Array.mk (intsL (labelsC c i)))])))
    (Adv.loop (22 : Nat) (fun (s : Int × Int) => [((9 : Nat), Value.int IntKind.i64 (Prod.fst s)), ((8 : Nat), Value.int IntKind.i64 (Prod.snd s))])
      ((fun (h : Heap) (x : Int × Int) => h) (Heap.mk (nat_lit 1) (Trie.node (some (Blk.cells (confL c) (nat_lit 31) Mode.fix)) Trie.leaf Trie.leaf)))
      (fun (n : Nat) (s : Int × Int) => (↑n : Int) = Prod.fst s + (1 : Int) ∧ n ≤ List.length (Conf.faces c) ∧ OwnAt c a n (Prod.snd s)) (List.length (Conf.faces c))
      ((↑(List.length (Conf.faces c)) : Int) - (1 : Int), (-1 : Int)) fun (i22 : Nat) (s22 : Int × Int) (j22 : Nat → Value) =>
      Adv.split (26 : Nat)
        (Adv.chk (33 : Nat) none (Adv.chk (35 : Nat) (some (Value.int IntKind.u32 (Face.addr (List.getD (Conf.faces c) (Int.toNat (Prod.fst s22)) default)))) (Adv.split (37 : Nat) Adv.nil Adv.nil)))
        (Adv.pur (32 : Nat) (Value.int IntKind.i64 (ownB c a))
          (Adv.split (34 : Nat) Adv.nil
            (Adv.pur (45 : Nat) (Value.tuple (Array.mk [Value.int IntKind.i64 (Prod.fst (checkR c)), Value.int IntKind.i64 (Prod.snd (checkR c))]))
              (Adv.split (53 : Nat)
                (Adv.split (58 : Nat) (Adv.split (66 : Nat) (Adv.pur (68 : Nat) (Value.bool true) Adv.nil) Adv.nil)
                  (Adv.split (65 : Nat) (Adv.split (71 : Nat) (Adv.pur (73 : Nat) (Value.bool true) Adv.nil) Adv.nil)
                    (Adv.chk (75 : Nat) none
                      (Adv.chk (77 : Nat) (some (Value.agg (Array.mk (lblL (Face.lo (List.getD (Conf.faces c) (Int.toNat i) default))))))
                        (Adv.chk (81 : Nat) none
                          (Adv.chk (83 : Nat) (some (Value.agg (Array.mk (lblL (Face.hi (List.getD (Conf.faces c) (Int.toNat i) default))))))
                            (Adv.pur (84 : Nat)
                              (Value.iface (nat_lit 1000000)
                                (Value.tuple
                                  (Array.mk
                                    [Value.int IntKind.i64
                                        (↑(List.length
                                              (whB (fun (x : Lbl) => inL x (Face.lo (List.getD (Conf.faces c) (Int.toNat i) default)) (Face.hi (List.getD (Conf.faces c) (Int.toNat i) default)))
                                                (Conf.labels c) (List.length (Conf.labels c)))) :
                                          Int),
                                      Value.agg
                                        (Array.mk
                                          (intsL
                                            (whB (fun (x : Lbl) => inL x (Face.lo (List.getD (Conf.faces c) (Int.toNat i) default)) (Face.hi (List.getD (Conf.faces c) (Int.toNat i) default)))
                                              (Conf.labels c) (List.length (Conf.labels c)))))])))
                              (Adv.pur (85 : Nat) (Value.bool true) (Adv.split (89 : Nat) (Adv.pur (92 : Nat) (Value.bool true) Adv.nil) Adv.nil)))))))))
                (Adv.split (64 : Nat) (Adv.pur (66 : Nat) (Value.bool true) Adv.nil) Adv.nil)))))))) (by kernel_rfl) (by kernel_rfl) (p := CallK Try.prog (nat_lit 15) [Value.agg (Array.mk (confL c))] (Value.bool (greatC c)) ∧
  (greatC c = true → CallK Try.prog (nat_lit 16) [] (Value.bool true) ∧ Value.bool true = Value.bool true) ∧
    (greatC c = false →
      CallK Try.prog (nat_lit 21) [Value.agg (Array.mk (confL c)), Value.int IntKind.i64 i]
          (Value.iface (nat_lit 1000000) (Value.tuple (Array.mk [Value.int IntKind.i64 (↑(List.length (labelsC c i)) : Int), Value.agg (Array.mk (intsL (labelsC c i)))]))) ∧
        (((↑(List.length (Conf.faces c)) : Int) = Prod.fst ((↑(List.length (Conf.faces c)) : Int) - (1 : Int), (-1 : Int)) + (1 : Int) ∧
              List.length (Conf.faces c) ≤ List.length (Conf.faces c) ∧ OwnAt c a (List.length (Conf.faces c)) (Prod.snd ((↑(List.length (Conf.faces c)) : Int) - (1 : Int), (-1 : Int)))) ∧
            (Value.int IntKind.i64 (IntKind.wrap IntKind.i64 ((↑(List.length (Conf.faces c)) : Int) - (1 : Int))) =
                  Value.int IntKind.i64 (Prod.fst ((↑(List.length (Conf.faces c)) : Int) - (1 : Int), (-1 : Int))) ∧
                Value.int IntKind.i64 (-1 : Int) = Value.int IntKind.i64 (-1 : Int)) ∧
              Heap.mk (nat_lit 1) (Trie.node (some (Blk.cells (confL c) (nat_lit 31) Mode.fix)) Trie.leaf Trie.leaf) =
                Heap.mk (nat_lit 1) (Trie.node (some (Blk.cells (confL c) (nat_lit 31) Mode.fix)) Trie.leaf Trie.leaf)) ∧
          ∀ (i22 : Nat) (s22 : Int × Int) (j22 : Nat → Value),
            (↑i22 : Int) = Prod.fst s22 + (1 : Int) ∧ i22 ≤ List.length (Conf.faces c) ∧ OwnAt c a i22 (Prod.snd s22) →
              (decide (Prod.fst s22 ≥ (0 : Int)) = true →
                  ((0 : Int) ≤ Prod.fst s22 ∧ Prod.fst s22 < (↑(List.length (Conf.faces c)) : Int)) ∧
                    Ask.holds Try.prog
                        (Ask.part (Array.toList (Array.mk (facesL (Conf.faces c)))) (Int.toNat (↑(Int.toNat (↑(Int.toNat (Prod.fst s22) * nat_lit 97) : Int) + nat_lit 0) : Int)) (nat_lit 1)
                          [Value.int IntKind.u32 (Face.addr (List.getD (Conf.faces c) (Int.toNat (Prod.fst s22)) default))]) ∧
                      ((Face.addr (List.getD (Conf.faces c) (Int.toNat (Prod.fst s22)) default) == a) = true →
                          ∃ (i22' : Nat),
                            ∃ (s22' : Int × Int),
                              i22' < i22 ∧
                                ((↑i22' : Int) = Prod.fst s22' + (1 : Int) ∧ i22' ≤ List.length (Conf.faces c) ∧ OwnAt c a i22' (Prod.snd s22')) ∧
                                  (Value.int IntKind.i64 (IntKind.wrap IntKind.i64 (Prod.fst s22 - (1 : Int))) = Value.int IntKind.i64 (Prod.fst s22') ∧
                                      Value.int IntKind.i64 (Prod.fst s22) = Value.int IntKind.i64 (Prod.snd s22')) ∧
                                    (some (Blk.cells (confL c) (nat_lit 31) Mode.fix) = some (Blk.cells (confL c) (nat_lit 31) Mode.fix) ∧ True) ∧ true = true ∧ true = true ∧ True) ∧
                        ((Face.addr (List.getD (Conf.faces c) (Int.toNat (Prod.fst s22)) default) == a) = false →
                          ∃ (i22' : Nat),
                            ∃ (s22' : Int × Int),
                              i22' < i22 ∧
                                ((↑i22' : Int) = Prod.fst s22' + (1 : Int) ∧ i22' ≤ List.length (Conf.faces c) ∧ OwnAt c a i22' (Prod.snd s22')) ∧
                                  (Value.int IntKind.i64 (IntKind.wrap IntKind.i64 (Prod.fst s22 - (1 : Int))) = Value.int IntKind.i64 (Prod.fst s22') ∧
                                      Value.int IntKind.i64 (Prod.snd s22) = Value.int IntKind.i64 (Prod.snd s22')) ∧
                                    (some (Blk.cells (confL c) (nat_lit 31) Mode.fix) = some (Blk.cells (confL c) (nat_lit 31) Mode.fix) ∧ True) ∧ true = true ∧ true = true ∧ True)) ∧
                (decide (Prod.fst s22 ≥ (0 : Int)) = false →
                  CallK Try.prog (nat_lit 22) [Value.agg (Array.mk (confL c)), Value.int IntKind.u32 a] (Value.int IntKind.i64 (ownB c a)) ∧
                    ((ownB c a != Prod.snd s22) = true → Value.bool false = Value.bool true) ∧
                      ((ownB c a != Prod.snd s22) = false →
                        CallK Try.prog (nat_lit 18) [Value.agg (Array.mk (confL c))]
                            (Value.tuple (Array.mk [Value.int IntKind.i64 (Prod.fst (checkR c)), Value.int IntKind.i64 (Prod.snd (checkR c))])) ∧
                          ((Prod.snd (checkR c) == (0 : Int)) = true →
                              (decide (i < (0 : Int)) = true →
                                  (((↑(List.length (labelsC c i)) : Int) == (0 : Int)) = true → CallK Try.prog (nat_lit 16) [] (Value.bool true) ∧ Value.bool true = Value.bool true) ∧
                                    (((↑(List.length (labelsC c i)) : Int) == (0 : Int)) = false → Value.bool false = Value.bool true)) ∧
                                (decide (i < (0 : Int)) = false →
                                  (decide (i ≥ (↑(List.length (Conf.faces c)) : Int)) = true →
                                      (((↑(List.length (labelsC c i)) : Int) == (0 : Int)) = true → CallK Try.prog (nat_lit 16) [] (Value.bool true) ∧ Value.bool true = Value.bool true) ∧
                                        (((↑(List.length (labelsC c i)) : Int) == (0 : Int)) = false → Value.bool false = Value.bool true)) ∧
                                    (decide (i ≥ (↑(List.length (Conf.faces c)) : Int)) = false →
                                      ((0 : Int) ≤ i ∧ i < (↑(List.length (Conf.faces c)) : Int)) ∧
                                        Ask.holds Try.prog
                                            (Ask.part (Array.toList (Array.mk (facesL (Conf.faces c)))) (Int.toNat (↑(Int.toNat (↑(Int.toNat i * nat_lit 97) : Int) + nat_lit 4) : Int)) (nat_lit 31)
                                              (lblL (Face.lo (List.getD (Conf.faces c) (Int.toNat i) default)))) ∧
                                          ((0 : Int) ≤ i ∧ i < (↑(List.length (Conf.faces c)) : Int)) ∧
                                            Ask.holds Try.prog
                                                (Ask.part (Array.toList (Array.mk (facesL (Conf.faces c)))) (Int.toNat (↑(Int.toNat (↑(Int.toNat i * nat_lit 97) : Int) + nat_lit 35) : Int))
                                                  (nat_lit 31) (lblL (Face.hi (List.getD (Conf.faces c) (Int.toNat i) default)))) ∧
                                              CallK Try.prog (nat_lit 25)
                                                  [Value.iface (nat_lit 1000000)
                                                      (Value.tuple (Array.mk [Value.int IntKind.i64 (↑(List.length (Conf.labels c)) : Int), Value.agg (Array.mk (lblsL (Conf.labels c)))])),
                                                    Value.agg (Array.mk (lblL (Face.lo (List.getD (Conf.faces c) (Int.toNat i) default)))),
                                                    Value.agg (Array.mk (lblL (Face.hi (List.getD (Conf.faces c) (Int.toNat i) default))))]
                                                  (Value.iface (nat_lit 1000000)
                                                    (Value.tuple
                                                      (Array.mk
                                                        [Value.int IntKind.i64
                                                            (↑(List.length
                                                                  (whB
                                                                    (fun (x : Lbl) =>
                                                                      inL x (Face.lo (List.getD (Conf.faces c) (Int.toNat i) default)) (Face.hi (List.getD (Conf.faces c) (Int.toNat i) default)))
                                                                    (Conf.labels c) (List.length (Conf.labels c)))) :
                                                              Int),
                                                          Value.agg
                                                            (Array.mk
                                                              (intsL
                                                                (whB
                                                                  (fun (x : Lbl) =>
                                                                    inL x (Face.lo (List.getD (Conf.faces c) (Int.toNat i) default)) (Face.hi (List.getD (Conf.faces c) (Int.toNat i) default)))
                                                                  (Conf.labels c) (List.length (Conf.labels c)))))]))) ∧
                                                CallK Try.prog (nat_lit 24)
                                                    [Value.iface (nat_lit 1000000)
                                                        (Value.tuple (Array.mk [Value.int IntKind.i64 (↑(List.length (labelsC c i)) : Int), Value.agg (Array.mk (intsL (labelsC c i)))])),
                                                      Value.iface (nat_lit 1000000)
                                                        (Value.tuple
                                                          (Array.mk
                                                            [Value.int IntKind.i64
                                                                (↑(List.length
                                                                      (whB
                                                                        (fun (x : Lbl) =>
                                                                          inL x (Face.lo (List.getD (Conf.faces c) (Int.toNat i) default)) (Face.hi (List.getD (Conf.faces c) (Int.toNat i) default)))
                                                                        (Conf.labels c) (List.length (Conf.labels c)))) :
                                                                  Int),
                                                              Value.agg
                                                                (Array.mk
                                                                  (intsL
                                                                    (whB
                                                                      (fun (x : Lbl) =>
                                                                        inL x (Face.lo (List.getD (Conf.faces c) (Int.toNat i) default)) (Face.hi (List.getD (Conf.faces c) (Int.toNat i) default)))
                                                                      (Conf.labels c) (List.length (Conf.labels c)))))]))]
                                                    (Value.bool true) ∧
                                                  (decide ((↑(List.length (labelsC c i)) : Int) > (0 : Int)) = true →
                                                      CallK Try.prog (nat_lit 16) [] (Value.bool true) ∧ Value.bool true = Value.bool true) ∧
                                                    (decide ((↑(List.length (labelsC c i)) : Int) > (0 : Int)) = false → Value.bool false = Value.bool true)))) ∧
                            ((Prod.snd (checkR c) == (0 : Int)) = false →
                              (((↑(List.length (labelsC c i)) : Int) == (0 : Int)) = true → CallK Try.prog (nat_lit 16) [] (Value.bool true) ∧ Value.bool true = Value.bool true) ∧
                                (((↑(List.length (labelsC c i)) : Int) == (0 : Int)) = false → Value.bool false = Value.bool true)))))) (by kernel_rfl) (by
    have none : ∀ {h : (rightC c && (decide (0 ≤ i) && decide (i < c.faces.length))) = false}, (((labelsC c i).length : Int) == 0) = true := fun {h} => by rw [labelsC_f h]; rfl
    have out : (rightC c && (decide (0 ≤ i) && decide (i < c.faces.length))) = false → ((((labelsC c i).length : Int) == 0) = true → CallK Try.prog 16 [] (.bool true) ∧ Value.bool true = Value.bool true) ∧ ((((labelsC c i).length : Int) == 0) = false → Value.bool false = Value.bool true) := fun h =>
      ⟨fun _ => ⟨awake17_w, rfl⟩, fun h2 => by rw [none (h := h)] at h2; cases h2⟩
    refine ⟨great_w _, fun _ => ⟨awake17_w, rfl⟩, fun g => ?_⟩
    have hok := hw.ok g
    have hl := great_len g
    refine ⟨labels_w c i hok hl, ⟨⟨by omega, Nat.le_refl _, .inl ⟨rfl, fun j h1 h2 => by omega⟩⟩, ⟨congrArg _ (wrap_in (by have := hok.len.faces; omega) (by have := hok.len.faces; omega)), rfl⟩, rfl⟩, fun n s j ⟨q1, q2, q3⟩ => ⟨fun h1 => ?_, fun h1 => ?_⟩⟩
    · have h1' := of_decide_eq_true h1
      have hlen := hok.len.faces
      have e : n = s.1.toNat + 1 := by omega
      refine ⟨⟨by omega, by omega⟩, faces_part (by omega) 0 1 (by omega) rfl rfl, fun h2 => ?_, fun h2 => ?_⟩
      · exact ⟨n - 1, (s.1 - 1, s.1), by omega, ⟨by show _ = s.1 - 1 + 1; omega, by omega, by rw [show n - 1 = s.1.toNat by omega, show (s.1 - 1, s.1).2 = ((s.1.toNat : Nat) : Int) by show s.1 = _; omega]; exact OwnAt.yes (by omega) h2⟩, ⟨congrArg _ (wrap_in (by omega) (by omega)), rfl⟩, ⟨rfl, trivial⟩, rfl, ⟨rfl, trivial⟩⟩
      · exact ⟨n - 1, (s.1 - 1, s.2), by omega, ⟨by show _ = s.1 - 1 + 1; omega, by omega, by rw [show n - 1 = s.1.toNat by omega]; exact OwnAt.no (e ▸ q3) h2⟩, ⟨congrArg _ (wrap_in (by omega) (by omega)), rfl⟩, ⟨rfl, trivial⟩, rfl, ⟨rfl, trivial⟩⟩
    · have h1' := of_decide_eq_false h1
      obtain rfl : n = 0 := by omega
      have hown := OwnAt.end q3
      refine ⟨owns_w c a hok.len.faces, fun h2 => by rw [hown] at h2; simp at h2, fun _ => ⟨ref17_w _ hok, fun h3 => ⟨fun h4 => out ?_, fun h4 => ⟨fun h5 => out ?_, fun h5 => ?_⟩⟩, fun h3 => out ?_⟩⟩
      · have := of_decide_eq_true h4
        rw [decide_eq_false (by omega : ¬ 0 ≤ i), Bool.false_and, Bool.and_false]
      · have := of_decide_eq_true h5
        rw [decide_eq_false (by omega : ¬ i < c.faces.length), Bool.and_false, Bool.and_false]
      · have h4' := of_decide_eq_false h4
        have h5' := of_decide_eq_false h5
        have hi : i.toNat < c.faces.length := by omega
        have hf := hw.faces _ (getD_mem (d := default) hi)
        have hr : rightC c = true := h3
        have hlc := labelsC_t hr (show 0 ≤ i by omega) (show i < c.faces.length by omega)
        refine ⟨⟨by omega, by omega⟩, faces_part hi 4 31 (by omega) rfl rfl, ⟨by omega, by omega⟩, faces_part hi 35 31 (by omega) rfl rfl, refWithinL_w _ _ _ hl hw.labels hf.1 hf.2.1, ints2_w _ _ ?_ hlc.symm, fun _ => ⟨awake17_w, rfl⟩, fun h6 => ?_⟩
        · rw [hlc]; exact Nat.le_trans (whB_len _ _ _) hl
        · have := labels_some hw hr (show 0 ≤ i by omega) (show i < c.faces.length by omega)
          have := of_decide_eq_false h6
          omega
      · rw [show rightC c = false from h3]; rfl)
end Go.Proofs.Ytepijhnfeafmaaa

end
section
/- What the functions of plans answer. -/
set_option linter.unusedVariables false
set_option linter.unusedSimpArgs false
set_option maxRecDepth 100000
namespace Go.Proofs.Ytepijhnfeafmaaa
open Go Go.Ideal
def planL (l : List Nat) (q : Int) : List Value := [intsV l, .int .i64 q]
def planV (l : List Nat) (q : Int) : Value := vpt 0 (planL l q).toArray
/-- A label's place in a cycle; -1: it isn't there. -/
def placeI (l : List Nat) (x : Int) : Int := idxB l fun n : Nat => x == (n : Int)
theorem planNew_t (c : Conf) (i : Int) (hw : ConfOK c) (hl : c.labels.length ≤ 1000) (h : (((labelsC c i).length : Int) == 0) = true) : CallK Try.prog 28 [confV c, .int .i64 i] (.tuple (Array.mk [.pointer none, .int .i64 1])) :=
  CallK.via progOK (pfs []) [] 100 (Adv.pur (7 : Nat) (Value.iface (nat_lit 1000000) (Value.tuple (Array.mk [Value.int IntKind.i64 (↑(List.length (labelsC c i)) : Int), Value.agg (Array.mk (intsL (labelsC c i)))])))
  (Adv.split (13 : Nat) Adv.nil Adv.nil)) (by kernel_rfl) (by kernel_rfl) (p := CallK Try.prog (nat_lit 21) [Value.agg (Array.mk (confL c)), Value.int IntKind.i64 i]
    (Value.iface (nat_lit 1000000) (Value.tuple (Array.mk [Value.int IntKind.i64 (↑(List.length (labelsC c i)) : Int), Value.agg (Array.mk (intsL (labelsC c i)))]))) ∧
  (((↑(List.length (labelsC c i)) : Int) == (0 : Int)) = true →
      Value.tuple (Array.mk [Value.pointer none, Value.int IntKind.i64 (1 : Int)]) = Value.tuple (Array.mk [Value.pointer none, Value.int IntKind.i64 (1 : Int)])) ∧
    (((↑(List.length (labelsC c i)) : Int) == (0 : Int)) = false →
      Value.tuple (Array.mk [Value.pointer (some (Addr.mk (nat_lit 1) (nat_lit 0) none)), Value.int IntKind.i64 (0 : Int)]) =
        Value.tuple (Array.mk [Value.pointer none, Value.int IntKind.i64 (1 : Int)]))) (by kernel_rfl) (by
    exact ⟨labels_w c i hw hl, fun _ => rfl, fun h2 => by rw [h] at h2; cases h2⟩)
theorem planNew_f (c : Conf) (i : Int) (hw : ConfOK c) (hl : c.labels.length ≤ 1000) (h : (((labelsC c i).length : Int) == 0) = false) : CallK Try.prog 28 [confV c, .int .i64 i] (.tuple (Array.mk [planV (labelsC c i) c.quotas.queue, .int .i64 0])) :=
  CallK.frz progOK (pfs []) [] 100 (Adv.pur (7 : Nat) (Value.iface (nat_lit 1000000) (Value.tuple (Array.mk [Value.int IntKind.i64 (↑(List.length (labelsC c i)) : Int), Value.agg (Array.mk (intsL (labelsC c i)))])))
  (Adv.split (13 : Nat) Adv.nil Adv.nil)) (by kernel_rfl) (by kernel_rfl) (p := CallK Try.prog (nat_lit 21) [Value.agg (Array.mk (confL c)), Value.int IntKind.i64 i]
    (Value.iface (nat_lit 1000000) (Value.tuple (Array.mk [Value.int IntKind.i64 (↑(List.length (labelsC c i)) : Int), Value.agg (Array.mk (intsL (labelsC c i)))]))) ∧
  (((↑(List.length (labelsC c i)) : Int) == (0 : Int)) = true →
      True ∧
        Value.tuple (Array.mk [Value.pointer none, Value.int IntKind.i64 (1 : Int)]) = Value.tuple (Array.mk [planV (labelsC c i) (Quot.queue (Conf.quotas c)), Value.int IntKind.i64 (0 : Int)])) ∧
    (((↑(List.length (labelsC c i)) : Int) == (0 : Int)) = false →
      True ∧
        Value.tuple
            (Array.mk
              [Value.iface (nat_lit 1000001)
                  (Value.tuple
                    (Array.mk
                      [Value.int IntKind.i64 (0 : Int),
                        Value.agg
                          (Array.mk
                            [Value.iface (nat_lit 1000000) (Value.tuple (Array.mk [Value.int IntKind.i64 (↑(List.length (labelsC c i)) : Int), Value.agg (Array.mk (intsL (labelsC c i)))])),
                              Value.int IntKind.i64 (Quot.queue (Conf.quotas c))])])),
                Value.int IntKind.i64 (0 : Int)]) =
          Value.tuple (Array.mk [planV (labelsC c i) (Quot.queue (Conf.quotas c)), Value.int IntKind.i64 (0 : Int)]))) (by kernel_rfl) (by
    exact ⟨labels_w c i hw hl, fun h2 => (by rw [h] at h2; cases h2), fun _ => ⟨trivial, rfl⟩⟩)
theorem planLen_w (l : List Nat) (q : Int) : CallK Try.prog 29 [planV l q] (.int .i64 l.length) :=
  CallK.via progOK (pfs []) [] 100 (Adv.nil) (by kernel_rfl) (by kernel_rfl) (p := Value.int IntKind.i64 (↑(List.length l) : Int) = Value.int IntKind.i64 (↑(List.length l) : Int)) (by kernel_rfl) (by
    rfl)
theorem idxInt_w (l : List Nat) (x : Int) (hl : l.length ≤ 1000) : CallK Try.prog 126 [intsV l, .int .i64 x] (.int .i64 (placeI l x)) :=
  CallK.via progOK (pfs []) [] 100 (Adv.loop (7 : Nat) (fun (k : Nat) => [((8 : Nat), Value.int IntKind.i64 (↑k : Int))]) ((fun (h : Heap) (x : Nat) => h) (Heap.mk (nat_lit 0) Trie.leaf))
  (fun (i k : Nat) => i + k = List.length l ∧ ∀ (j : Nat), j < k → (x == (↑(List.getD l j (0 : Nat)) : Int)) = false) (List.length l) (0 : Nat) fun (i7 s7 : Nat) (j7 : Nat → Value) =>
  Adv.split (9 : Nat) (Adv.chk (20 : Nat) none (Adv.chk (21 : Nat) (some (Value.int IntKind.i64 (↑(List.getD l s7 (0 : Nat)) : Int))) (Adv.split (22 : Nat) Adv.nil Adv.nil))) Adv.nil) (by kernel_rfl) (by kernel_rfl) (p := ((List.length l + (0 : Nat) = List.length l ∧ ∀ (j : Nat), j < (0 : Nat) → (x == (↑(List.getD l j (0 : Nat)) : Int)) = false) ∧
    Value.int IntKind.i64 (0 : Int) = Value.int IntKind.i64 (0 : Int) ∧ Heap.mk (nat_lit 0) Trie.leaf = Heap.mk (nat_lit 0) Trie.leaf) ∧
  ∀ (i7 s7 : Nat) (j7 : Nat → Value),
    (i7 + s7 = List.length l ∧ ∀ (j : Nat), j < s7 → (x == (↑(List.getD l j (0 : Nat)) : Int)) = false) →
      (decide ((↑s7 : Int) < (↑(List.length l) : Int)) = true →
          ((0 : Int) ≤ (↑s7 : Int) ∧ (↑s7 : Int) < (↑(List.length l) : Int)) ∧
            Ask.holds Try.prog
                (Ask.part (Array.toList (Array.mk (intsL l))) (Int.toNat (↑(Int.toNat (↑s7 : Int) * nat_lit 1) : Int)) (nat_lit 1) [Value.int IntKind.i64 (↑(List.getD l s7 (0 : Nat)) : Int)]) ∧
              ((x == (↑(List.getD l s7 (0 : Nat)) : Int)) = true → Value.int IntKind.i64 (↑s7 : Int) = Value.int IntKind.i64 (placeI l x)) ∧
                ((x == (↑(List.getD l s7 (0 : Nat)) : Int)) = false →
                  ∃ (i7' : Nat),
                    ∃ (s7' : Nat),
                      i7' < i7 ∧
                        (i7' + s7' = List.length l ∧ ∀ (j : Nat), j < s7' → (x == (↑(List.getD l j (0 : Nat)) : Int)) = false) ∧
                          Value.int IntKind.i64 (IntKind.wrap IntKind.i64 ((↑s7 : Int) + (1 : Int))) = Value.int IntKind.i64 (↑s7' : Int) ∧ True ∧ true = true ∧ True)) ∧
        (decide ((↑s7 : Int) < (↑(List.length l) : Int)) = false → Value.int IntKind.i64 (-1 : Int) = Value.int IntKind.i64 (placeI l x))) (by kernel_rfl) (by
    refine ⟨⟨⟨by omega, fun j hj => by omega⟩, rfl, rfl⟩, fun i k j ⟨q1, q2⟩ => ⟨fun h1 => ?_, fun h1 => ?_⟩⟩
    · have hk : k < l.length := by have := of_decide_eq_true h1; omega
      exact ⟨⟨by omega, by omega⟩, ints_part hk rfl, fun h2 => congrArg (Value.int .i64) (idxB_some (d := 0) hk h2 q2).symm, fun h2 => ⟨i - 1, k + 1, by omega, ⟨by omega, lt_next q2 h2⟩, wrap_next k (by omega), trivial, rfl, trivial⟩⟩
    · have hk : k = l.length := by have := of_decide_eq_false h1; omega
      subst hk
      exact congrArg (Value.int .i64) (idxB_none (d := 0) q2).symm)
theorem place_w (l : List Nat) (x : Int) (hl : l.length ≤ 1000) : CallK Try.prog 119 [.agg (Array.mk [intsV l]), .int .i64 x] (.int .i64 (placeI l x)) :=
  CallK.via progOK (pfs []) [] 100 (Adv.pur (7 : Nat) (Value.int IntKind.i64 (placeI l x)) Adv.nil) (by kernel_rfl) (by kernel_rfl) (p := CallK Try.prog (nat_lit 126) [Value.iface (nat_lit 1000000) (Value.tuple (Array.mk [Value.int IntKind.i64 (↑(List.length l) : Int), Value.agg (Array.mk (intsL l))])), Value.int IntKind.i64 x]
    (Value.int IntKind.i64 (placeI l x)) ∧
  Value.int IntKind.i64 (placeI l x) = Value.int IntKind.i64 (placeI l x)) (by kernel_rfl) (by
    exact ⟨idxInt_w l x hl, rfl⟩)
def askedB (l : List Nat) (slot x place : Int) : Bool := decide (0 ≤ slot) && decide (0 ≤ place) && decide (place ≤ 1000000) && decide (0 ≤ placeI l x)
def askK (l : List Nat) (slot x place : Int) : Int := if slot < 0 ∨ place < 0 ∨ 1000000 < place then 0 else placeI l x
theorem asked_w (l : List Nat) (q slot x place : Int) (hl : l.length ≤ 1000) : CallK Try.prog 78 [planV l q, .int .i64 slot, .int .i64 x, .int .i64 place] (.tuple (Array.mk [.int .i64 (askK l slot x place), .bool (askedB l slot x place)])) :=
  CallK.via progOK (pfs []) [] 100 (Adv.split (9 : Nat) Adv.nil (Adv.split (13 : Nat) Adv.nil (Adv.split (17 : Nat) Adv.nil (Adv.pur (26 : Nat) (Value.int IntKind.i64 (placeI l x)) (Adv.split (31 : Nat) Adv.nil Adv.nil))))) (by kernel_rfl) (by kernel_rfl) (p := (decide (slot < (0 : Int)) = true →
    Value.tuple (Array.mk [Value.int IntKind.i64 (0 : Int), Value.bool false]) = Value.tuple (Array.mk [Value.int IntKind.i64 (askK l slot x place), Value.bool (askedB l slot x place)])) ∧
  (decide (slot < (0 : Int)) = false →
    (decide (place < (0 : Int)) = true →
        Value.tuple (Array.mk [Value.int IntKind.i64 (0 : Int), Value.bool false]) = Value.tuple (Array.mk [Value.int IntKind.i64 (askK l slot x place), Value.bool (askedB l slot x place)])) ∧
      (decide (place < (0 : Int)) = false →
        (decide (place > (1000000 : Int)) = true →
            Value.tuple (Array.mk [Value.int IntKind.i64 (0 : Int), Value.bool false]) = Value.tuple (Array.mk [Value.int IntKind.i64 (askK l slot x place), Value.bool (askedB l slot x place)])) ∧
          (decide (place > (1000000 : Int)) = false →
            CallK Try.prog (nat_lit 119)
                [Value.agg (Array.mk [Value.iface (nat_lit 1000000) (Value.tuple (Array.mk [Value.int IntKind.i64 (↑(List.length l) : Int), Value.agg (Array.mk (intsL l))]))]),
                  Value.int IntKind.i64 x]
                (Value.int IntKind.i64 (placeI l x)) ∧
              (decide (placeI l x ≥ (0 : Int)) = true →
                  Value.tuple (Array.mk [Value.int IntKind.i64 (placeI l x), Value.bool true]) =
                    Value.tuple (Array.mk [Value.int IntKind.i64 (askK l slot x place), Value.bool (askedB l slot x place)])) ∧
                (decide (placeI l x ≥ (0 : Int)) = false →
                  Value.tuple (Array.mk [Value.int IntKind.i64 (placeI l x), Value.bool false]) =
                    Value.tuple (Array.mk [Value.int IntKind.i64 (askK l slot x place), Value.bool (askedB l slot x place)])))))) (by kernel_rfl) (by
    simp only [Value.tuple.injEq, Array.mk.injEq, List.cons.injEq, Value.int.injEq, Value.bool.injEq, and_true, true_and]
    repeat' (first | exact place_w _ _ hl | rfl | apply And.intro | intro)
    all_goals grind [askK, askedB])
/-- How far it is from a place to another one, in a cycle. -/
def gapI (n k at_ : Int) : Int := if at_ ≤ k then k - at_ else k - at_ + n
theorem gap_tmod {n k m : Int} (h0 : 0 ≤ k) (h1 : k < n) (h2 : 0 ≤ m) (h3 : m < n) : (k - m + n).tmod n = gapI n k m := by
  rw [Int.tmod_eq_emod_of_nonneg (by omega)]
  unfold gapI
  split
  · rw [Int.add_emod_right, Int.emod_eq_of_lt (by omega) (by omega)]
  · rw [Int.emod_eq_of_lt (by omega) (by omega)]
theorem tmod_range {n s : Int} (h0 : 0 ≤ s) (hn : 0 < n) : 0 ≤ s.tmod n ∧ s.tmod n < n := by
  rw [Int.tmod_eq_emod_of_nonneg h0]
  exact ⟨Int.emod_nonneg _ (by omega), Int.emod_lt_of_pos _ hn⟩
theorem place_lt {l : List Nat} {x : Int} (h : 0 ≤ placeI l x) : placeI l x < l.length := by
  rcases idxB_cases l (fun n : Nat => x == (n : Int)) 0 with ⟨k, hk, e, _⟩ | ⟨e, _⟩
  · unfold placeI; rw [e]; omega
  · unfold placeI at h; rw [e] at h; omega
/-- A frame's wait. -/
def waitI (n k at_ place : Int) : Int := gapI n k at_ + place * n + 1
def waitW (l : List Nat) (slot x place : Int) : Int := if askedB l slot x place = true then waitI l.length (placeI l x) (slot.tmod l.length) place else 0
theorem asked_all {l : List Nat} {slot x place : Int} (h : askedB l slot x place = true) : 0 ≤ slot ∧ 0 ≤ place ∧ place ≤ 1000000 ∧ 0 ≤ placeI l x := by
  simp only [askedB, Bool.and_eq_true, decide_eq_true_eq] at h; omega
theorem wait_w (l : List Nat) (q slot x place : Int) (h0 : 0 < l.length) (hl : l.length ≤ 1000) : CallK Try.prog 30 [planV l q, .int .i64 slot, .int .i64 x, .int .i64 place] (.tuple (Array.mk [.int .i64 (waitW l slot x place), .bool (askedB l slot x place)])) :=
  CallK.via progOK (pfs []) [] 100 (Adv.pur (8 : Nat) (Value.tuple (Array.mk [Value.int IntKind.i64 (askK l slot x place), Value.bool (askedB l slot x place)]))
  (Adv.split (11 : Nat) (Adv.chk (31 : Nat) none (Adv.chk (36 : Nat) none Adv.nil)) Adv.nil)) (by kernel_rfl) (by kernel_rfl) (p := CallK Try.prog (nat_lit 78)
    [Value.iface (nat_lit 1000001)
        (Value.tuple
          (Array.mk
            [Value.int IntKind.i64 (0 : Int),
              Value.agg
                (Array.mk [Value.iface (nat_lit 1000000) (Value.tuple (Array.mk [Value.int IntKind.i64 (↑(List.length l) : Int), Value.agg (Array.mk (intsL l))])), Value.int IntKind.i64 q])])),
      Value.int IntKind.i64 slot, Value.int IntKind.i64 x, Value.int IntKind.i64 place]
    (Value.tuple (Array.mk [Value.int IntKind.i64 (askK l slot x place), Value.bool (askedB l slot x place)])) ∧
  (askedB l slot x place = true →
      (↑(List.length l) : Int) ≠ (0 : Int) ∧
        (↑(List.length l) : Int) ≠ (0 : Int) ∧
          Value.tuple
              (Array.mk
                [Value.int IntKind.i64
                    (IntKind.wrap IntKind.i64
                      (IntKind.wrap IntKind.i64
                          (Int.tmod (IntKind.wrap IntKind.i64 (IntKind.wrap IntKind.i64 (askK l slot x place - Int.tmod slot (↑(List.length l) : Int)) + (↑(List.length l) : Int)))
                              (↑(List.length l) : Int) +
                            IntKind.wrap IntKind.i64 (place * (↑(List.length l) : Int))) +
                        (1 : Int))),
                  Value.bool true]) =
            Value.tuple (Array.mk [Value.int IntKind.i64 (waitW l slot x place), Value.bool (askedB l slot x place)])) ∧
    (askedB l slot x place = false →
      Value.tuple (Array.mk [Value.int IntKind.i64 (0 : Int), Value.bool false]) = Value.tuple (Array.mk [Value.int IntKind.i64 (waitW l slot x place), Value.bool (askedB l slot x place)]))) (by kernel_rfl) (by
    refine ⟨asked_w _ _ _ _ _ hl, fun h => ⟨by omega, by omega, ?_⟩, fun h => ?_⟩
    · obtain ⟨a1, a2, a3, a4⟩ := asked_all h
      have hp := place_lt a4
      obtain ⟨m1, m2⟩ := tmod_range (n := (l.length : Int)) a1 (by omega)
      have e : askK l slot x place = placeI l x := by unfold askK; rw [if_neg (by omega)]
      have b1 : place * (l.length : Int) ≤ 1099511627776 := mul_room 1000000 1000 a3 (by omega) (by omega) (by decide) (by decide)
      have b0 : 0 ≤ place * (l.length : Int) := Int.mul_nonneg a2 (by omega)
      have g : 0 ≤ gapI l.length (placeI l x) (slot.tmod l.length) ∧ gapI l.length (placeI l x) (slot.tmod l.length) < l.length := by unfold gapI; split <;> omega
      rw [e, wrap_in (n := placeI l x - _) (by omega) (by omega), wrap_in (n := placeI l x - _ + _) (by omega) (by omega), gap_tmod a4 hp m1 m2, wrap_in (n := place * _) (by omega) (by omega), wrap_in (n := gapI _ _ _ + _) (by omega) (by omega), wrap_in (by omega) (by omega), h]
      unfold waitW; rw [if_pos h]; rfl
    · rw [h]; unfold waitW; rw [if_neg (by rw [h]; decide)])
theorem whose_w (l : List Nat) (q slot : Int) (h0 : 0 < l.length) (hl : l.length ≤ 1000) : CallK Try.prog 32 [planV l q, .int .i64 slot] (.int .i64 (if slot < 0 then -1 else (l.getD (slot.tmod l.length).toNat 0 : Nat))) :=
  CallK.via progOK (pfs []) [] 100 (Adv.split (8 : Nat) Adv.nil
  (Adv.chk (24 : Nat) none (Adv.chk (25 : Nat) none (Adv.chk (26 : Nat) (some (Value.int IntKind.i64 (↑(List.getD l (Int.toNat (Int.tmod slot (↑(List.length l) : Int))) (0 : Nat)) : Int))) Adv.nil)))) (by kernel_rfl) (by kernel_rfl) (p := (decide (slot < (0 : Int)) = true →
    Value.int IntKind.i64 (-1 : Int) = Value.int IntKind.i64 (if slot < (0 : Int) then (-1 : Int) else (↑(List.getD l (Int.toNat (Int.tmod slot (↑(List.length l) : Int))) (0 : Nat)) : Int))) ∧
  (decide (slot < (0 : Int)) = false →
    (↑(List.length l) : Int) ≠ (0 : Int) ∧
      ((0 : Int) ≤ Int.tmod slot (↑(List.length l) : Int) ∧ Int.tmod slot (↑(List.length l) : Int) < (↑(List.length l) : Int)) ∧
        Ask.holds Try.prog
            (Ask.part (Array.toList (Array.mk (intsL l))) (Int.toNat (↑(Int.toNat (Int.tmod slot (↑(List.length l) : Int)) * nat_lit 1) : Int)) (nat_lit 1)
              [Value.int IntKind.i64 (↑(List.getD l (Int.toNat (Int.tmod slot (↑(List.length l) : Int))) (0 : Nat)) : Int)]) ∧
          Value.int IntKind.i64 (↑(List.getD l (Int.toNat (Int.tmod slot (↑(List.length l) : Int))) (0 : Nat)) : Int) =
            Value.int IntKind.i64 (if slot < (0 : Int) then (-1 : Int) else (↑(List.getD l (Int.toNat (Int.tmod slot (↑(List.length l) : Int))) (0 : Nat)) : Int)))) (by kernel_rfl) (by
    refine ⟨fun h => (by rw [if_pos (of_decide_eq_true h)]), fun h => ?_⟩
    have h1 := of_decide_eq_false h
    obtain ⟨m1, m2⟩ := tmod_range (n := (l.length : Int)) (s := slot) (by omega) (by omega)
    exact ⟨by omega, ⟨m1, m2⟩, ints_part (by omega) rfl, by rw [if_neg h1]⟩)
theorem asked_slot {l : List Nat} {s x place : Int} (hs : 0 ≤ s) : askedB l s x place = askedB l 0 x place := by
  unfold askedB; rw [decide_eq_true hs, decide_eq_true (Int.le_refl 0)]
theorem wait_slot {l : List Nat} {x place : Int} {j : Nat} (hj : j < l.length) (h : askedB l 0 x place = true) : waitW l j x place = gapI l.length (placeI l x) j + place * l.length + 1 := by
  unfold waitW; rw [if_pos (by rw [asked_slot (by omega)]; exact h), Int.tmod_eq_of_lt (by omega) (by omega)]; rfl
theorem wait_le {l : List Nat} {x place : Int} {j : Nat} (hj : j < l.length) (h : askedB l 0 x place = true) : waitW l j x place ≤ (place + 1) * l.length := by
  obtain ⟨a1, a2, a3, a4⟩ := asked_all h
  have hp := place_lt a4
  rw [wait_slot hj h, Int.add_mul]
  have : gapI l.length (placeI l x) j < l.length := by unfold gapI; split <;> omega
  omega
theorem wait_most {l : List Nat} {x place : Int} (h : askedB l 0 x place = true) : ∃ j : Nat, j < l.length ∧ waitW l j x place = (place + 1) * l.length := by
  obtain ⟨a1, a2, a3, a4⟩ := asked_all h
  have hp := place_lt a4
  by_cases hk : placeI l x + 1 < l.length
  · refine ⟨(placeI l x + 1).toNat, by omega, ?_⟩
    rw [wait_slot (by omega) h, Int.add_mul]
    have : gapI l.length (placeI l x) ((placeI l x + 1).toNat : Nat) = l.length - 1 := by unfold gapI; rw [if_neg (by omega)]; omega
    omega
  · refine ⟨0, by omega, ?_⟩
    rw [wait_slot (by omega) h, Int.add_mul]
    have : gapI l.length (placeI l x) ((0 : Nat) : Int) = l.length - 1 := by unfold gapI; rw [if_pos (by omega)]; omega
    omega
theorem worst_w (l : List Nat) (q x place : Int) (h0 : 0 < l.length) (hl : l.length ≤ 1000) : CallK Try.prog 31 [planV l q, .int .i64 x, .int .i64 place] (.tuple (Array.mk [.int .i64 (if askedB l 0 x place = true then (place + 1) * l.length else 0), .bool (askedB l 0 x place)])) :=
  CallK.via progOK (pfs []) [] 100 (Adv.pur (8 : Nat) (Value.int IntKind.i64 (↑(List.length l) : Int))
  (Adv.loop (10 : Nat) (fun (s : Nat × Int) => [((14 : Nat), Value.int IntKind.i64 (↑(Prod.fst s) : Int)), ((8 : Nat), Value.int IntKind.i64 (Prod.snd s))])
    ((fun (h : Heap) (x : Nat × Int) => h) (Heap.mk (nat_lit 0) Trie.leaf))
    (fun (i : Nat) (s : Nat × Int) =>
      i + Prod.fst s = List.length l ∧
        (Prod.fst s = (0 : Nat) → Prod.snd s = (0 : Int)) ∧
          (Prod.fst s ≠ (0 : Nat) → askedB l (0 : Int) x place = true) ∧
            (∀ (j : Nat), j < Prod.fst s → waitW l (↑j : Int) x place ≤ Prod.snd s) ∧ (Prod.snd s = (0 : Int) ∨ ∃ (j : Nat), j < Prod.fst s ∧ Prod.snd s = waitW l (↑j : Int) x place))
    (List.length l) ((0 : Nat), (0 : Int)) fun (i10 : Nat) (s10 : Nat × Int) (j10 : Nat → Value) =>
    Adv.split (12 : Nat)
      (Adv.pur (24 : Nat) (Value.tuple (Array.mk [Value.int IntKind.i64 (waitW l (↑(Prod.fst s10) : Int) x place), Value.bool (askedB l (↑(Prod.fst s10) : Int) x place)]))
        (Adv.split (27 : Nat) Adv.nil Adv.nil))
      Adv.nil)) (by kernel_rfl) (by kernel_rfl) (p := CallK Try.prog (nat_lit 29)
    [Value.iface (nat_lit 1000001)
        (Value.tuple
          (Array.mk
            [Value.int IntKind.i64 (0 : Int),
              Value.agg
                (Array.mk [Value.iface (nat_lit 1000000) (Value.tuple (Array.mk [Value.int IntKind.i64 (↑(List.length l) : Int), Value.agg (Array.mk (intsL l))])), Value.int IntKind.i64 q])]))]
    (Value.int IntKind.i64 (↑(List.length l) : Int)) ∧
  ((List.length l + Prod.fst ((0 : Nat), (0 : Int)) = List.length l ∧
        (Prod.fst ((0 : Nat), (0 : Int)) = (0 : Nat) → Prod.snd ((0 : Nat), (0 : Int)) = (0 : Int)) ∧
          (Prod.fst ((0 : Nat), (0 : Int)) ≠ (0 : Nat) → askedB l (0 : Int) x place = true) ∧
            (∀ (j : Nat), j < Prod.fst ((0 : Nat), (0 : Int)) → waitW l (↑j : Int) x place ≤ Prod.snd ((0 : Nat), (0 : Int))) ∧
              (Prod.snd ((0 : Nat), (0 : Int)) = (0 : Int) ∨ ∃ (j : Nat), j < Prod.fst ((0 : Nat), (0 : Int)) ∧ Prod.snd ((0 : Nat), (0 : Int)) = waitW l (↑j : Int) x place)) ∧
      (Value.int IntKind.i64 (0 : Int) = Value.int IntKind.i64 (0 : Int) ∧ Value.int IntKind.i64 (0 : Int) = Value.int IntKind.i64 (0 : Int)) ∧
        Heap.mk (nat_lit 0) Trie.leaf = Heap.mk (nat_lit 0) Trie.leaf) ∧
    ∀ (i10 : Nat) (s10 : Nat × Int) (j10 : Nat → Value),
      i10 + Prod.fst s10 = List.length l ∧
          (Prod.fst s10 = (0 : Nat) → Prod.snd s10 = (0 : Int)) ∧
            (Prod.fst s10 ≠ (0 : Nat) → askedB l (0 : Int) x place = true) ∧
              (∀ (j : Nat), j < Prod.fst s10 → waitW l (↑j : Int) x place ≤ Prod.snd s10) ∧ (Prod.snd s10 = (0 : Int) ∨ ∃ (j : Nat), j < Prod.fst s10 ∧ Prod.snd s10 = waitW l (↑j : Int) x place) →
        (decide ((↑(Prod.fst s10) : Int) < (↑(List.length l) : Int)) = true →
            CallK Try.prog (nat_lit 30)
                [Value.iface (nat_lit 1000001)
                    (Value.tuple
                      (Array.mk
                        [Value.int IntKind.i64 (0 : Int),
                          Value.agg
                            (Array.mk
                              [Value.iface (nat_lit 1000000) (Value.tuple (Array.mk [Value.int IntKind.i64 (↑(List.length l) : Int), Value.agg (Array.mk (intsL l))])), Value.int IntKind.i64 q])])),
                  Value.int IntKind.i64 (↑(Prod.fst s10) : Int), Value.int IntKind.i64 x, Value.int IntKind.i64 place]
                (Value.tuple (Array.mk [Value.int IntKind.i64 (waitW l (↑(Prod.fst s10) : Int) x place), Value.bool (askedB l (↑(Prod.fst s10) : Int) x place)])) ∧
              (askedB l (↑(Prod.fst s10) : Int) x place = true →
                  ∃ (i10' : Nat),
                    ∃ (s10' : Nat × Int),
                      i10' < i10 ∧
                        (i10' + Prod.fst s10' = List.length l ∧
                            (Prod.fst s10' = (0 : Nat) → Prod.snd s10' = (0 : Int)) ∧
                              (Prod.fst s10' ≠ (0 : Nat) → askedB l (0 : Int) x place = true) ∧
                                (∀ (j : Nat), j < Prod.fst s10' → waitW l (↑j : Int) x place ≤ Prod.snd s10') ∧
                                  (Prod.snd s10' = (0 : Int) ∨ ∃ (j : Nat), j < Prod.fst s10' ∧ Prod.snd s10' = waitW l (↑j : Int) x place)) ∧
                          (Value.int IntKind.i64 (IntKind.wrap IntKind.i64 ((↑(Prod.fst s10) : Int) + (1 : Int))) = Value.int IntKind.i64 (↑(Prod.fst s10') : Int) ∧
                              Value.int IntKind.i64 (if waitW l (↑(Prod.fst s10) : Int) x place > Prod.snd s10 then waitW l (↑(Prod.fst s10) : Int) x place else Prod.snd s10) =
                                Value.int IntKind.i64 (Prod.snd s10')) ∧
                            True ∧ true = true ∧ True) ∧
                (askedB l (↑(Prod.fst s10) : Int) x place = false →
                  Value.tuple (Array.mk [Value.int IntKind.i64 (0 : Int), Value.bool false]) =
                    Value.tuple
                      (Array.mk
                        [Value.int IntKind.i64 (if askedB l (0 : Int) x place = true then (place + (1 : Int)) * (↑(List.length l) : Int) else (0 : Int)), Value.bool (askedB l (0 : Int) x place)]))) ∧
          (decide ((↑(Prod.fst s10) : Int) < (↑(List.length l) : Int)) = false →
            Value.tuple (Array.mk [Value.int IntKind.i64 (Prod.snd s10), Value.bool true]) =
              Value.tuple
                (Array.mk [Value.int IntKind.i64 (if askedB l (0 : Int) x place = true then (place + (1 : Int)) * (↑(List.length l) : Int) else (0 : Int)), Value.bool (askedB l (0 : Int) x place)]))) (by kernel_rfl) (by
    refine ⟨planLen_w l q, ⟨⟨by omega, fun _ => rfl, fun h => absurd rfl h, fun j hj => absurd hj (Nat.not_lt_zero j), .inl rfl⟩, ⟨rfl, rfl⟩, rfl⟩, fun i s j ⟨q1, q2, q3, q4, q5⟩ => ⟨fun h1 => ?_, fun h1 => ?_⟩⟩
    · have hk : s.1 < l.length := by have := of_decide_eq_true h1; omega
      refine ⟨wait_w l q _ _ _ h0 hl, fun h2 => ?_, fun h2 => ?_⟩
      · rw [asked_slot (by omega)] at h2
        refine ⟨i - 1, (s.1 + 1, if waitW l (s.1 : Nat) x place > s.2 then waitW l (s.1 : Nat) x place else s.2), by omega, ⟨by show i - 1 + (s.1 + 1) = _; omega, fun h => absurd h (Nat.succ_ne_zero _), fun _ => h2, fun j hj => ?_, ?_⟩, ⟨wrap_next s.1 (by omega), rfl⟩, trivial, rfl, trivial⟩
        · dsimp only
          have hj' : j < s.1 + 1 := hj
          rcases Nat.lt_or_ge j s.1 with h3 | h3
          · have := q4 j h3; split <;> omega
          · obtain rfl : j = s.1 := by omega
            split <;> omega
        · dsimp only
          split
          · exact .inr ⟨s.1, Nat.lt_succ_self _, rfl⟩
          · rcases q5 with h3 | ⟨j, h3, h4⟩
            · exact .inl h3
            · exact .inr ⟨j, by omega, h4⟩
      · rw [asked_slot (by omega)] at h2
        rw [h2]; rfl
    · have hk : s.1 = l.length := by have := of_decide_eq_false h1; omega
      have ha := q3 (by omega)
      obtain ⟨a1, a2, a3, a4⟩ := asked_all ha
      obtain ⟨j, hj, e⟩ := wait_most ha
      have hb := q4 j (by omega)
      have hpos : 0 < (place + 1) * (l.length : Int) := Int.mul_pos (by omega) (by omega)
      have : s.2 = (place + 1) * l.length := by
        rcases q5 with h3 | ⟨j2, h3, h4⟩
        · omega
        · have := wait_le (l := l) (x := x) (place := place) (j := j2) (by omega) ha; omega
      rw [ha, if_pos rfl, this])
theorem wait_t (l : List Nat) (q slot x place : Int) (h0 : 0 < l.length) (hl : l.length ≤ 1000) (h : askedB l slot x place = true) : CallK Try.prog 30 [planV l q, .int .i64 slot, .int .i64 x, .int .i64 place] (.tuple (Array.mk [.int .i64 (waitI l.length (placeI l x) (slot.tmod l.length) place), .bool true])) := by
  have e := wait_w l q slot x place h0 hl
  unfold waitW at e; rw [if_pos h, h] at e; exact e
theorem wait_f (l : List Nat) (q slot x place : Int) (h0 : 0 < l.length) (hl : l.length ≤ 1000) (h : askedB l slot x place = false) : CallK Try.prog 30 [planV l q, .int .i64 slot, .int .i64 x, .int .i64 place] (.tuple (Array.mk [.int .i64 0, .bool false])) := by
  have e := wait_w l q slot x place h0 hl
  unfold waitW at e; rw [if_neg (by rw [h]; decide), h] at e; exact e
theorem worst_t (l : List Nat) (q x place : Int) (h0 : 0 < l.length) (hl : l.length ≤ 1000) (h : askedB l 0 x place = true) : CallK Try.prog 31 [planV l q, .int .i64 x, .int .i64 place] (.tuple (Array.mk [.int .i64 ((place + 1) * l.length), .bool true])) := by
  have e := worst_w l q x place h0 hl
  rw [if_pos h, h] at e; exact e
theorem worst_f (l : List Nat) (q x place : Int) (h0 : 0 < l.length) (hl : l.length ≤ 1000) (h : askedB l 0 x place = false) : CallK Try.prog 31 [planV l q, .int .i64 x, .int .i64 place] (.tuple (Array.mk [.int .i64 0, .bool false])) := by
  have e := worst_w l q x place h0 hl
  rw [if_neg (by rw [h]; decide), h] at e; exact e
end Go.Proofs.Ytepijhnfeafmaaa

end
section
/- What the law's helpers on plans answer: its example, an interface's cycle. -/
set_option linter.unusedVariables false
set_option linter.unusedSimpArgs false
set_option maxRecDepth 100000
namespace Go.Proofs.Ytepijhnfeafmaaa
open Go Go.Ideal
theorem awake33_w : CallK Try.prog 26 [] (.bool true) := CallK.runF progOK 3000 rfl rfl (by kernel_rfl) (by kernel_rfl)
theorem cycle_w (c : Conf) (i : Int) (hw : ConfWf c) (g : greatC c = false) : CallK Try.prog 27 [confV c, .int .i64 i] (intsV (labelsC c i)) :=
  CallK.coe progOK (pfs []) [] 100 (Adv.pur (12 : Nat) (Value.tuple (Array.mk [Value.int IntKind.i64 (Prod.fst (checkR c)), Value.int IntKind.i64 (Prod.snd (checkR c))]))
  (Adv.split (20 : Nat)
    (Adv.split (25 : Nat) Adv.nil
      (Adv.split (32 : Nat) Adv.nil
        (Adv.chk (41 : Nat) none
          (Adv.chk (43 : Nat) (some (Value.agg (Array.mk (lblL (Face.lo (List.getD (Conf.faces c) (Int.toNat i) default))))))
            (Adv.chk (47 : Nat) none
              (Adv.chk (49 : Nat) (some (Value.agg (Array.mk (lblL (Face.hi (List.getD (Conf.faces c) (Int.toNat i) default))))))
                (Adv.pur (50 : Nat)
                  (Value.iface (nat_lit 1000000)
                    (Value.tuple
                      (Array.mk
                        [Value.int IntKind.i64
                            (↑(List.length
                                  (whB (fun (x : Lbl) => inL x (Face.lo (List.getD (Conf.faces c) (Int.toNat i) default)) (Face.hi (List.getD (Conf.faces c) (Int.toNat i) default))) (Conf.labels c)
                                    (List.length (Conf.labels c)))) :
                              Int),
                          Value.agg
                            (Array.mk
                              (intsL
                                (whB (fun (x : Lbl) => inL x (Face.lo (List.getD (Conf.faces c) (Int.toNat i) default)) (Face.hi (List.getD (Conf.faces c) (Int.toNat i) default))) (Conf.labels c)
                                  (List.length (Conf.labels c)))))])))
                  Adv.nil)))))))
    Adv.nil)) (by kernel_rfl) (by kernel_rfl) (p := CallK Try.prog (nat_lit 18) [Value.agg (Array.mk (confL c))] (Value.tuple (Array.mk [Value.int IntKind.i64 (Prod.fst (checkR c)), Value.int IntKind.i64 (Prod.snd (checkR c))])) ∧
  ((Prod.snd (checkR c) == (0 : Int)) = true →
      (decide (i < (0 : Int)) = true → Ideal.Coe (Value.slice none (nat_lit 0) (nat_lit 0)) (intsV (labelsC c i))) ∧
        (decide (i < (0 : Int)) = false →
          (decide (i ≥ (↑(List.length (Conf.faces c)) : Int)) = true → Ideal.Coe (Value.slice none (nat_lit 0) (nat_lit 0)) (intsV (labelsC c i))) ∧
            (decide (i ≥ (↑(List.length (Conf.faces c)) : Int)) = false →
              ((0 : Int) ≤ i ∧ i < (↑(List.length (Conf.faces c)) : Int)) ∧
                Ask.holds Try.prog
                    (Ask.part (Array.toList (Array.mk (facesL (Conf.faces c)))) (Int.toNat (↑(Int.toNat (↑(Int.toNat i * nat_lit 97) : Int) + nat_lit 4) : Int)) (nat_lit 31)
                      (lblL (Face.lo (List.getD (Conf.faces c) (Int.toNat i) default)))) ∧
                  ((0 : Int) ≤ i ∧ i < (↑(List.length (Conf.faces c)) : Int)) ∧
                    Ask.holds Try.prog
                        (Ask.part (Array.toList (Array.mk (facesL (Conf.faces c)))) (Int.toNat (↑(Int.toNat (↑(Int.toNat i * nat_lit 97) : Int) + nat_lit 35) : Int)) (nat_lit 31)
                          (lblL (Face.hi (List.getD (Conf.faces c) (Int.toNat i) default)))) ∧
                      CallK Try.prog (nat_lit 25)
                          [Value.iface (nat_lit 1000000) (Value.tuple (Array.mk [Value.int IntKind.i64 (↑(List.length (Conf.labels c)) : Int), Value.agg (Array.mk (lblsL (Conf.labels c)))])),
                            Value.agg (Array.mk (lblL (Face.lo (List.getD (Conf.faces c) (Int.toNat i) default)))),
                            Value.agg (Array.mk (lblL (Face.hi (List.getD (Conf.faces c) (Int.toNat i) default))))]
                          (Value.iface (nat_lit 1000000)
                            (Value.tuple
                              (Array.mk
                                [Value.int IntKind.i64
                                    (↑(List.length
                                          (whB (fun (x : Lbl) => inL x (Face.lo (List.getD (Conf.faces c) (Int.toNat i) default)) (Face.hi (List.getD (Conf.faces c) (Int.toNat i) default)))
                                            (Conf.labels c) (List.length (Conf.labels c)))) :
                                      Int),
                                  Value.agg
                                    (Array.mk
                                      (intsL
                                        (whB (fun (x : Lbl) => inL x (Face.lo (List.getD (Conf.faces c) (Int.toNat i) default)) (Face.hi (List.getD (Conf.faces c) (Int.toNat i) default)))
                                          (Conf.labels c) (List.length (Conf.labels c)))))]))) ∧
                        Ideal.Coe
                          (Value.iface (nat_lit 1000000)
                            (Value.tuple
                              (Array.mk
                                [Value.int IntKind.i64
                                    (↑(List.length
                                          (whB (fun (x : Lbl) => inL x (Face.lo (List.getD (Conf.faces c) (Int.toNat i) default)) (Face.hi (List.getD (Conf.faces c) (Int.toNat i) default)))
                                            (Conf.labels c) (List.length (Conf.labels c)))) :
                                      Int),
                                  Value.agg
                                    (Array.mk
                                      (intsL
                                        (whB (fun (x : Lbl) => inL x (Face.lo (List.getD (Conf.faces c) (Int.toNat i) default)) (Face.hi (List.getD (Conf.faces c) (Int.toNat i) default)))
                                          (Conf.labels c) (List.length (Conf.labels c)))))])))
                          (intsV (labelsC c i))))) ∧
    ((Prod.snd (checkR c) == (0 : Int)) = false → Ideal.Coe (Value.slice none (nat_lit 0) (nat_lit 0)) (intsV (labelsC c i)))) (by kernel_rfl) (by
    have hok := hw.ok g
    have hl := great_len g
    refine ⟨ref17_w _ hok, fun h3 => ⟨fun h4 => nil_labels ?_, fun h4 => ⟨fun h5 => nil_labels ?_, fun h5 => ?_⟩⟩, fun h3 => nil_labels ?_⟩
    · have := of_decide_eq_true h4
      rw [decide_eq_false (by omega : ¬ 0 ≤ i), Bool.false_and, Bool.and_false]
    · have := of_decide_eq_true h5
      rw [decide_eq_false (by omega : ¬ i < c.faces.length), Bool.and_false, Bool.and_false]
    · have h4' := of_decide_eq_false h4
      have h5' := of_decide_eq_false h5
      have hi : i.toNat < c.faces.length := by omega
      have hf := hw.faces _ (getD_mem (d := default) hi)
      have hr : rightC c = true := h3
      have hlc := labelsC_t hr (show 0 ≤ i by omega) (show i < c.faces.length by omega)
      refine ⟨⟨by omega, by omega⟩, faces_part hi 4 31 (by omega) rfl rfl, ⟨by omega, by omega⟩, faces_part hi 35 31 (by omega) rfl rfl, refWithinL_w _ _ _ hl hw.labels hf.1 hf.2.1, ?_⟩
      rw [hlc]; exact Coe.refl _
    · rw [show rightC c = false from h3]; rfl)
end Go.Proofs.Ytepijhnfeafmaaa

end
section
/- How many slots it is till a label's turn: the plain law of waits. -/
set_option linter.unusedVariables false
set_option linter.unusedSimpArgs false
set_option linter.unusedVariables false
set_option linter.unusedSimpArgs false
namespace Go.Proofs.Ytepijhnfeafmaaa
open Go Go.Ideal
/-- Is a label among the first of a cycle? -/
def inB (l : List Nat) (x : Int) (k : Nat) : Bool := (l.take k).any fun n => (n : Int) == x
theorem labelsC_nodup (c : Conf) (i : Int) : (labelsC c i).Nodup := by
  unfold labelsC
  split
  · exact List.Pairwise.filter _ List.nodup_range
  · exact List.nodup_nil
theorem place_at {l : List Nat} {x : Int} (h : 0 ≤ placeI l x) : (l.getD (placeI l x).toNat 0 : Int) = x := by
  rcases idxB_cases l (fun n : Nat => x == (n : Int)) 0 with ⟨k, hk, e, p, _⟩ | ⟨e, _⟩
  · unfold placeI; rw [e]; exact (beq_iff_eq.1 p).symm
  · unfold placeI at h; rw [e] at h; omega
theorem hit_iff {l : List Nat} {x : Int} (nd : l.Nodup) (h : 0 ≤ placeI l x) {a : Nat} (ha : a < l.length) : ((l.getD a 0 : Int) = x) ↔ (a : Int) = placeI l x := by
  have hp := place_lt h
  have hx := place_at h
  refine ⟨fun e => ?_, fun e => ?_⟩
  · have hk : (placeI l x).toNat < l.length := by omega
    have e2 : l.getD a 0 = l.getD (placeI l x).toNat 0 := by omega
    simp only [List.getD, List.getElem?_eq_getElem ha, List.getElem?_eq_getElem hk, Option.getD_some] at e2
    have nd2 := List.pairwise_iff_getElem.1 nd
    rcases Nat.lt_trichotomy a (placeI l x).toNat with h1 | h1 | h1
    · exact absurd e2 (nd2 _ _ ha hk h1)
    · omega
    · exact absurd e2.symm (nd2 _ _ hk ha h1)
  · rw [show a = (placeI l x).toNat by omega]; exact hx
theorem inB_yes {l : List Nat} {x : Int} {k : Nat} (h : inB l x k = true) : inB l x (k + 1) = true := by
  obtain ⟨y, hy, e⟩ := List.any_eq_true.1 h
  exact List.any_eq_true.2 ⟨y, List.take_subset_take_left l (Nat.le_succ k) hy, e⟩
theorem inB_no {l : List Nat} {x : Int} {k : Nat} (hk : k < l.length) (h : inB l x k = false) : inB l x (k + 1) = ((l.getD k 0 : Int) == x) := by
  unfold inB at h ⊢
  rw [take_snoc 0 hk, List.any_append, h]
  simp
theorem inB_all (l : List Nat) (x : Int) : inB l x l.length = decide (0 ≤ placeI l x) := by
  unfold inB placeI
  rw [List.take_length, anyB_idx]
  exact congrArg l.any (funext fun n => beq_flip _ _)
theorem turn {n a : Int} (h0 : 0 ≤ a) (h1 : a < n) : (a + 1).tmod n = if a + 1 < n then a + 1 else 0 := by
  rw [Int.tmod_eq_emod_of_nonneg (by omega)]
  split
  · exact Int.emod_eq_of_lt (by omega) (by omega)
  · rw [show a + 1 = n by omega]; exact Int.emod_self
theorem gap_hit {n k : Int} (h0 : 0 ≤ k) (h1 : k < n) : gapI n k ((k + 1).tmod n) = n - 1 ∧ gapI n k k = 0 := by
  rw [turn h0 h1]; unfold gapI
  refine ⟨?_, by rw [if_pos (Int.le_refl _)]; omega⟩
  repeat' split
  all_goals omega
theorem gap_miss {n k a : Int} (h0 : 0 ≤ k) (h1 : k < n) (h2 : 0 ≤ a) (h3 : a < n) (h : a ≠ k) : gapI n k ((a + 1).tmod n) = gapI n k a - 1 := by
  rw [turn h2 h3]; unfold gapI
  repeat' split
  all_goals omega
/-- On the way: what is left, how long it was, which slot it is; so many slots are still to go. -/
def WaitInv (l : List Nat) (x slot place : Int) (m : Nat) (s : Int × Int × Int) : Prop := 0 ≤ s.1 ∧ s.1 ≤ 51 ∧ 0 ≤ s.2.2 ∧ s.2.2 < l.length ∧ s.2.1 + m = waitI l.length (placeI l x) (slot.tmod l.length) place ∧ 0 ≤ s.2.1 ∧
  ((s.1 = 0 ∧ m = 0) ∨ (1 ≤ s.1 ∧ (m : Int) = gapI l.length (placeI l x) s.2.2 + (s.1 - 1) * l.length + 1))
theorem WaitInv.start {l : List Nat} {x slot place : Int} (h0 : 0 ≤ slot) (h1 : 0 ≤ place) (h2 : place ≤ 50) (h3 : 0 ≤ placeI l x) : WaitInv l x slot place (waitI l.length (placeI l x) (slot.tmod l.length) place).toNat (place + 1, 0, slot.tmod l.length) := by
  have hp := place_lt h3
  obtain ⟨m1, m2⟩ := tmod_range (n := (l.length : Int)) h0 (by omega)
  have g : 0 ≤ gapI l.length (placeI l x) (slot.tmod l.length) := by unfold gapI; split <;> omega
  have b0 : 0 ≤ place * (l.length : Int) := Int.mul_nonneg h1 (by omega)
  have w : 0 ≤ waitI l.length (placeI l x) (slot.tmod l.length) place := by unfold waitI; omega
  refine ⟨by show 0 ≤ place + 1; omega, by show place + 1 ≤ 51; omega, m1, m2, by show 0 + _ = _; omega, Int.le_refl 0, .inr ⟨by show 1 ≤ place + 1; omega, ?_⟩⟩
  show _ = gapI l.length (placeI l x) (slot.tmod l.length) + (place + 1 - 1) * (l.length : Int) + 1
  rw [show place + 1 - 1 = place by omega]
  have : waitI l.length (placeI l x) (slot.tmod l.length) place = gapI l.length (placeI l x) (slot.tmod l.length) + place * l.length + 1 := rfl
  omega
theorem WaitInv.hit {l : List Nat} {x slot place : Int} {m : Nat} {s : Int × Int × Int} (h : WaitInv l x slot place m s) (h3 : 0 ≤ placeI l x) (hs : 0 < s.1) (e : s.2.2 = placeI l x) :
    0 < m ∧ WaitInv l x slot place (m - 1) (s.1 - 1, s.2.1 + 1, (s.2.2 + 1).tmod l.length) := by
  obtain ⟨a1, a2, a3, a4, a5, a6, a7⟩ := h
  have hp := place_lt h3
  rcases a7 with ⟨h1, _⟩ | ⟨h1, h2⟩
  · omega
  obtain ⟨g1, g2⟩ := gap_hit h3 hp
  obtain ⟨r1, r2⟩ := tmod_range (n := (l.length : Int)) (s := s.2.2 + 1) (by omega) (by omega)
  rw [e] at h2; rw [g2] at h2
  have b0 : 0 ≤ (s.1 - 1) * (l.length : Int) := Int.mul_nonneg (by omega) (by omega)
  refine ⟨by omega, by show 0 ≤ s.1 - 1; omega, by show s.1 - 1 ≤ 51; omega, r1, r2, by show s.2.1 + 1 + ((m - 1 : Nat) : Int) = _; omega, by show 0 ≤ s.2.1 + 1; omega, ?_⟩
  by_cases h5 : s.1 = 1
  · left
    rw [h5] at h2
    exact ⟨by show s.1 - 1 = 0; omega, by omega⟩
  · right
    refine ⟨by show 1 ≤ s.1 - 1; omega, ?_⟩
    show ((m - 1 : Nat) : Int) = gapI _ _ ((s.2.2 + 1).tmod _) + (s.1 - 1 - 1) * (l.length : Int) + 1
    rw [e, g1, Int.sub_mul]
    omega
theorem WaitInv.miss {l : List Nat} {x slot place : Int} {m : Nat} {s : Int × Int × Int} (h : WaitInv l x slot place m s) (h3 : 0 ≤ placeI l x) (hs : 0 < s.1) (e : s.2.2 ≠ placeI l x) :
    0 < m ∧ WaitInv l x slot place (m - 1) (s.1, s.2.1 + 1, (s.2.2 + 1).tmod l.length) := by
  obtain ⟨a1, a2, a3, a4, a5, a6, a7⟩ := h
  have hp := place_lt h3
  rcases a7 with ⟨h1, _⟩ | ⟨h1, h2⟩
  · omega
  have g1 := gap_miss h3 hp a3 a4 e
  have g : 1 ≤ gapI l.length (placeI l x) s.2.2 := by unfold gapI; split <;> omega
  obtain ⟨r1, r2⟩ := tmod_range (n := (l.length : Int)) (s := s.2.2 + 1) (by omega) (by omega)
  have b0 : 0 ≤ (s.1 - 1) * (l.length : Int) := Int.mul_nonneg (by omega) (by omega)
  refine ⟨by omega, a1, a2, r1, r2, by show s.2.1 + 1 + ((m - 1 : Nat) : Int) = _; omega, by show 0 ≤ s.2.1 + 1; omega, .inr ⟨h1, ?_⟩⟩
  show ((m - 1 : Nat) : Int) = gapI _ _ ((s.2.2 + 1).tmod _) + (s.1 - 1) * (l.length : Int) + 1
  rw [g1]; omega
theorem WaitInv.end {l : List Nat} {x slot place : Int} {m : Nat} {s : Int × Int × Int} (h : WaitInv l x slot place m s) (hs : ¬ 0 < s.1) : s.2.1 = waitI l.length (placeI l x) (slot.tmod l.length) place := by
  obtain ⟨a1, a2, a3, a4, a5, a6, a7⟩ := h
  rcases a7 with ⟨h1, h2⟩ | ⟨h1, h2⟩ <;> omega
end Go.Proofs.Ytepijhnfeafmaaa

end
