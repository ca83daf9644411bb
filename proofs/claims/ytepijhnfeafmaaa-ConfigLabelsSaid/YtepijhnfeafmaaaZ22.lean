/- Texts packed together: CLawLabs. -/
import Derived.Test.YtepijhnfeafmaaaZ21
section
/- Of any config the labels within the range of any interface; which one has an address: the walk of the law. -/
set_option linter.unusedVariables false
set_option linter.unusedSimpArgs false
set_option maxRecDepth 100000
namespace Go.Proofs.Ytepijhnfeafmaaa
open Go Go.Ideal
/-- The first interface, from one on, that has an address; -1: there is none. -/
def OwnAt (c : Conf) (a : Int) (i : Nat) (own : Int) : Prop := (own = -1 ∧ ∀ j, i ≤ j → j < c.faces.length → ((c.faces.getD j default).addr == a) = false) ∨
  (∃ m : Nat, own = m ∧ i ≤ m ∧ m < c.faces.length ∧ ((c.faces.getD m default).addr == a) = true ∧ ∀ j, i ≤ j → j < m → ((c.faces.getD j default).addr == a) = false)
theorem OwnAt.end {c : Conf} {a own : Int} (h : OwnAt c a 0 own) : own = ownB c a := by
  rcases h with ⟨rfl, h⟩ | ⟨m, rfl, _, hm, h1, h2⟩
  · exact (idxB_none (d := default) fun j hj => h j (Nat.zero_le _) hj).symm
  · exact (idxB_some (d := default) hm h1 fun j hj => h2 j (Nat.zero_le _) hj).symm
theorem OwnAt.yes {c : Conf} {a : Int} {k : Nat} (hk : k < c.faces.length) (h1 : ((c.faces.getD k default).addr == a) = true) : OwnAt c a k k :=
  .inr ⟨k, rfl, Nat.le_refl _, hk, h1, fun j h2 h3 => by omega⟩
theorem OwnAt.no {c : Conf} {a own : Int} {k : Nat} (h : OwnAt c a (k + 1) own) (h1 : ((c.faces.getD k default).addr == a) = false) : OwnAt c a k own := by
  have ext : ∀ {p : Nat → Prop} {n : Nat}, p k → (∀ j, k + 1 ≤ j → j < n → p j) → ∀ j, k ≤ j → j < n → p j := fun {p n} a b j h2 h3 => by
    rcases Nat.lt_or_ge k j with h4 | h4
    · exact b j h4 h3
    · obtain rfl : j = k := by omega
      exact a
  rcases h with ⟨e, h⟩ | ⟨m, e, hm, hn, h2, h3⟩
  · exact .inl ⟨e, ext h1 h⟩
  · exact .inr ⟨m, e, by omega, hn, h2, ext h1 h3⟩
theorem right_ranged {c : Conf} (h : rightC c = true) {i : Nat} (hi : i < c.faces.length) : rangedB c (c.faces.getD i default) = true := by
  have hf : (facesR c).2 = 0 := by grind [rightC, checkR]
  have no : faceE c (c.faces.take i) (c.faces.getD i default) = 0 := by
    rcases firstBad_cases c.faces.length (fun k => faceE c (c.faces.take k) (c.faces.getD k default)) with ⟨k, hk, e, hb, n2⟩ | ⟨e, no⟩
    · unfold facesR at hf; rw [firstBad0_at hk hb n2] at hf; exact absurd hf hb
    · exact no i hi
  grind [faceE]
theorem labels_some {c : Conf} (hw : ConfWf c) {i : Int} (h1 : rightC c = true) (h2 : 0 ≤ i) (h3 : i < c.faces.length) : 0 < (labelsC c i).length := by
  have hi : i.toNat < c.faces.length := by omega
  have hr := right_ranged h1 hi
  have hk : keyHas c.labels (c.faces.getD i.toNat default).dflt = true := by grind [rangedB]
  have hn : inL (c.faces.getD i.toNat default).dflt (c.faces.getD i.toNat default).lo (c.faces.getD i.toNat default).hi = true := by grind [rangedB]
  obtain ⟨y, hy, e⟩ := List.any_eq_true.1 hk
  have hf := hw.faces _ (getD_mem (d := default) hi)
  obtain rfl := (lblEq_iff hf.2.2.1 (hw.labels y hy).1).1 e
  obtain ⟨k, hk2, e2⟩ := List.getElem_of_mem hy
  rw [labelsC_t h1 h2 h3]
  refine List.length_pos_of_mem (a := k) (List.mem_filter.2 ⟨List.mem_range.2 hk2, ?_⟩)
  show inL (c.labels.getD k default) _ _ = true
  rw [show c.labels.getD k default = c.labels[k] by simp [List.getD, List.getElem?_eq_getElem hk2], e2]
  exact hn
theorem great_len {c : Conf} (h : greatC c = false) : c.labels.length ≤ 1000 := by
  simp only [greatC, Bool.or_eq_false_iff, decide_eq_false_iff_not] at h; omega
theorem labelsLaw_w (c : Conf) (i a : Int) (hw : ConfWf c) : CallK Try.prog 5 [confV c, .int .i64 i, .int .u32 a] (.bool true) :=
  CallK.via progOK (pfs []) [] 100 (Adv.purs (3 : Nat) (greatC c) (Adv.pur (4 : Nat) (Value.bool true) Adv.nil)
  (Adv.pur (6 : Nat) (Value.iface (nat_lit 1000000) (Value.tuple (Array.mk [Value.int IntKind.i64 (↑(List.length (labelsC c i)) : Int), Value.agg (Array.mk (intsL (labelsC c i)))])))
    (Adv.loop (14 : Nat) (fun (s : Int × Int) => [((9 : Nat), Value.int IntKind.i64 (Prod.fst s)), ((8 : Nat), Value.int IntKind.i64 (Prod.snd s))])
      ((fun (h : Heap) (x : Int × Int) => h) (Heap.mk (nat_lit 1) (Trie.node (some (Blk.cells (confL c) (nat_lit 31) Mode.fix)) Trie.leaf Trie.leaf)))
      (fun (n : Nat) (s : Int × Int) => (↑n : Int) = Prod.fst s + (1 : Int) ∧ n ≤ List.length (Conf.faces c) ∧ OwnAt c a n (Prod.snd s)) (List.length (Conf.faces c))
      ((↑(List.length (Conf.faces c)) : Int) - (1 : Int), (-1 : Int)) fun (i14 : Nat) (s14 : Int × Int) (j14 : Nat → Value) =>
      Adv.split (16 : Nat)
        (Adv.chk (20 : Nat) none (Adv.chk (22 : Nat) (some (Value.int IntKind.u32 (Face.addr (List.getD (Conf.faces c) (Int.toNat (Prod.fst s14)) default)))) (Adv.split (24 : Nat) Adv.nil Adv.nil)))
        (Adv.pur (19 : Nat) (Value.int IntKind.i64 (ownB c a))
          (Adv.split (21 : Nat) Adv.nil
            (Adv.pur (27 : Nat) (Value.tuple (Array.mk [Value.int IntKind.i64 (Prod.fst (checkR c)), Value.int IntKind.i64 (Prod.snd (checkR c))]))
              (Adv.split (34 : Nat)
                (Adv.split (39 : Nat) (Adv.split (45 : Nat) (Adv.pur (47 : Nat) (Value.bool true) Adv.nil) Adv.nil)
                  (Adv.split (46 : Nat) (Adv.split (50 : Nat) (Adv.pur (52 : Nat) (Value.bool true) Adv.nil) Adv.nil)
                    (Adv.chk (54 : Nat) none
                      (Adv.chk (56 : Nat) (some (Value.agg (Array.mk (lblL (Face.lo (List.getD (Conf.faces c) (Int.toNat i) default))))))
                        (Adv.chk (60 : Nat) none
                          (Adv.chk (62 : Nat) (some (Value.agg (Array.mk (lblL (Face.hi (List.getD (Conf.faces c) (Int.toNat i) default))))))
                            (Adv.pur (63 : Nat)
                              (Value.iface (nat_lit 1000000)
                                (Value.tuple
                                  (Array.mk
                                    [Value.int IntKind.i64
                                        (↑(List.length
                                              (whB (fun (x : Lbl) => inL x (Face.lo (List.getD (Conf.faces c) (Int.toNat i) default)) (Face.hi (List.getD (Conf.faces c) (Int.toNat i) default)))
                                                (Conf.labels c) (List.length (Conf.labels c)))) :
                                          Int),
                                      Value.agg
                                        (Array.mk
                                          (intsL
                                            (whB (fun (x : Lbl) => inL x (Face.lo (List.getD (Conf.faces c) (Int.toNat i) default)) (Face.hi (List.getD (Conf.faces c) (Int.toNat i) default)))
                                              (Conf.labels c) (List.length (Conf.labels c)))))])))
                              (Adv.pur (64 : Nat) (Value.bool true) (Adv.split (68 : Nat) (Adv.pur (71 : Nat) (Value.bool true) Adv.nil) Adv.nil)))))))))
                (Adv.split (43 : Nat) (Adv.pur (45 : Nat) (Value.bool true) Adv.nil) Adv.nil)))))))) (by kernel_rfl) (by kernel_rfl) (p := CallK Try.prog (nat_lit 15) [Value.agg (Array.mk (confL c))] (Value.bool (greatC c)) ∧
  (greatC c = true → CallK Try.prog (nat_lit 16) [] (Value.bool true) ∧ Value.bool true = Value.bool true) ∧
    (greatC c = false →
      CallK Try.prog (nat_lit 21) [Value.agg (Array.mk (confL c)), Value.int IntKind.i64 i]
          (Value.iface (nat_lit 1000000) (Value.tuple (Array.mk [Value.int IntKind.i64 (↑(List.length (labelsC c i)) : Int), Value.agg (Array.mk (intsL (labelsC c i)))]))) ∧
        (((↑(List.length (Conf.faces c)) : Int) = Prod.fst ((↑(List.length (Conf.faces c)) : Int) - (1 : Int), (-1 : Int)) + (1 : Int) ∧
              List.length (Conf.faces c) ≤ List.length (Conf.faces c) ∧ OwnAt c a (List.length (Conf.faces c)) (Prod.snd ((↑(List.length (Conf.faces c)) : Int) - (1 : Int), (-1 : Int)))) ∧
            (Value.int IntKind.i64 (IntKind.wrap IntKind.i64 ((↑(List.length (Conf.faces c)) : Int) - (1 : Int))) =
                  Value.int IntKind.i64 (Prod.fst ((↑(List.length (Conf.faces c)) : Int) - (1 : Int), (-1 : Int))) ∧
                Value.int IntKind.i64 (-1 : Int) = Value.int IntKind.i64 (-1 : Int)) ∧
              Heap.mk (nat_lit 1) (Trie.node (some (Blk.cells (confL c) (nat_lit 31) Mode.fix)) Trie.leaf Trie.leaf) =
                Heap.mk (nat_lit 1) (Trie.node (some (Blk.cells (confL c) (nat_lit 31) Mode.fix)) Trie.leaf Trie.leaf)) ∧
          ∀ (i14 : Nat) (s14 : Int × Int) (j14 : Nat → Value),
            (↑i14 : Int) = Prod.fst s14 + (1 : Int) ∧ i14 ≤ List.length (Conf.faces c) ∧ OwnAt c a i14 (Prod.snd s14) →
              (decide (Prod.fst s14 ≥ (0 : Int)) = true →
                  ((0 : Int) ≤ Prod.fst s14 ∧ Prod.fst s14 < (↑(List.length (Conf.faces c)) : Int)) ∧
                    Ask.holds Try.prog
                        (Ask.part (Array.toList (Array.mk (facesL (Conf.faces c)))) (Int.toNat (↑(Int.toNat (↑(Int.toNat (Prod.fst s14) * nat_lit 97) : Int) + nat_lit 0) : Int)) (nat_lit 1)
                          [Value.int IntKind.u32 (Face.addr (List.getD (Conf.faces c) (Int.toNat (Prod.fst s14)) default))]) ∧
                      ((Face.addr (List.getD (Conf.faces c) (Int.toNat (Prod.fst s14)) default) == a) = true →
                          ∃ (i14' : Nat),
                            ∃ (s14' : Int × Int),
                              i14' < i14 ∧
                                ((↑i14' : Int) = Prod.fst s14' + (1 : Int) ∧ i14' ≤ List.length (Conf.faces c) ∧ OwnAt c a i14' (Prod.snd s14')) ∧
                                  (Value.int IntKind.i64 (IntKind.wrap IntKind.i64 (Prod.fst s14 - (1 : Int))) = Value.int IntKind.i64 (Prod.fst s14') ∧
                                      Value.int IntKind.i64 (Prod.fst s14) = Value.int IntKind.i64 (Prod.snd s14')) ∧
                                    (some (Blk.cells (confL c) (nat_lit 31) Mode.fix) = some (Blk.cells (confL c) (nat_lit 31) Mode.fix) ∧ True) ∧ true = true ∧ true = true ∧ True) ∧
                        ((Face.addr (List.getD (Conf.faces c) (Int.toNat (Prod.fst s14)) default) == a) = false →
                          ∃ (i14' : Nat),
                            ∃ (s14' : Int × Int),
                              i14' < i14 ∧
                                ((↑i14' : Int) = Prod.fst s14' + (1 : Int) ∧ i14' ≤ List.length (Conf.faces c) ∧ OwnAt c a i14' (Prod.snd s14')) ∧
                                  (Value.int IntKind.i64 (IntKind.wrap IntKind.i64 (Prod.fst s14 - (1 : Int))) = Value.int IntKind.i64 (Prod.fst s14') ∧
                                      Value.int IntKind.i64 (Prod.snd s14) = Value.int IntKind.i64 (Prod.snd s14')) ∧
                                    (some (Blk.cells (confL c) (nat_lit 31) Mode.fix) = some (Blk.cells (confL c) (nat_lit 31) Mode.fix) ∧ True) ∧ true = true ∧ true = true ∧ True)) ∧
                (decide (Prod.fst s14 ≥ (0 : Int)) = false →
                  CallK Try.prog (nat_lit 22) [Value.agg (Array.mk (confL c)), Value.int IntKind.u32 a] (Value.int IntKind.i64 (ownB c a)) ∧
                    ((ownB c a != Prod.snd s14) = true → Value.bool false = Value.bool true) ∧
                      ((ownB c a != Prod.snd s14) = false →
                        CallK Try.prog (nat_lit 18) [Value.agg (Array.mk (confL c))]
                            (Value.tuple (Array.mk [Value.int IntKind.i64 (Prod.fst (checkR c)), Value.int IntKind.i64 (Prod.snd (checkR c))])) ∧
                          ((Prod.snd (checkR c) == (0 : Int)) = true →
                              (decide (i < (0 : Int)) = true →
                                  (((↑(List.length (labelsC c i)) : Int) == (0 : Int)) = true → CallK Try.prog (nat_lit 16) [] (Value.bool true) ∧ Value.bool true = Value.bool true) ∧
                                    (((↑(List.length (labelsC c i)) : Int) == (0 : Int)) = false → Value.bool false = Value.bool true)) ∧
                                (decide (i < (0 : Int)) = false →
                                  (decide (i ≥ (↑(List.length (Conf.faces c)) : Int)) = true →
                                      (((↑(List.length (labelsC c i)) : Int) == (0 : Int)) = true → CallK Try.prog (nat_lit 16) [] (Value.bool true) ∧ Value.bool true = Value.bool true) ∧
                                        (((↑(List.length (labelsC c i)) : Int) == (0 : Int)) = false → Value.bool false = Value.bool true)) ∧
                                    (decide (i ≥ (↑(List.length (Conf.faces c)) : Int)) = false →
                                      ((0 : Int) ≤ i ∧ i < (↑(List.length (Conf.faces c)) : Int)) ∧
                                        Ask.holds Try.prog
                                            (Ask.part (Array.toList (Array.mk (facesL (Conf.faces c)))) (Int.toNat (↑(Int.toNat (↑(Int.toNat i * nat_lit 97) : Int) + nat_lit 4) : Int)) (nat_lit 31)
                                              (lblL (Face.lo (List.getD (Conf.faces c) (Int.toNat i) default)))) ∧
                                          ((0 : Int) ≤ i ∧ i < (↑(List.length (Conf.faces c)) : Int)) ∧
                                            Ask.holds Try.prog
                                                (Ask.part (Array.toList (Array.mk (facesL (Conf.faces c)))) (Int.toNat (↑(Int.toNat (↑(Int.toNat i * nat_lit 97) : Int) + nat_lit 35) : Int))
                                                  (nat_lit 31) (lblL (Face.hi (List.getD (Conf.faces c) (Int.toNat i) default)))) ∧
                                              CallK Try.prog (nat_lit 25)
                                                  [Value.iface (nat_lit 1000000)
                                                      (Value.tuple (Array.mk [Value.int IntKind.i64 (↑(List.length (Conf.labels c)) : Int), Value.agg (Array.mk (lblsL (Conf.labels c)))])),
                                                    Value.agg (Array.mk (lblL (Face.lo (List.getD (Conf.faces c) (Int.toNat i) default)))),
                                                    Value.agg (Array.mk (lblL (Face.hi (List.getD (Conf.faces c) (Int.toNat i) default))))]
                                                  (Value.iface (nat_lit 1000000)
                                                    (Value.tuple
                                                      (Array.mk
                                                        [Value.int IntKind.i64
                                                            (↑(List.length
                                                                  (whB
                                                                    (fun (x : Lbl) =>
                                                                      inL x (Face.lo (List.getD (Conf.faces c) (Int.toNat i) default)) (Face.hi (List.getD (Conf.faces c) (Int.toNat i) default)))
                                                                    (Conf.labels c) (List.length (Conf.labels c)))) :
                                                              Int),
                                                          Value.agg
                                                            (Array.mk
                                                              (intsL
                                                                (whB
                                                                  (fun (x : Lbl) =>
                                                                    inL x (Face.lo (List.getD (Conf.faces c) (Int.toNat i) default)) (Face.hi (List.getD (Conf.faces c) (Int.toNat i) default)))
                                                                  (Conf.labels c) (List.length (Conf.labels c)))))]))) ∧
                                                CallK Try.prog (nat_lit 24)
                                                    [Value.iface (nat_lit 1000000)
                                                        (Value.tuple (Array.mk [Value.int IntKind.i64 (↑(List.length (labelsC c i)) : Int), Value.agg (Array.mk (intsL (labelsC c i)))])),
                                                      Value.iface (nat_lit 1000000)
                                                        (Value.tuple
                                                          (Array.mk
                                                            [Value.int IntKind.i64
                                                                (↑(List.length
                                                                      (whB
                                                                        (fun (x : Lbl) =>
                                                                          inL x (Face.lo (List.getD (Conf.faces c) (Int.toNat i) default)) (Face.hi (List.getD (Conf.faces c) (Int.toNat i) default)))
                                                                        (Conf.labels c) (List.length (Conf.labels c)))) :
                                                                  Int),
                                                              Value.agg
                                                                (Array.mk
                                                                  (intsL
                                                                    (whB
                                                                      (fun (x : Lbl) =>
                                                                        inL x (Face.lo (List.getD (Conf.faces c) (Int.toNat i) default)) (Face.hi (List.getD (Conf.faces c) (Int.toNat i) default)))
                                                                      (Conf.labels c) (List.length (Conf.labels c)))))]))]
                                                    (Value.bool true) ∧
                                                  (decide ((↑(List.length (labelsC c i)) : Int) > (0 : Int)) = true →
                                                      CallK Try.prog (nat_lit 16) [] (Value.bool true) ∧ Value.bool true = Value.bool true) ∧
                                                    (decide ((↑(List.length (labelsC c i)) : Int) > (0 : Int)) = false → Value.bool false = Value.bool true)))) ∧
                            ((Prod.snd (checkR c) == (0 : Int)) = false →
                              (((↑(List.length (labelsC c i)) : Int) == (0 : Int)) = true → CallK Try.prog (nat_lit 16) [] (Value.bool true) ∧ Value.bool true = Value.bool true) ∧
                                (((↑(List.length (labelsC c i)) : Int) == (0 : Int)) = false → Value.bool false = Value.bool true)))))) (by kernel_rfl) (by
    have none : ∀ {h : (rightC c && (decide (0 ≤ i) && decide (i < c.faces.length))) = false}, (((labelsC c i).length : Int) == 0) = true := fun {h} => by rw [labelsC_f h]; rfl
    have out : (rightC c && (decide (0 ≤ i) && decide (i < c.faces.length))) = false → ((((labelsC c i).length : Int) == 0) = true → CallK Try.prog 16 [] (.bool true) ∧ Value.bool true = Value.bool true) ∧ ((((labelsC c i).length : Int) == 0) = false → Value.bool false = Value.bool true) := fun h =>
      ⟨fun _ => ⟨awake17_w, rfl⟩, fun h2 => by rw [none (h := h)] at h2; cases h2⟩
    refine ⟨great_w _, fun _ => ⟨awake17_w, rfl⟩, fun g => ?_⟩
    have hok := hw.ok g
    have hl := great_len g
    refine ⟨labels_w c i hok hl, ⟨⟨by omega, Nat.le_refl _, .inl ⟨rfl, fun j h1 h2 => by omega⟩⟩, ⟨congrArg _ (wrap_in (by have := hok.len.faces; omega) (by have := hok.len.faces; omega)), rfl⟩, rfl⟩, fun n s j ⟨q1, q2, q3⟩ => ⟨fun h1 => ?_, fun h1 => ?_⟩⟩
    · have h1' := of_decide_eq_true h1
      have hlen := hok.len.faces
      have e : n = s.1.toNat + 1 := by omega
      refine ⟨⟨by omega, by omega⟩, faces_part (by omega) 0 1 (by omega) rfl rfl, fun h2 => ?_, fun h2 => ?_⟩
      · exact ⟨n - 1, (s.1 - 1, s.1), by omega, ⟨by show _ = s.1 - 1 + 1; omega, by omega, by rw [show n - 1 = s.1.toNat by omega, show (s.1 - 1, s.1).2 = ((s.1.toNat : Nat) : Int) by show s.1 = _; omega]; exact OwnAt.yes (by omega) h2⟩, ⟨congrArg _ (wrap_in (by omega) (by omega)), rfl⟩, ⟨rfl, trivial⟩, rfl, ⟨rfl, trivial⟩⟩
      · exact ⟨n - 1, (s.1 - 1, s.2), by omega, ⟨by show _ = s.1 - 1 + 1; omega, by omega, by rw [show n - 1 = s.1.toNat by omega]; exact OwnAt.no (e ▸ q3) h2⟩, ⟨congrArg _ (wrap_in (by omega) (by omega)), rfl⟩, ⟨rfl, trivial⟩, rfl, ⟨rfl, trivial⟩⟩
    · have h1' := of_decide_eq_false h1
      obtain rfl : n = 0 := by omega
      have hown := OwnAt.end q3
      refine ⟨owns_w c a hok.len.faces, fun h2 => by rw [hown] at h2; simp at h2, fun _ => ⟨ref17_w _ hok, fun h3 => ⟨fun h4 => out ?_, fun h4 => ⟨fun h5 => out ?_, fun h5 => ?_⟩⟩, fun h3 => out ?_⟩⟩
      · have := of_decide_eq_true h4
        rw [decide_eq_false (by omega : ¬ 0 ≤ i), Bool.false_and, Bool.and_false]
      · have := of_decide_eq_true h5
        rw [decide_eq_false (by omega : ¬ i < c.faces.length), Bool.and_false, Bool.and_false]
      · have h4' := of_decide_eq_false h4
        have h5' := of_decide_eq_false h5
        have hi : i.toNat < c.faces.length := by omega
        have hf := hw.faces _ (getD_mem (d := default) hi)
        have hr : rightC c = true := h3
        have hlc := labelsC_t hr (show 0 ≤ i by omega) (show i < c.faces.length by omega)
        refine ⟨⟨by omega, by omega⟩, faces_part hi 4 31 (by omega) rfl rfl, ⟨by omega, by omega⟩, faces_part hi 35 31 (by omega) rfl rfl, refWithinL_w _ _ _ hl hw.labels hf.1 hf.2.1, ints2_w _ _ ?_ hlc.symm, fun _ => ⟨awake17_w, rfl⟩, fun h6 => ?_⟩
        · rw [hlc]; exact Nat.le_trans (whB_len _ _ _) hl
        · have := labels_some hw hr (show 0 ≤ i by omega) (show i < c.faces.length by omega)
          have := of_decide_eq_false h6
          omega
      · rw [show rightC c = false from h3]; rfl)
end Go.Proofs.Ytepijhnfeafmaaa

end
