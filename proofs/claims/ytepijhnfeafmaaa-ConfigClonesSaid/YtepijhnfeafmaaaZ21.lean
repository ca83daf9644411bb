/- Texts packed together: CLaw17 CReads IBorR IShelf IClone. -/
import Derived.Test.YtepijhnfeafmaaaZ20
section
/- What is wrong with any config, and where: the walk of the law. -/
set_option linter.unusedVariables false
set_option linter.unusedSimpArgs false
set_option maxRecDepth 100000
namespace Go.Proofs.Ytepijhnfeafmaaa
open Go Go.Ideal
def greatD (d : Doi) : Bool := decide (300 < d.levels.length) || decide (300 < d.cats.length)
def greatC (c : Conf) : Bool := (c.dois.take 10).any greatD || decide (12 < c.faces.length) || decide (30 < c.labels.length) || decide (8 < c.dois.length) || decide (80 < c.relabels.length) || decide (80 < c.rules.length) || decide (300 < c.routes.length)
/-- Data as they are handed. -/
structure ConfWf (c : Conf) : Prop where
  addr : AddrOK c
  faces : ∀ x ∈ c.faces, FaceOK x
  relabels : ∀ r ∈ c.relabels, PfxOK r.src ∧ PfxOK r.dst
  rules : ∀ r ∈ c.rules, PfxOK r.src ∧ PfxOK r.dst
  routes : ∀ r ∈ c.routes, PfxOK r.to
  labels : ∀ x ∈ c.labels, CatsOK x.cats
theorem ConfWf.ok {c : Conf} (h : ConfWf c) (hg : greatC c = false) : ConfOK c := by
  simp only [greatC, Bool.or_eq_false_iff, decide_eq_false_iff_not] at hg
  obtain ⟨⟨⟨⟨⟨⟨g1, g2⟩, g3⟩, g4⟩, g5⟩, g6⟩, g7⟩ := hg
  refine ⟨⟨by omega, by omega, by omega, by omega, by omega, by omega⟩, h.addr, h.faces, fun d hd => ?_, h.relabels, h.rules, h.routes⟩
  rw [List.take_of_length_le (by omega)] at g1
  have := List.any_eq_false.1 g1 d hd
  simp only [greatD, Bool.or_eq_true, decide_eq_true_eq] at this
  omega
theorem greatD_w (d : Doi) : CallK Try.prog 49 [doiV d] (.bool (greatD d)) := CallK.via progOK (pfs []) [] 100 (Adv.split (7 : Nat) Adv.nil (Adv.split (12 : Nat) Adv.nil Adv.nil)) (by kernel_rfl) (by kernel_rfl) (p := (decide ((↑(List.length (Doi.levels d)) : Int) > (300 : Int)) = true → Value.bool true = Value.bool (greatD d)) ∧ (decide ((↑(List.length (Doi.levels d)) : Int) > (300 : Int)) = false → (decide ((↑(List.length (Doi.cats d)) : Int) > (300 : Int)) = true → Value.bool true = Value.bool (greatD d)) ∧ (decide ((↑(List.length (Doi.cats d)) : Int) > (300 : Int)) = false → Value.bool false = Value.bool (greatD d)))) (by kernel_rfl) (by
    simp only [Value.bool.injEq]
    repeat' (first | rfl | apply And.intro | intro)
    all_goals grind [greatD])
theorem great_w (c : Conf) : CallK Try.prog 15 [confV c] (.bool (greatC c)) := CallK.via progOK (pfs []) [] 100 (Adv.loop (6 : Nat) (fun (k : Nat) => [((3 : Nat), Value.int IntKind.i64 (↑k : Int))]) ((fun (h : Heap) (x : Nat) => h) (Heap.mk (nat_lit 1) (Trie.node (some (Blk.cells (confL c) (nat_lit 31) Mode.fix)) Trie.leaf Trie.leaf))) (fun (a k : Nat) => a + k = (10 : Nat) ∧ k ≤ List.length (Conf.dois c) ∧ ∀ (j : Nat), j < k → greatD (List.getD (Conf.dois c) j default) = false) (10 : Nat) (0 : Nat) fun (i6 s6 : Nat) (j6 : Nat → Value) => Adv.split (13 : Nat) (Adv.split (16 : Nat) (Adv.chk (24 : Nat) none (Adv.chk (25 : Nat) (some (Value.agg (Array.mk (doiL (List.getD (Conf.dois c) s6 default))))) (Adv.purs (26 : Nat) (greatD (List.getD (Conf.dois c) s6 default)) Adv.nil Adv.nil))) (Adv.split (23 : Nat) Adv.nil (Adv.split (28 : Nat) Adv.nil (Adv.split (34 : Nat) Adv.nil (Adv.split (40 : Nat) Adv.nil (Adv.split (46 : Nat) Adv.nil (Adv.split (52 : Nat) Adv.nil Adv.nil))))))) (Adv.split (21 : Nat) Adv.nil (Adv.split (26 : Nat) Adv.nil (Adv.split (32 : Nat) Adv.nil (Adv.split (38 : Nat) Adv.nil (Adv.split (44 : Nat) Adv.nil (Adv.split (50 : Nat) Adv.nil Adv.nil))))))) (by kernel_rfl) (by kernel_rfl) (p := (((10 : Nat) + (0 : Nat) = (10 : Nat) ∧ (0 : Nat) ≤ List.length (Conf.dois c) ∧ ∀ (j : Nat), j < (0 : Nat) → greatD (List.getD (Conf.dois c) j default) = false) ∧ Value.int IntKind.i64 (0 : Int) = Value.int IntKind.i64 (0 : Int) ∧ Heap.mk (nat_lit 1) (Trie.node (some (Blk.cells (confL c) (nat_lit 31) Mode.fix)) Trie.leaf Trie.leaf) = Heap.mk (nat_lit 1) (Trie.node (some (Blk.cells (confL c) (nat_lit 31) Mode.fix)) Trie.leaf Trie.leaf)) ∧ ∀ (i6 s6 : Nat) (j6 : Nat → Value), (i6 + s6 = (10 : Nat) ∧ s6 ≤ List.length (Conf.dois c) ∧ ∀ (j : Nat), j < s6 → greatD (List.getD (Conf.dois c) j default) = false) → (decide ((↑s6 : Int) < (↑(List.length (Conf.dois c)) : Int)) = true → (decide ((↑s6 : Int) < (10 : Int)) = true → ((0 : Int) ≤ (↑s6 : Int) ∧ (↑s6 : Int) < (↑(List.length (Conf.dois c)) : Int)) ∧ Ask.holds Try.prog (Ask.part (Array.toList (Array.mk (doisL (Conf.dois c)))) (Int.toNat (↑(Int.toNat (↑s6 : Int) * nat_lit 3) : Int)) (nat_lit 3) (doiL (List.getD (Conf.dois c) s6 default))) ∧ CallK Try.prog (nat_lit 49) [Value.agg (Array.mk (doiL (List.getD (Conf.dois c) s6 default)))] (Value.bool (greatD (List.getD (Conf.dois c) s6 default))) ∧ (greatD (List.getD (Conf.dois c) s6 default) = true → Value.bool true = Value.bool (greatC c)) ∧ (greatD (List.getD (Conf.dois c) s6 default) = false → ∃ (i6' : Nat), ∃ (s6' : Nat), i6' < i6 ∧ (i6' + s6' = (10 : Nat) ∧ s6' ≤ List.length (Conf.dois c) ∧ ∀ (j : Nat), j < s6' → greatD (List.getD (Conf.dois c) j default) = false) ∧ Value.int IntKind.i64 (IntKind.wrap IntKind.i64 ((↑s6 : Int) + (1 : Int))) = Value.int IntKind.i64 (↑s6' : Int) ∧ (some (Blk.cells (confL c) (nat_lit 31) Mode.fix) = some (Blk.cells (confL c) (nat_lit 31) Mode.fix) ∧ True) ∧ true = true ∧ true = true ∧ True)) ∧ (decide ((↑s6 : Int) < (10 : Int)) = false → (decide ((↑(List.length (Conf.faces c)) : Int) > (12 : Int)) = true → Value.bool true = Value.bool (greatC c)) ∧ (decide ((↑(List.length (Conf.faces c)) : Int) > (12 : Int)) = false → (decide ((↑(List.length (Conf.labels c)) : Int) > (30 : Int)) = true → Value.bool true = Value.bool (greatC c)) ∧ (decide ((↑(List.length (Conf.labels c)) : Int) > (30 : Int)) = false → (decide ((↑(List.length (Conf.dois c)) : Int) > (8 : Int)) = true → Value.bool true = Value.bool (greatC c)) ∧ (decide ((↑(List.length (Conf.dois c)) : Int) > (8 : Int)) = false → (decide ((↑(List.length (Conf.relabels c)) : Int) > (80 : Int)) = true → Value.bool true = Value.bool (greatC c)) ∧ (decide ((↑(List.length (Conf.relabels c)) : Int) > (80 : Int)) = false → (decide ((↑(List.length (Conf.rules c)) : Int) > (80 : Int)) = true → Value.bool true = Value.bool (greatC c)) ∧ (decide ((↑(List.length (Conf.rules c)) : Int) > (80 : Int)) = false → (decide ((↑(List.length (Conf.routes c)) : Int) > (300 : Int)) = true → Value.bool true = Value.bool (greatC c)) ∧ (decide ((↑(List.length (Conf.routes c)) : Int) > (300 : Int)) = false → Value.bool false = Value.bool (greatC c))))))))) ∧ (decide ((↑s6 : Int) < (↑(List.length (Conf.dois c)) : Int)) = false → (decide ((↑(List.length (Conf.faces c)) : Int) > (12 : Int)) = true → Value.bool true = Value.bool (greatC c)) ∧ (decide ((↑(List.length (Conf.faces c)) : Int) > (12 : Int)) = false → (decide ((↑(List.length (Conf.labels c)) : Int) > (30 : Int)) = true → Value.bool true = Value.bool (greatC c)) ∧ (decide ((↑(List.length (Conf.labels c)) : Int) > (30 : Int)) = false → (decide ((↑(List.length (Conf.dois c)) : Int) > (8 : Int)) = true → Value.bool true = Value.bool (greatC c)) ∧ (decide ((↑(List.length (Conf.dois c)) : Int) > (8 : Int)) = false → (decide ((↑(List.length (Conf.relabels c)) : Int) > (80 : Int)) = true → Value.bool true = Value.bool (greatC c)) ∧ (decide ((↑(List.length (Conf.relabels c)) : Int) > (80 : Int)) = false → (decide ((↑(List.length (Conf.rules c)) : Int) > (80 : Int)) = true → Value.bool true = Value.bool (greatC c)) ∧ (decide ((↑(List.length (Conf.rules c)) : Int) > (80 : Int)) = false → (decide ((↑(List.length (Conf.routes c)) : Int) > (300 : Int)) = true → Value.bool true = Value.bool (greatC c)) ∧ (decide ((↑(List.length (Conf.routes c)) : Int) > (300 : Int)) = false → Value.bool false = Value.bool (greatC c))))))))) (by kernel_rfl) (by
    have tail : ∀ {k : Nat}, (∀ j, j < k → greatD (c.dois.getD j default) = false) → (k = 10 ∨ k = c.dois.length) → k ≤ 10 → k ≤ c.dois.length → (c.dois.take 10).any greatD = false := fun {k} h1 h2 h3 h4 => by
      rcases h2 with rfl | rfl
      · exact any_take_false default h4 h1
      · rw [List.take_of_length_le h3]; exact anyB_false h1
    refine ⟨⟨⟨by omega, by omega, fun j hj => by omega⟩, rfl, rfl⟩, fun a k j ⟨q1, q2, q3⟩ => ⟨fun h1 => ⟨fun h2 => ?_, fun h2 => ?_⟩, fun h1 => ?_⟩⟩
    · have hk : k < c.dois.length := by have := of_decide_eq_true h1; omega
      have hk2 : k < 10 := by have := of_decide_eq_true h2; omega
      refine ⟨⟨by omega, by omega⟩, dois_part hk 0 3 (by omega) rfl rfl, greatD_w _, fun h3 => ?_, fun h3 => ⟨a - 1, k + 1, by omega, ⟨by omega, by omega, lt_next q3 h3⟩, wrap_next k (by omega), ⟨rfl, trivial⟩, rfl, ⟨rfl, trivial⟩⟩⟩
      have : (c.dois.take 10).any greatD = true := by
        rw [List.any_eq_true]
        refine ⟨c.dois.getD k default, ?_, h3⟩
        have hk3 : k < (c.dois.take 10).length := by rw [List.length_take]; omega
        have := List.getElem_mem hk3
        rw [List.getElem_take] at this
        simpa [List.getD, List.getElem?_eq_getElem hk] using this
      unfold greatC; rw [this]; rfl
    · have e := tail q3 (.inl (by have := of_decide_eq_false h2; omega)) (by omega) q2
      simp only [Value.bool.injEq, greatC, e, Bool.false_or]
      repeat' (first | apply And.intro | intro)
      all_goals grind
    · have e := tail q3 (.inr (by have := of_decide_eq_false h1; omega)) (by omega) q2
      simp only [Value.bool.injEq, greatC, e, Bool.false_or]
      repeat' (first | apply And.intro | intro)
      all_goals grind)
theorem awake17_w : CallK Try.prog 16 [] (.bool true) := CallK.runF progOK 3000 rfl rfl (by kernel_rfl) (by kernel_rfl)
theorem checks17_w (c : Conf) (h : ConfWf c) : CallK Try.prog 3 [confV c] (.bool true) := CallK.via progOK (pfs []) [] 100 (Adv.purs (6 : Nat) (greatC c) (Adv.pur (9 : Nat) (Value.bool true) Adv.nil) (Adv.pur (10 : Nat) (Value.tuple (Array.mk [Value.int IntKind.i64 (Prod.fst (checkR c)), Value.int IntKind.i64 (Prod.snd (checkR c))])) (Adv.pur (18 : Nat) (Value.tuple (Array.mk [Value.int IntKind.i64 (Prod.fst (checkR c)), Value.int IntKind.i64 (Prod.snd (checkR c))])) (Adv.split (27 : Nat) (Adv.split (31 : Nat) (Adv.purs (35 : Nat) (rightC c) (Adv.split (37 : Nat) (Adv.pur (41 : Nat) (Value.bool true) Adv.nil) Adv.nil) (Adv.split (37 : Nat) Adv.nil (Adv.pur (41 : Nat) (Value.bool true) Adv.nil))) Adv.nil) Adv.nil)))) (by kernel_rfl) (by kernel_rfl) (p := CallK Try.prog (nat_lit 15) [Value.agg (Array.mk (confL c))] (Value.bool (greatC c)) ∧ (greatC c = true → CallK Try.prog (nat_lit 16) [] (Value.bool true) ∧ Value.bool true = Value.bool true) ∧ (greatC c = false → CallK Try.prog (nat_lit 17) [Value.agg (Array.mk (confL c))] (Value.tuple (Array.mk [Value.int IntKind.i64 (Prod.fst (checkR c)), Value.int IntKind.i64 (Prod.snd (checkR c))])) ∧ CallK Try.prog (nat_lit 18) [Value.agg (Array.mk (confL c))] (Value.tuple (Array.mk [Value.int IntKind.i64 (Prod.fst (checkR c)), Value.int IntKind.i64 (Prod.snd (checkR c))])) ∧ ((Prod.fst (checkR c) == Prod.fst (checkR c)) = true → ((Prod.snd (checkR c) == Prod.snd (checkR c)) = true → CallK Try.prog (nat_lit 19) [Value.agg (Array.mk (confL c))] (Value.bool (rightC c)) ∧ (rightC c = true → ((Prod.snd (checkR c) == (0 : Int)) = true → CallK Try.prog (nat_lit 16) [] (Value.bool true) ∧ Value.bool true = Value.bool true) ∧ ((Prod.snd (checkR c) == (0 : Int)) = false → Value.bool false = Value.bool true)) ∧ (rightC c = false → ((Prod.snd (checkR c) == (0 : Int)) = true → Value.bool false = Value.bool true) ∧ ((Prod.snd (checkR c) == (0 : Int)) = false → CallK Try.prog (nat_lit 16) [] (Value.bool true) ∧ Value.bool true = Value.bool true))) ∧ ((Prod.snd (checkR c) == Prod.snd (checkR c)) = false → Value.bool false = Value.bool true)) ∧ ((Prod.fst (checkR c) == Prod.fst (checkR c)) = false → Value.bool false = Value.bool true))) (by kernel_rfl) (by
    simp only [Value.bool.injEq]
    repeat' (first | exact great_w _ | exact awake17_w | exact check_w _ (h.ok (by assumption)).len h.addr | exact right17_w _ (h.ok (by assumption)).len h.addr | exact ref17_w _ (h.ok (by assumption)) | rfl | apply And.intro | intro)
    all_goals grind [rightC])
end Go.Proofs.Ytepijhnfeafmaaa

end
section
/- What a law is handed of configs, read as plain data. -/
set_option linter.unusedVariables false
set_option maxRecDepth 100000
set_option linter.unusedVariables false
set_option linter.unusedSimpArgs false
namespace Go.Proofs.Ytepijhnfeafmaaa
open Go Go.Ideal Go.RowKit

theorem readsW {H : Type} {enc : TypeId × Value → H} {P : Program} {W : World} {base : Nat} {spare : Nat → Bool} {held : Bool} {t : TypeId} {α β : Type} {f : α → List Value} {wf : α → Prop} {f' : β → List Value} {wf' : β → Prop} (h : ReadsAs enc P W base spare held t f wf) (g : α → β) (hf : ∀ a, wf a → f' (g a) = f a) (hw : ∀ a, wf a → wf' (g a)) : ReadsAs enc P W base spare held t f' wf' := fun fuel cs x k => by
  obtain ⟨a, a1, a2⟩ := h fuel cs x k
  exact ⟨g a, hw a a1, by rw [hf a a1]; exact a2⟩
theorem cellsOf_map {α : Type} (f : α → Value) : ∀ l : List α, cellsOf (fun a => [f a]) l = l.map f
  | [] => rfl
  | a :: l => by simp only [cellsOf, List.map_cons, cellsOf_map f l]; rfl
theorem catsL_cells {l : List Int} (h : l.length = 30) : catsL l = cellsOf (fun n : Int => [.int .u8 n]) l := by
  rw [cellsOf_map]
  have e : catsL l = (List.range 30).map fun i => Value.int .u8 (l.getD i 0) := rfl
  rw [e]
  refine List.ext_getElem (by simp [h]) fun i h1 h2 => ?_
  have hi : i < l.length := by simpa using h2
  simp [List.getD, List.getElem?_eq_getElem hi]

section
variable {H : Type} {enc : TypeId × Value → H} {W : World} {base : Nat} {spare : Nat → Bool} {held : Bool}
theorem rd_i64 : ReadsAs enc Try.prog W base spare held 3 (fun n : Int => [.int .i64 n]) (fun _ => True) := readsW (ReadsAs.int Try.underlying3) id (fun _ _ => rfl) fun _ _ => trivial
theorem rd_bool : ReadsAs enc Try.prog W base spare held 4 (fun b : Bool => [.bool b]) (fun _ => True) := ReadsAs.bool Try.underlying4
theorem rd_u32 : ReadsAs enc Try.prog W base spare held 40 (fun n : Int => [.int .u32 n]) (fun n => 0 ≤ n ∧ n < 4294967296) := readsW (ReadsAs.int Try.underlying40) id (fun _ _ => rfl) fun n h => by
  simp only [Lit.wf, Bool.and_eq_true, decide_eq_true_eq] at h
  have h1 : (0 : Int) ≤ n := h.1
  have h2 : n ≤ 4294967295 := h.2
  exact ⟨h1, show n < 4294967296 by omega⟩
theorem rd_u8 : ReadsAs enc Try.prog W base spare held 5 (fun n : Int => [.int .u8 n]) (fun n => 0 ≤ n ∧ n < 256) := readsW (ReadsAs.int Try.underlying5) id (fun _ _ => rfl) fun n h => by
  simp only [Lit.wf, Bool.and_eq_true, decide_eq_true_eq] at h
  have h1 : (0 : Int) ≤ n := h.1
  have h2 : n ≤ 255 := h.2
  exact ⟨h1, show n < 256 by omega⟩
theorem rd_Cats : ReadsAs enc Try.prog W base spare held 42 (catsL) (CatsOK) := readsW (ReadsAs.array Try.underlying42 (m := 1) (by kernel_rfl) (by kernel_rfl) rd_u8) id (fun _ h => catsL_cells h.1) fun _ h => h
theorem rd_Pfx : ReadsAs enc Try.prog W base spare held 48 (pfxL) (PfxOK) := readsW (FieldsAs.all (FieldsAs.cons (o := 0) (n := 1) Try.underlying48 0 _ rfl rfl (by kernel_rfl) rd_u32 (FieldsAs.cons (o := 1) (n := 1) Try.underlying48 1 _ rfl rfl (by kernel_rfl) rd_i64 (FieldsAs.nil Try.underlying48 (by kernel_rfl))))) (fun p => (⟨p.1, p.2.1⟩ : Pfx)) (fun _ _ => rfl) (fun a h => ⟨a.1.toNat, by show a.1 = _; omega, by have := h.1.2; omega⟩)
theorem rd_Lbl : ReadsAs enc Try.prog W base spare held 44 (lblL) (fun x => CatsOK x.cats) := readsW (FieldsAs.all (FieldsAs.cons (o := 0) (n := 1) Try.underlying44 0 _ rfl rfl (by kernel_rfl) rd_i64 (FieldsAs.cons (o := 1) (n := 30) Try.underlying44 1 _ rfl rfl (by kernel_rfl) rd_Cats (FieldsAs.nil Try.underlying44 (by kernel_rfl))))) (fun p => (⟨p.1, p.2.1⟩ : Lbl)) (fun _ _ => rfl) (fun a h => h.2.1)
theorem rd_Face : ReadsAs enc Try.prog W base spare held 46 (faceL) (fun x => (0 ≤ x.addr ∧ x.addr < 4294967296) ∧ FaceOK x) := readsW (FieldsAs.all (FieldsAs.cons (o := 0) (n := 1) Try.underlying46 0 _ rfl rfl (by kernel_rfl) rd_u32 (FieldsAs.cons (o := 1) (n := 1) Try.underlying46 1 _ rfl rfl (by kernel_rfl) rd_i64 (FieldsAs.cons (o := 2) (n := 1) Try.underlying46 2 _ rfl rfl (by kernel_rfl) rd_i64 (FieldsAs.cons (o := 3) (n := 1) Try.underlying46 3 _ rfl rfl (by kernel_rfl) rd_i64 (FieldsAs.cons (o := 4) (n := 31) Try.underlying46 4 _ rfl rfl (by kernel_rfl) rd_Lbl (FieldsAs.cons (o := 35) (n := 31) Try.underlying46 5 _ rfl rfl (by kernel_rfl) rd_Lbl (FieldsAs.cons (o := 66) (n := 31) Try.underlying46 6 _ rfl rfl (by kernel_rfl) rd_Lbl (FieldsAs.nil Try.underlying46 (by kernel_rfl)))))))))) (fun p => (⟨p.1, p.2.1, p.2.2.1, p.2.2.2.1, p.2.2.2.2.1, p.2.2.2.2.2.1, p.2.2.2.2.2.2.1⟩ : Face)) (fun _ _ => rfl) (fun a h => ⟨h.1, h.2.2.2.2.1, h.2.2.2.2.2.1, h.2.2.2.2.2.2.1⟩)
theorem rd_Pair : ReadsAs enc Try.prog W base spare held 55 (pairL) (fun _ => True) := readsW (FieldsAs.all (FieldsAs.cons (o := 0) (n := 1) Try.underlying55 0 _ rfl rfl (by kernel_rfl) rd_i64 (FieldsAs.cons (o := 1) (n := 1) Try.underlying55 1 _ rfl rfl (by kernel_rfl) rd_i64 (FieldsAs.nil Try.underlying55 (by kernel_rfl))))) (fun p => (⟨p.1, p.2.1⟩ : Pair)) (fun _ _ => rfl) (fun _ _ => trivial)
theorem rd_Pairs : ReadsAs enc Try.prog W base spare held 51 (fun l : List Pair => [pairsV l]) (fun l => (∀ a ∈ l, (fun _ => True) a) ∧ l.length ≤ maxLen) := ReadsAs.slice Try.underlying51 (by rw [show Try.prog.cellsOf 55 = 2 from by kernel_rfl]; decide) (fun a => (pairL_length a).trans (by kernel_rfl)) rd_Pair
theorem rd_Doi : ReadsAs enc Try.prog W base spare held 53 (doiL) (fun _ => True) := readsW (FieldsAs.all (FieldsAs.cons (o := 0) (n := 1) Try.underlying53 0 _ rfl rfl (by kernel_rfl) rd_u32 (FieldsAs.cons (o := 1) (n := 1) Try.underlying53 1 _ rfl rfl (by kernel_rfl) rd_Pairs (FieldsAs.cons (o := 2) (n := 1) Try.underlying53 2 _ rfl rfl (by kernel_rfl) rd_Pairs (FieldsAs.nil Try.underlying53 (by kernel_rfl)))))) (fun p => (⟨p.1, p.2.1, p.2.2.1⟩ : Doi)) (fun _ _ => rfl) (fun _ _ => trivial)
theorem rd_Rule : ReadsAs enc Try.prog W base spare held 50 (ruleL) (fun r => PfxOK r.src ∧ PfxOK r.dst) := readsW (FieldsAs.all (FieldsAs.cons (o := 0) (n := 1) Try.underlying50 0 _ rfl rfl (by kernel_rfl) rd_i64 (FieldsAs.cons (o := 1) (n := 1) Try.underlying50 1 _ rfl rfl (by kernel_rfl) rd_i64 (FieldsAs.cons (o := 2) (n := 2) Try.underlying50 2 _ rfl rfl (by kernel_rfl) rd_Pfx (FieldsAs.cons (o := 4) (n := 2) Try.underlying50 3 _ rfl rfl (by kernel_rfl) rd_Pfx (FieldsAs.cons (o := 6) (n := 1) Try.underlying50 4 _ rfl rfl (by kernel_rfl) rd_i64 (FieldsAs.cons (o := 7) (n := 1) Try.underlying50 5 _ rfl rfl (by kernel_rfl) rd_i64 (FieldsAs.cons (o := 8) (n := 1) Try.underlying50 6 _ rfl rfl (by kernel_rfl) rd_i64 (FieldsAs.cons (o := 9) (n := 1) Try.underlying50 7 _ rfl rfl (by kernel_rfl) rd_i64 (FieldsAs.cons (o := 10) (n := 1) Try.underlying50 8 _ rfl rfl (by kernel_rfl) rd_i64 (FieldsAs.cons (o := 11) (n := 1) Try.underlying50 9 _ rfl rfl (by kernel_rfl) rd_bool (FieldsAs.nil Try.underlying50 (by kernel_rfl))))))))))))) (fun p => (⟨p.1, p.2.1, p.2.2.1, p.2.2.2.1, p.2.2.2.2.1, p.2.2.2.2.2.1, p.2.2.2.2.2.2.1, p.2.2.2.2.2.2.2.1, p.2.2.2.2.2.2.2.2.1, p.2.2.2.2.2.2.2.2.2.1⟩ : Rule)) (fun _ _ => rfl) (fun a h => ⟨h.2.2.1, h.2.2.2.1⟩)
theorem rd_Relab : ReadsAs enc Try.prog W base spare held 110 (relabL) (fun r => PfxOK r.src ∧ PfxOK r.dst) := readsW (FieldsAs.all (FieldsAs.cons (o := 0) (n := 1) Try.underlying110 0 _ rfl rfl (by kernel_rfl) rd_i64 (FieldsAs.cons (o := 1) (n := 1) Try.underlying110 1 _ rfl rfl (by kernel_rfl) rd_i64 (FieldsAs.cons (o := 2) (n := 2) Try.underlying110 2 _ rfl rfl (by kernel_rfl) rd_Pfx (FieldsAs.cons (o := 4) (n := 2) Try.underlying110 3 _ rfl rfl (by kernel_rfl) rd_Pfx (FieldsAs.cons (o := 6) (n := 1) Try.underlying110 4 _ rfl rfl (by kernel_rfl) rd_i64 (FieldsAs.cons (o := 7) (n := 1) Try.underlying110 5 _ rfl rfl (by kernel_rfl) rd_i64 (FieldsAs.nil Try.underlying110 (by kernel_rfl))))))))) (fun p => (⟨p.1, p.2.1, p.2.2.1, p.2.2.2.1, p.2.2.2.2.1, p.2.2.2.2.2.1⟩ : Relab)) (fun _ _ => rfl) (fun a h => ⟨h.2.2.1, h.2.2.2.1⟩)
theorem rd_Rout : ReadsAs enc Try.prog W base spare held 113 (routL) (fun r => PfxOK r.to) := readsW (FieldsAs.all (FieldsAs.cons (o := 0) (n := 2) Try.underlying113 0 _ rfl rfl (by kernel_rfl) rd_Pfx (FieldsAs.cons (o := 2) (n := 1) Try.underlying113 1 _ rfl rfl (by kernel_rfl) rd_i64 (FieldsAs.nil Try.underlying113 (by kernel_rfl))))) (fun p => (⟨p.1, p.2.1⟩ : Rout)) (fun _ _ => rfl) (fun a h => h.1)
theorem rd_Quot : ReadsAs enc Try.prog W base spare held 29 (quotL) (fun _ => True) := readsW (FieldsAs.all (FieldsAs.cons (o := 0) (n := 1) Try.underlying29 0 _ rfl rfl (by kernel_rfl) rd_i64 (FieldsAs.cons (o := 1) (n := 1) Try.underlying29 1 _ rfl rfl (by kernel_rfl) rd_i64 (FieldsAs.cons (o := 2) (n := 1) Try.underlying29 2 _ rfl rfl (by kernel_rfl) rd_i64 (FieldsAs.cons (o := 3) (n := 1) Try.underlying29 3 _ rfl rfl (by kernel_rfl) rd_i64 (FieldsAs.cons (o := 4) (n := 1) Try.underlying29 4 _ rfl rfl (by kernel_rfl) rd_i64 (FieldsAs.cons (o := 5) (n := 1) Try.underlying29 5 _ rfl rfl (by kernel_rfl) rd_i64 (FieldsAs.cons (o := 6) (n := 1) Try.underlying29 6 _ rfl rfl (by kernel_rfl) rd_i64 (FieldsAs.cons (o := 7) (n := 1) Try.underlying29 7 _ rfl rfl (by kernel_rfl) rd_i64 (FieldsAs.cons (o := 8) (n := 1) Try.underlying29 8 _ rfl rfl (by kernel_rfl) rd_i64 (FieldsAs.nil Try.underlying29 (by kernel_rfl)))))))))))) (fun p => (⟨p.1, p.2.1, p.2.2.1, p.2.2.2.1, p.2.2.2.2.1, p.2.2.2.2.2.1, p.2.2.2.2.2.2.1, p.2.2.2.2.2.2.2.1, p.2.2.2.2.2.2.2.2.1⟩ : Quot)) (fun _ _ => rfl) (fun _ _ => trivial)
theorem rd_Faces : ReadsAs enc Try.prog W base spare held 22 (fun l : List Face => [facesV l]) (fun l => (∀ a ∈ l, (fun x => (0 ≤ x.addr ∧ x.addr < 4294967296) ∧ FaceOK x) a) ∧ l.length ≤ maxLen) := ReadsAs.slice Try.underlying22 (by rw [show Try.prog.cellsOf 46 = 97 from by kernel_rfl]; decide) (fun a => (faceL_length a).trans (by kernel_rfl)) rd_Face
theorem rd_Lbls : ReadsAs enc Try.prog W base spare held 23 (fun l : List Lbl => [lblsV l]) (fun l => (∀ a ∈ l, (fun x => CatsOK x.cats) a) ∧ l.length ≤ maxLen) := ReadsAs.slice Try.underlying23 (by rw [show Try.prog.cellsOf 44 = 31 from by kernel_rfl]; decide) (fun a => (lblL_length a).trans (by kernel_rfl)) rd_Lbl
theorem rd_Dois : ReadsAs enc Try.prog W base spare held 24 (fun l : List Doi => [doisV l]) (fun l => (∀ a ∈ l, (fun _ => True) a) ∧ l.length ≤ maxLen) := ReadsAs.slice Try.underlying24 (by rw [show Try.prog.cellsOf 53 = 3 from by kernel_rfl]; decide) (fun a => (doiL_length a).trans (by kernel_rfl)) rd_Doi
theorem rd_Relabs : ReadsAs enc Try.prog W base spare held 25 (fun l : List Relab => [relabsV l]) (fun l => (∀ a ∈ l, (fun r => PfxOK r.src ∧ PfxOK r.dst) a) ∧ l.length ≤ maxLen) := ReadsAs.slice Try.underlying25 (by rw [show Try.prog.cellsOf 110 = 8 from by kernel_rfl]; decide) (fun a => (relabL_length a).trans (by kernel_rfl)) rd_Relab
theorem rd_Rules : ReadsAs enc Try.prog W base spare held 26 (fun l : List Rule => [rulesV l]) (fun l => (∀ a ∈ l, (fun r => PfxOK r.src ∧ PfxOK r.dst) a) ∧ l.length ≤ maxLen) := ReadsAs.slice Try.underlying26 (by rw [show Try.prog.cellsOf 50 = 12 from by kernel_rfl]; decide) (fun a => (ruleL_length a).trans (by kernel_rfl)) rd_Rule
theorem rd_Routs : ReadsAs enc Try.prog W base spare held 27 (fun l : List Rout => [routsV l]) (fun l => (∀ a ∈ l, (fun r => PfxOK r.to) a) ∧ l.length ≤ maxLen) := ReadsAs.slice Try.underlying27 (by rw [show Try.prog.cellsOf 113 = 3 from by kernel_rfl]; decide) (fun a => (routL_length a).trans (by kernel_rfl)) rd_Rout
theorem rd_Conf : ReadsAs enc Try.prog W base spare held 31 (confL) (ConfWf) := readsW (FieldsAs.all (FieldsAs.cons (o := 0) (n := 1) Try.underlying31 0 _ rfl rfl (by kernel_rfl) rd_Faces (FieldsAs.cons (o := 1) (n := 1) Try.underlying31 1 _ rfl rfl (by kernel_rfl) rd_Lbls (FieldsAs.cons (o := 2) (n := 1) Try.underlying31 2 _ rfl rfl (by kernel_rfl) rd_Dois (FieldsAs.cons (o := 3) (n := 1) Try.underlying31 3 _ rfl rfl (by kernel_rfl) rd_Relabs (FieldsAs.cons (o := 4) (n := 1) Try.underlying31 4 _ rfl rfl (by kernel_rfl) rd_Rules (FieldsAs.cons (o := 5) (n := 1) Try.underlying31 5 _ rfl rfl (by kernel_rfl) rd_Routs (FieldsAs.cons (o := 6) (n := 9) Try.underlying31 6 _ rfl rfl (by kernel_rfl) rd_Quot (FieldsAs.nil Try.underlying31 (by kernel_rfl)))))))))) (fun p => (⟨p.1, p.2.1, p.2.2.1, p.2.2.2.1, p.2.2.2.2.1, p.2.2.2.2.2.1, p.2.2.2.2.2.2.1⟩ : Conf)) (fun _ _ => rfl) (fun a h => ⟨fun x hx => (h.1.1 x hx).1, fun x hx => (h.1.1 x hx).2, fun r hr => h.2.2.2.1.1 r hr, fun r hr => h.2.2.2.2.1.1 r hr, fun r hr => h.2.2.2.2.2.1.1 r hr, fun x hx => h.2.1.1 x hx⟩)
end
end Go.Proofs.Ytepijhnfeafmaaa

end
section
/- A call that is handed memory as it stands, rows of pools among it. Over any program. -/
set_option linter.unusedVariables false
set_option linter.unusedSimpArgs false
namespace Go.Ideal
open Go.RowKit
variable {P : Program}

def BorRs (h : Heap) (args args2 : List Value) : Prop := args.length = args2.length ∧ ∀ j, j < args.length → BorR h (args.getD j Go.undef) (args2.getD j Go.undef)
theorem CallS.borrowR {f : FuncId} {args args2 : List Value} {h : Heap} {v : Value} (hk : CallK P f args2 v) (hm : mapsP h h.next) (hb : BorRs h args args2) (hv : flat v = true) : CallS P f args h fun v1 h1 => v1 = v ∧ h1 = h := fun B w0 σ w args' H hargs => by
  have hF := memAll_ok w
  have hle := H.frz.le_all
  have H0 := HRel.start (P := P) (Nat.le_refl _) w H.globs hF (H.old.2.goes H.below H.size)
  have ha : CellsR (memAll w) args2 args'.toList := ⟨by rw [← hb.1, hargs.len], fun j => by
    rcases Nat.lt_or_ge j args.length with k | k
    · exact (hb.2 j k).rel H hle (memAll_whole B w) hm (hargs.getD j)
    · rw [getD_ge' (by rw [← hb.1]; exact k), getD_ge' (by rw [← hargs.len]; exact k)]; exact FRel.undef _⟩
  refine (hk (Heap.empty P.globals.size) w.heap.size ⟨w, memAll w⟩ (Sg.start P.globals.size (memAll w)) w args' H0 (CellsR.lrel (τ := Sg.start P.globals.size (memAll w)) ha)).mono fun e w' ⟨v1, v', h1, k1, k2, σ', k3, k4, k5⟩ => ?_
  obtain ⟨rfl, _⟩ := k2
  obtain rfl := flat_eq hv k4
  exact ⟨v', v', h, k1, ⟨rfl, rfl⟩, σ, Sg.le_refl σ, flat_rel hv σ, by
    have hb' := k5.below
    have hs := H.size
    refine ⟨H.below.trans (hb'.mono hs), Nat.le_trans hs hb'.size, H.dom, fun i x hx => Nat.lt_of_lt_of_le (H.codom i x hx) hb'.size, H.glob, fun i b hg => ?_, H.inj, ?_, H.old, H.tdom⟩
    · exact (H.blk i b hg).same fun _ b' hl => hb'.block _ (H.blk_lt hg hl)
    · refine ⟨fun b o v hv => ?_, fun b es he => ?_⟩
      · obtain ⟨cc, t, fz, q1, q2⟩ := H.frz.c b o v hv
        exact ⟨cc, t, fz, by rw [hb'.block _ (Array.getElem?_eq_some_iff.1 q1).1]; exact q1, q2⟩
      · obtain ⟨cl, q⟩ := H.frz.m b es he
        exact ⟨cl, by rw [hb'.block _ (Array.getElem?_eq_some_iff.1 q).1]; exact q⟩⟩
end Go.Ideal

end
section
/- What the library's functions answer, as told by contracts over any world. Over any program. -/
set_option linter.unusedVariables false
set_option linter.unusedSimpArgs false
namespace Go.Ideal
open Go.RowKit
variable {P : Program}
/-- The world goes on: nothing that was there is another. -/
theorem HRel.goes {B : Nat} {w0 : Org} {σ : Sg} {h : Heap} {w w' : World} (H : HRel P B w0 σ h w) (hb' : Below w.heap.size w w') : HRel P B w0 σ h w' := by
  have hs := H.size
  refine ⟨H.below.trans (hb'.mono hs), Nat.le_trans hs hb'.size, H.dom, fun i x hx => Nat.lt_of_lt_of_le (H.codom i x hx) hb'.size, H.glob, fun i b hg => ?_, H.inj, ?_, H.old, H.tdom⟩
  · exact (H.blk i b hg).same fun _ b' hl => hb'.block _ (H.blk_lt hg hl)
  · refine ⟨fun b o v hv => ?_, fun b es he => ?_⟩
    · obtain ⟨cc, t, fz, q1, q2⟩ := H.frz.c b o v hv
      exact ⟨cc, t, fz, by rw [hb'.block _ (Array.getElem?_eq_some_iff.1 q1).1]; exact q1, q2⟩
    · obtain ⟨cl, q⟩ := H.frz.m b es he
      exact ⟨cl, by rw [hb'.block _ (Array.getElem?_eq_some_iff.1 q).1]; exact q⟩
theorem CallK.ofBelow {f : FuncId} {args : List Value} {v : Value} (hv : flat v = true) (hc : ∀ (σ : Sg) (w : World) (args' : Array Value), FzOK σ.f w → LRel σ args args'.toList → Calls P f args' w fun e w' => e = .returned v ∧ Below w.heap.size w w') : CallK P f args v :=
  fun h B w0 σ w args' H ha => (hc σ w args' H.frz ha).mono fun e w' ⟨k1, k2⟩ => ⟨v, v, h, k1, ⟨rfl, rfl⟩, σ, Sg.le_refl σ, flat_rel hv σ, H.goes k2⟩
theorem CallK.ofGoes {f : FuncId} {args : List Value} {v : Value} (hc : ∀ (σ : Sg) (w : World) (args' : Array Value), SentAt P w.heap.size w → FzOK σ.f w → LRel σ args args'.toList → Calls P f args' w fun e w' => ∃ v', e = .returned v' ∧ (∀ τ : Sg, VRel τ v v') ∧ Below w.heap.size w w') : CallK P f args v :=
  fun h B w0 σ w args' H ha => (hc σ w args' (H.old.2.goes H.below H.size) H.frz ha).mono fun e w' ⟨v', k1, k2, k3⟩ => ⟨v, v', h, k1, ⟨rfl, rfl⟩, σ, Sg.le_refl σ, k2 σ, H.goes k3⟩
theorem CallK.ofSame {f : FuncId} {args : List Value} {v : Value} (hv : flat v = true) (ha : args.all flat = true) (hc : ∀ (w : World), Calls P f args.toArray w fun e w' => e = .returned v ∧ w' = w) : CallK P f args v :=
  CallK.ofBelow hv fun σ w args' _ hr => by
    have : ∀ {l l' : List Value}, LRel σ l l' → l.all flat = true → l = l' := fun {l l'} h => by
      induction h with
      | nil => intro _; rfl
      | cons k _ ih => intro hh; simp only [List.all_cons, Bool.and_eq_true] at hh; rw [flat_eq hh.1 k, ih hh.2]
    have e : args.toArray = args' := by rw [this hr ha]
    subst e
    exact (hc w).mono fun e w' ⟨k1, k2⟩ => ⟨k1, by rw [k2]; exact Below.refl _ _⟩
/-- A slice of flat cells that stay: where they lie. -/
theorem vsl_cells {σ : Sg} {w : World} (hF : FzOK σ.f w) {n : Nat} (hn : 0 < n) {cs : List Value} (hl : cs.length = n) (hf : cs.all flat = true) {v : Value} (h : VRel σ (vsl n cs.toArray) v) :
    ∃ b o c, v = .slice (some ⟨b, o, none⟩) n c ∧ n ≤ c ∧ b < w.heap.size ∧ ∀ j x, cs[j]? = some x → w.cell? ⟨b, o + j, none⟩ = some x := by
  have hs : asSl (vsl n cs.toArray) = some ((n : Int), cs.toArray) := rfl
  obtain ⟨m, e, ⟨a', c', rfl, hm, hcs⟩ | ⟨b, o, c', rfl, hc, ms, h1, h2, h3⟩⟩ := asSl_rel hs h
  · exfalso; omega
  · obtain rfl : n = m := by exact Int.ofNat.inj e
    have hms : ms.size = n := by rw [← h1]; simpa using hl
    have key : ∀ j x, cs[j]? = some x → ∃ cc t fz, w.heap[b]? = some (.cells cc t fz) ∧ cc[o + j]? = some x := fun j x hx => by
      obtain ⟨hj, hx2⟩ := List.getElem?_eq_some_iff.1 hx
      have hr := h3 j
      have e1 : cs.toArray.getD j Go.undef = x := by simp [Array.getD, hj, hx2]
      rw [e1] at hr
      have hfx : flat x = true := List.all_eq_true.1 hf x (hx2 ▸ List.getElem_mem hj)
      have e2 := flat_eq hfx (FRel.vrel (σ := σ) hr)
      obtain ⟨cc, t, fz, q1, q2⟩ := hF.c b (o + j) _ (h2 j (by omega))
      exact ⟨cc, t, fz, q1, by rw [q2, e2]⟩
    refine ⟨b, o, c', rfl, hc, ?_, fun j x hx => ?_⟩
    · obtain ⟨cc, t, fz, q1, _⟩ := key 0 _ (List.getElem?_eq_getElem (by omega))
      exact (Array.getElem?_eq_some_iff.1 q1).1
    · obtain ⟨cc, t, fz, q1, q2⟩ := key j x hx
      simp [World.cell?, q1, q2]
end Go.Ideal

end
section
/- A slice that is copied: the copy is a row of a pool. Over any program. -/
set_option linter.unusedVariables false
set_option linter.unusedSimpArgs false
namespace Go.Ideal
open Go.RowKit
variable {P : Program} {B : Nat} {w0 : Org}

/-- What a slice holds, as it stands: of memory that stays, or a whole row. -/
def sliceNow (h : Heap) (s : Value) : Option (Int × List Value) := match asSl s with
  | some (n, cs) => some (n, cs.toList)
  | none => match asRs s with
    | some (p, r, _, off, n) => match rowsAt h p, Nat.beq off 0 with
      | some rows, true => some (n, cellsAt rows r)
      | _, _ => none
    | none => none
/-- A row is one that is there. -/
def liveNow (h : Heap) (s : Value) : Prop := match asRs s with
  | some (p, r, _, _, _) => match rowsAt h p with
    | some rows => liveAt rows r = true
    | none => True
  | none => True
def lastPool (h : Heap) : Nat → Option Nat
  | 0 => none
  | k + 1 => match rowsAt h k with
    | some _ => some k
    | none => lastPool h k
/-- The copy is a row of a pool of its own. -/
def cloneNew (es : Nat) (args : List Value) (h : Heap) : Option (Value × Heap) := match args with
  | [s] => match sliceNow h s with
    | some (n, cs) => some (rsl h.next 1 es 0 n, ((h.push (.pool [])).set h.next (.pool [.cells []])).set h.next (.pool [.dead, .cells cs]))
    | none => none
  | _ => none
/-- The copy is a row of the newest pool. -/
def cloneTo (es : Nat) (args : List Value) (h : Heap) : Option (Value × Heap) := match args with
  | [s] => match sliceNow h s, lastPool h h.next with
    | some (n, cs), some p => match rowsAt h p with
      | some rows => some (rsl p (rows.length + 1) es 0 n, (h.set p (.pool (rows ++ [.cells []]))).set p (.pool (rows ++ [.dead, .cells cs])))
      | none => none
    | _, _ => none
  | _ => none

theorem now_load {w : World} {σ : Sg} {h : Heap} (H : HRel P B w0 σ h w) {es : Nat} {s s' : Value} {n : Int} {cs : List Value} (hs : sliceNow h s = some (n, cs)) (hlv : liveNow h s) (hc : cs.length = n.toNat * es) (hx : VRel σ s s') :
    ∃ (k : Nat) (a' : Option Addr) (c' : Nat) (new' : List Value), n = k ∧ s' = .slice a' k c' ∧ (a' = none → k = 0) ∧ (∀ d, (Builtin.firstCells es k s').run P { w with drawn := d } = .ok new'.toArray { w with drawn := d }) ∧ LRel σ cs new' := by
  unfold sliceNow at hs
  split at hs
  · rename_i m xs hxs
    simp only [Option.some.injEq, Prod.mk.injEq] at hs; obtain ⟨rfl, rfl⟩ := hs
    obtain ⟨kn, rfl, hsl⟩ := asSl_rel hxs hx
    simp only [Int.toNat_natCast] at hc
    rcases hsl with ⟨a', c', rfl, rfl, rfl⟩ | ⟨b, o, c', rfl, hcc, hst⟩
    · exact ⟨0, a', c', [], rfl, rfl, fun _ => rfl, fun d => by cases a' <;> simp [Builtin.firstCells, loadCells, loadCellsFrom], .nil⟩
    · have hcz : kn * es = xs.size := by simpa using hc.symm
      obtain ⟨ms, k1, k2, k3⟩ := hst.load (P := P) 0 (kn * es) (by omega)
      have k3 : ∀ j : Nat, FRel σ.f (xs.toList.getD j undef) (ms.getD j undef) := fun j => by
        have := k3 j
        rw [List.drop_zero, List.take_of_length_le (by simp; omega)] at this
        exact this
      have hlr : LRel σ xs.toList ms := LRel.of_getD (by rw [k2]; simpa using hcz.symm) fun j _ => (k3 j).vrel
      exact ⟨kn, some ⟨b, o, none⟩, c', ms, rfl, rfl, (by intro h; cases h), fun d => by simpa [Builtin.firstCells] using k1 { w with drawn := d } ⟨H.frz.c, H.frz.m⟩, hlr⟩
  · split at hs
    · rename_i p r es2 off m hrs
      split at hs
      · rename_i rows hg ho
        rw [Nat.beq_eq] at ho; subst ho
        simp only [Option.some.injEq, Prod.mk.injEq] at hs; obtain ⟨rfl, rfl⟩ := hs
        unfold liveNow at hlv
        rw [hrs] at hlv
        simp only [hg] at hlv
        obtain ⟨k, rfl, ⟨a', y, rfl, rfl, -, hT0⟩ | ⟨b, sz, c', rfl, hT, hcs, hnc⟩⟩ := asRs_rel hrs hx
        · have e : cellsAt rows r = [] := List.length_eq_zero_iff.1 (by simpa using hc)
          rw [e]
          exact ⟨0, a', 0, [], rfl, rfl, fun _ => rfl, fun d => by cases a' <;> simp [Builtin.firstCells, loadCells, loadCellsFrom], .nil⟩
        · simp only [Int.toNat_natCast] at hc
          obtain ⟨old', g1, g2, g3⟩ := row_load (w := w) (P := P) H (rowsAt_get hg) (liveAt_get hlv) hT 0 (k * es) (by omega)
          rw [List.drop_zero, List.take_of_length_le (by omega)] at g2
          exact ⟨k, some ⟨b, 0, none⟩, c', old', rfl, rfl, (by intro h; cases h), fun d => by simp only [Builtin.firstCells]; exact g1 d, g2⟩
      · cases hs
    · cases hs

section
variable {w : World} {σ : Sg} {h : Heap} {argTypes : Array TypeId} {st elem ty : TypeId} {ti : TypeInfo} {zv s s' : Value} {n : Int} {cs : List Value}

/-- append, to nothing, of all of it: a row of a pool of its own. -/
theorem clone_new (H : HRel P B w0 σ h w) (h0 : argTypes[0]? = some st) (h1 : argTypes[1]? = some st) (hus : P.underlying st = some (.slice elem)) (hti : P.info? elem = some ti) (hz : ti.zero = some zv) (hzs : zv.cells.size = ti.size)
    (hs : sliceNow h s = some (n, cs)) (hlv : liveNow h s) (hc : cs.length = n.toNat * ti.size) (hone : cs.all Go.Ideal.oneCell = true) (hx : VRel σ s s') (hbig : n.toNat * (ti.bytes + 1) ≤ 1099511627776) (a0 : Option Addr) :
    ∃ σ' w' v', σ.le σ' ∧ (Builtin.append_ argTypes ty #[.slice a0 0 0, s']).run P w = .ok v' w' ∧ VRel σ' (rsl h.next 1 ti.size 0 n) v' ∧ HRel P B w0 σ' (((h.push (.pool [])).set h.next (.pool [.cells []])).set h.next (.pool [.dead, .cells cs])) w' := by
  obtain ⟨k, a', c', new', rfl, rfl, -, hnew, hrel⟩ := now_load H hs hlv hc hx
  simp only [Int.toNat_natCast] at hc hbig
  obtain ⟨σ1, l1, H1, r1⟩ := Weak.trans (Weak.pool (P := P)) (Weak.rowNil (i := 0) (es := ti.size) (rows := []) (ts := [vzc]) (p := h.next) (h := h.push (.pool [])) (by rw [Heap.get_push, if_pos rfl]) (.inr rfl)) B w0 σ w [.slice a0 0 0] H (.cons (FRel.vzc a0).vrel .nil)
  have r1 : VRel σ1 (rsl h.next 0 ti.size 0 0) (.slice a0 0 0) := by cases r1 with | cons q _ => exact q
  have hg1 : ((h.push (.pool [])).set h.next (.pool ([] ++ [.cells []]))).get h.next = some (.pool [.cells []]) := by
    rw [Heap.get_set (by show h.next < h.next + 1; omega), if_pos rfl]; rfl
  obtain ⟨σ2, w2, v2, l2, run, rv, H2⟩ := pool_append (ty := ty) (n := 0) (k := k) (r := 0) (rows := [.cells []]) (cs := []) H1 h0 h1 hus ⟨elem, hus⟩ hti hz hzs hg1 rfl (asRs_rel rfl r1) (by simp) (fun w => by simp [Builtin.lenOf]) (by simpa using hbig) hnew (hrel.mono l1) hc (hrel.ones hone)
  exact ⟨σ2, w2, v2, Sg.le_trans l1 l2, run, by simpa using rv, by simpa using H2⟩
theorem clone_newNil (H : HRel P B w0 σ h w) (es : Nat) : ∃ σ', σ.le σ' ∧ VRel σ' (rsl h.next 1 es 0 0) (.slice none 0 0) ∧ HRel P B w0 σ' (((h.push (.pool [])).set h.next (.pool [.cells []])).set h.next (.pool [.dead, .cells []])) w := by
  obtain ⟨σ1, l1, H1, r1⟩ := Weak.trans (Weak.pool (P := P)) (Weak.rowNil (i := 0) (es := es) (rows := []) (ts := [vzc]) (p := h.next) (h := h.push (.pool [])) (by rw [Heap.get_push, if_pos rfl]) (.inr rfl)) B w0 σ w [.slice none 0 0] H (.cons (FRel.vzc none).vrel .nil)
  have hg1 : ((h.push (.pool [])).set h.next (.pool ([] ++ [.cells []]))).get h.next = some (.pool [.cells []]) := by
    rw [Heap.get_set (by show h.next < h.next + 1; omega), if_pos rfl]; rfl
  have H2 := HRel.nextNil (r := 0) H1 hg1 (by simp)
  obtain ⟨x, hT0⟩ := (H1.blk _ _ hg1).1.1
  exact ⟨σ1, l1, .rnil hT0 1 es none, by simpa using H2⟩
/-- A row of a pool that is there. -/
theorem clone_to (H : HRel P B w0 σ h w) {p : Nat} {rows : List Row} (hp : rowsAt h p = some rows) (h0 : argTypes[0]? = some st) (h1 : argTypes[1]? = some st) (hus : P.underlying st = some (.slice elem)) (hti : P.info? elem = some ti) (hz : ti.zero = some zv) (hzs : zv.cells.size = ti.size)
    (hs : sliceNow h s = some (n, cs)) (hlv : liveNow h s) (hc : cs.length = n.toNat * ti.size) (hone : cs.all Go.Ideal.oneCell = true) (hx : VRel σ s s') (hbig : n.toNat * (ti.bytes + 1) ≤ 1099511627776) (a0 : Option Addr) :
    ∃ σ' w' v', σ.le σ' ∧ (Builtin.append_ argTypes ty #[.slice a0 0 0, s']).run P w = .ok v' w' ∧ VRel σ' (rsl p (rows.length + 1) ti.size 0 n) v' ∧ HRel P B w0 σ' ((h.set p (.pool (rows ++ [.cells []]))).set p (.pool (rows ++ [.dead, .cells cs]))) w' := by
  obtain ⟨k, a', c', new', rfl, rfl, -, hnew, hrel⟩ := now_load H hs hlv hc hx
  simp only [Int.toNat_natCast] at hc hbig
  have hgp := rowsAt_get hp
  have lt := Heap.lt_of_get hgp
  obtain ⟨σ1, l1, H1, r1⟩ := Weak.rowNil (P := P) (i := 0) (es := ti.size) (ts := [vzc]) hgp (.inr rfl) B w0 σ w [.slice a0 0 0] H (.cons (FRel.vzc a0).vrel .nil)
  have r1 : VRel σ1 (rsl p rows.length ti.size 0 0) (.slice a0 0 0) := by cases r1 with | cons q _ => exact q
  have hg1 : (h.set p (.pool (rows ++ [.cells []]))).get p = some (.pool (rows ++ [.cells []])) := by rw [Heap.get_set lt, if_pos rfl]
  have hr1 : (rows ++ [Row.cells []])[rows.length]? = some (.cells []) := by simp
  obtain ⟨σ2, w2, v2, l2, run, rv, H2⟩ := pool_append (ty := ty) (n := 0) (k := k) (r := rows.length) (rows := rows ++ [.cells []]) (cs := []) H1 h0 h1 hus ⟨elem, hus⟩ hti hz hzs hg1 hr1 (asRs_rel rfl r1) (by simp) (fun w => by simp [Builtin.lenOf]) (by simpa using hbig) hnew (hrel.mono l1) hc (hrel.ones hone)
  exact ⟨σ2, w2, v2, Sg.le_trans l1 l2, run, by simpa using rv, by simpa [List.set_append] using H2⟩
theorem clone_toNil (H : HRel P B w0 σ h w) {p : Nat} {rows : List Row} (hp : rowsAt h p = some rows) (es : Nat) : ∃ σ', σ.le σ' ∧ VRel σ' (rsl p (rows.length + 1) es 0 0) (.slice none 0 0) ∧ HRel P B w0 σ' ((h.set p (.pool (rows ++ [.cells []]))).set p (.pool (rows ++ [.dead, .cells []]))) w := by
  have hgp := rowsAt_get hp
  have lt := Heap.lt_of_get hgp
  obtain ⟨σ1, l1, H1, r1⟩ := Weak.rowNil (P := P) (i := 0) (es := es) (ts := [vzc]) hgp (.inr rfl) B w0 σ w [.slice none 0 0] H (.cons (FRel.vzc none).vrel .nil)
  have hg1 : (h.set p (.pool (rows ++ [.cells []]))).get p = some (.pool (rows ++ [.cells []])) := by rw [Heap.get_set lt, if_pos rfl]
  have H2 := HRel.nextNil (r := rows.length) H1 hg1 (by simp)
  obtain ⟨x, hT0⟩ := (H1.blk _ _ hg1).1.1
  exact ⟨σ1, l1, .rnil hT0 (rows.length + 1) es none, by simpa [List.set_append] using H2⟩
end

/-- What a function that copies does: nothing of nothing; else append to a new slice of nothing. -/
def ClonesAs (P : Program) (f : FuncId) (st ty : TypeId) : Prop := ∀ (w : World) (s' : Value),
  (∀ k c, s' = .slice none k c → Calls P f #[s'] w fun e w' => e = .returned (.slice none 0 0) ∧ w' = w) ∧
  (∀ a k c, s' = .slice (some a) k c → ∃ (a0 : Option Addr) (w1 : World), Below w.heap.size w w1 ∧ ∀ v' w2, (Builtin.append_ #[st, st] ty #[.slice a0 0 0, s']).run P w1 = .ok v' w2 → Calls P f #[s'] w fun e w' => e = .returned v' ∧ w' = w2)
theorem one_argS {σ : Sg} {s : Value} {args' : Array Value} (h : LRel σ [s] args'.toList) : ∃ s', args' = #[s'] ∧ VRel σ s s' := by
  generalize hl : args'.toList = l at h
  cases h with
  | cons q t => cases t; exact ⟨_, Array.toList_inj.1 hl, q⟩
section
variable {f : FuncId} {h h2 : Heap} {st elem ty : TypeId} {ti : TypeInfo} {zv s v : Value} {n : Int} {cs : List Value}
theorem ClonesAs.new (hC : ClonesAs P f st ty) (hus : P.underlying st = some (.slice elem)) (hti : P.info? elem = some ti) (hz : ti.zero = some zv) (hzs : zv.cells.size = ti.size) (e : cloneNew ti.size [s] h = some (v, h2))
    (hs : sliceNow h s = some (n, cs)) (hlv : liveNow h s) (hc : cs.length = n.toNat * ti.size) (hone : cs.all Go.Ideal.oneCell = true) (hbig : n.toNat * (ti.bytes + 1) ≤ 1099511627776) : CallS P f [s] h fun v1 h1 => v1 = v ∧ h1 = h2 := fun B w0 σ w args' H ha => by
  obtain ⟨s', rfl, hx⟩ := one_argS ha
  obtain ⟨k, a', c', new', hn, es, hnil, _, _⟩ := now_load H hs hlv hc hx
  unfold cloneNew at e
  simp only [hs, Option.some.injEq, Prod.mk.injEq] at e
  obtain ⟨rfl, rfl⟩ := e
  cases a' with
  | none =>
    have hk : k = 0 := hnil rfl
    subst hk
    subst hn
    have hcs : cs = [] := List.length_eq_zero_iff.1 (by simpa using hc)
    subst hcs
    obtain ⟨σ1, l1, r1, H1⟩ := clone_newNil H ti.size
    exact ((hC w s').1 _ _ es).mono fun e w' ⟨q1, q2⟩ => ⟨_, _, _, q1, ⟨rfl, rfl⟩, σ1, l1, by simpa using r1, by rw [q2]; exact H1⟩
  | some a =>
    obtain ⟨a0, w1, hb, run⟩ := (hC w s').2 a k c' es
    obtain ⟨σ2, w2, v2, l2, rn, rv, H2⟩ := clone_new (ty := ty) (argTypes := #[st, st]) (H.goes hb) rfl rfl hus hti hz hzs hs hlv hc hone hx hbig a0
    exact (run _ _ rn).mono fun e w' ⟨q1, q2⟩ => ⟨_, _, _, q1, ⟨rfl, rfl⟩, σ2, l2, rv, by rw [q2]; exact H2⟩
theorem ClonesAs.last (hC : ClonesAs P f st ty) (hus : P.underlying st = some (.slice elem)) (hti : P.info? elem = some ti) (hz : ti.zero = some zv) (hzs : zv.cells.size = ti.size) (e : cloneTo ti.size [s] h = some (v, h2))
    (hs : sliceNow h s = some (n, cs)) (hlv : liveNow h s) (hc : cs.length = n.toNat * ti.size) (hone : cs.all Go.Ideal.oneCell = true) (hbig : n.toNat * (ti.bytes + 1) ≤ 1099511627776) : CallS P f [s] h fun v1 h1 => v1 = v ∧ h1 = h2 := fun B w0 σ w args' H ha => by
  obtain ⟨s', rfl, hx⟩ := one_argS ha
  obtain ⟨k, a', c', new', hn, es, hnil, _, _⟩ := now_load H hs hlv hc hx
  unfold cloneTo at e
  simp only [hs] at e
  split at e
  · rename_i n2 cs2 p he hp
    simp only [Option.some.injEq, Prod.mk.injEq] at he
    obtain ⟨rfl, rfl⟩ := he
    split at e
    · rename_i rows hr
      simp only [Option.some.injEq, Prod.mk.injEq] at e
      obtain ⟨rfl, rfl⟩ := e
      cases a' with
      | none =>
        have hk : k = 0 := hnil rfl
        subst hk
        subst hn
        have hcs : cs = [] := List.length_eq_zero_iff.1 (by simpa using hc)
        subst hcs
        obtain ⟨σ1, l1, r1, H1⟩ := clone_toNil H hr ti.size
        exact ((hC w s').1 _ _ es).mono fun e w' ⟨q1, q2⟩ => ⟨_, _, _, q1, ⟨rfl, rfl⟩, σ1, l1, by simpa using r1, by rw [q2]; exact H1⟩
      | some a =>
        obtain ⟨a0, w1, hb, run⟩ := (hC w s').2 a k c' es
        obtain ⟨σ2, w2, v2, l2, rn, rv, H2⟩ := clone_to (ty := ty) (argTypes := #[st, st]) (H.goes hb) hr rfl rfl hus hti hz hzs hs hlv hc hone hx hbig a0
        exact (run _ _ rn).mono fun e w' ⟨q1, q2⟩ => ⟨_, _, _, q1, ⟨rfl, rfl⟩, σ2, l2, rv, by rw [q2]; exact H2⟩
    · cases e
  · cases e
end
end Go.Ideal

end
