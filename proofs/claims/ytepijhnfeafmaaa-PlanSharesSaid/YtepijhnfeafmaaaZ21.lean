/- Texts packed together: CPlan CShare CWaitLaw CShareLaw CSharesRd CCycle. -/
import Derived.Test.YtepijhnfeafmaaaZ20
section
/- What the functions of plans answer. -/
set_option linter.unusedVariables false
set_option linter.unusedSimpArgs false
set_option maxRecDepth 100000
namespace Go.Proofs.Ytepijhnfeafmaaa
open Go Go.Ideal
def planL (l : List Nat) (q : Int) : List Value := [intsV l, .int .i64 q]
def planV (l : List Nat) (q : Int) : Value := vpt 0 (planL l q).toArray
/-- A label's place in a cycle; -1: it isn't there. -/
def placeI (l : List Nat) (x : Int) : Int := idxB l fun n : Nat => x == (n : Int)
theorem planNew_t (c : Conf) (i : Int) (hw : ConfOK c) (hl : c.labels.length ≤ 1000) (h : (((labelsC c i).length : Int) == 0) = true) : CallK Try.prog 28 [confV c, .int .i64 i] (.tuple (Array.mk [.pointer none, .int .i64 1])) := CallK.via progOK (pfs []) [] 100 (Adv.pur (7 : Nat) (Value.iface (nat_lit 1000000) (Value.tuple (Array.mk [Value.int IntKind.i64 (↑(List.length (labelsC c i)) : Int), Value.agg (Array.mk (intsL (labelsC c i)))]))) (Adv.split (13 : Nat) Adv.nil Adv.nil)) (by kernel_rfl) (by kernel_rfl) (p := CallK Try.prog (nat_lit 21) [Value.agg (Array.mk (confL c)), Value.int IntKind.i64 i] (Value.iface (nat_lit 1000000) (Value.tuple (Array.mk [Value.int IntKind.i64 (↑(List.length (labelsC c i)) : Int), Value.agg (Array.mk (intsL (labelsC c i)))]))) ∧ (((↑(List.length (labelsC c i)) : Int) == (0 : Int)) = true → Value.tuple (Array.mk [Value.pointer none, Value.int IntKind.i64 (1 : Int)]) = Value.tuple (Array.mk [Value.pointer none, Value.int IntKind.i64 (1 : Int)])) ∧ (((↑(List.length (labelsC c i)) : Int) == (0 : Int)) = false → Value.tuple (Array.mk [Value.pointer (some (Addr.mk (nat_lit 1) (nat_lit 0) none)), Value.int IntKind.i64 (0 : Int)]) = Value.tuple (Array.mk [Value.pointer none, Value.int IntKind.i64 (1 : Int)]))) (by kernel_rfl) (by
    exact ⟨labels_w c i hw hl, fun _ => rfl, fun h2 => by rw [h] at h2; cases h2⟩)
theorem planNew_f (c : Conf) (i : Int) (hw : ConfOK c) (hl : c.labels.length ≤ 1000) (h : (((labelsC c i).length : Int) == 0) = false) : CallK Try.prog 28 [confV c, .int .i64 i] (.tuple (Array.mk [planV (labelsC c i) c.quotas.queue, .int .i64 0])) := CallK.frz progOK (pfs []) [] 100 (Adv.pur (7 : Nat) (Value.iface (nat_lit 1000000) (Value.tuple (Array.mk [Value.int IntKind.i64 (↑(List.length (labelsC c i)) : Int), Value.agg (Array.mk (intsL (labelsC c i)))]))) (Adv.split (13 : Nat) Adv.nil Adv.nil)) (by kernel_rfl) (by kernel_rfl) (p := CallK Try.prog (nat_lit 21) [Value.agg (Array.mk (confL c)), Value.int IntKind.i64 i] (Value.iface (nat_lit 1000000) (Value.tuple (Array.mk [Value.int IntKind.i64 (↑(List.length (labelsC c i)) : Int), Value.agg (Array.mk (intsL (labelsC c i)))]))) ∧ (((↑(List.length (labelsC c i)) : Int) == (0 : Int)) = true → True ∧ Value.tuple (Array.mk [Value.pointer none, Value.int IntKind.i64 (1 : Int)]) = Value.tuple (Array.mk [planV (labelsC c i) (Quot.queue (Conf.quotas c)), Value.int IntKind.i64 (0 : Int)])) ∧ (((↑(List.length (labelsC c i)) : Int) == (0 : Int)) = false → True ∧ Value.tuple (Array.mk [Value.iface (nat_lit 1000001) (Value.tuple (Array.mk [Value.int IntKind.i64 (0 : Int), Value.agg (Array.mk [Value.iface (nat_lit 1000000) (Value.tuple (Array.mk [Value.int IntKind.i64 (↑(List.length (labelsC c i)) : Int), Value.agg (Array.mk (intsL (labelsC c i)))])), Value.int IntKind.i64 (Quot.queue (Conf.quotas c))])])), Value.int IntKind.i64 (0 : Int)]) = Value.tuple (Array.mk [planV (labelsC c i) (Quot.queue (Conf.quotas c)), Value.int IntKind.i64 (0 : Int)]))) (by kernel_rfl) (by
    exact ⟨labels_w c i hw hl, fun h2 => (by rw [h] at h2; cases h2), fun _ => ⟨trivial, rfl⟩⟩)
theorem planLen_w (l : List Nat) (q : Int) : CallK Try.prog 29 [planV l q] (.int .i64 l.length) := CallK.via progOK (pfs []) [] 100 (Adv.nil) (by kernel_rfl) (by kernel_rfl) (p := Value.int IntKind.i64 (↑(List.length l) : Int) = Value.int IntKind.i64 (↑(List.length l) : Int)) (by kernel_rfl) (by
    rfl)
theorem idxInt_w (l : List Nat) (x : Int) (hl : l.length ≤ 1000) : CallK Try.prog 126 [intsV l, .int .i64 x] (.int .i64 (placeI l x)) := CallK.via progOK (pfs []) [] 100 (Adv.loop (7 : Nat) (fun (k : Nat) => [((8 : Nat), Value.int IntKind.i64 (↑k : Int))]) ((fun (h : Heap) (x : Nat) => h) (Heap.mk (nat_lit 0) Trie.leaf)) (fun (i k : Nat) => i + k = List.length l ∧ ∀ (j : Nat), j < k → (x == (↑(List.getD l j (0 : Nat)) : Int)) = false) (List.length l) (0 : Nat) fun (i7 s7 : Nat) (j7 : Nat → Value) => Adv.split (9 : Nat) (Adv.chk (20 : Nat) none (Adv.chk (21 : Nat) (some (Value.int IntKind.i64 (↑(List.getD l s7 (0 : Nat)) : Int))) (Adv.split (22 : Nat) Adv.nil Adv.nil))) Adv.nil) (by kernel_rfl) (by kernel_rfl) (p := ((List.length l + (0 : Nat) = List.length l ∧ ∀ (j : Nat), j < (0 : Nat) → (x == (↑(List.getD l j (0 : Nat)) : Int)) = false) ∧ Value.int IntKind.i64 (0 : Int) = Value.int IntKind.i64 (0 : Int) ∧ Heap.mk (nat_lit 0) Trie.leaf = Heap.mk (nat_lit 0) Trie.leaf) ∧ ∀ (i7 s7 : Nat) (j7 : Nat → Value), (i7 + s7 = List.length l ∧ ∀ (j : Nat), j < s7 → (x == (↑(List.getD l j (0 : Nat)) : Int)) = false) → (decide ((↑s7 : Int) < (↑(List.length l) : Int)) = true → ((0 : Int) ≤ (↑s7 : Int) ∧ (↑s7 : Int) < (↑(List.length l) : Int)) ∧ Ask.holds Try.prog (Ask.part (Array.toList (Array.mk (intsL l))) (Int.toNat (↑(Int.toNat (↑s7 : Int) * nat_lit 1) : Int)) (nat_lit 1) [Value.int IntKind.i64 (↑(List.getD l s7 (0 : Nat)) : Int)]) ∧ ((x == (↑(List.getD l s7 (0 : Nat)) : Int)) = true → Value.int IntKind.i64 (↑s7 : Int) = Value.int IntKind.i64 (placeI l x)) ∧ ((x == (↑(List.getD l s7 (0 : Nat)) : Int)) = false → ∃ (i7' : Nat), ∃ (s7' : Nat), i7' < i7 ∧ (i7' + s7' = List.length l ∧ ∀ (j : Nat), j < s7' → (x == (↑(List.getD l j (0 : Nat)) : Int)) = false) ∧ Value.int IntKind.i64 (IntKind.wrap IntKind.i64 ((↑s7 : Int) + (1 : Int))) = Value.int IntKind.i64 (↑s7' : Int) ∧ True ∧ true = true ∧ True)) ∧ (decide ((↑s7 : Int) < (↑(List.length l) : Int)) = false → Value.int IntKind.i64 (-1 : Int) = Value.int IntKind.i64 (placeI l x))) (by kernel_rfl) (by
    refine ⟨⟨⟨by omega, fun j hj => by omega⟩, rfl, rfl⟩, fun i k j ⟨q1, q2⟩ => ⟨fun h1 => ?_, fun h1 => ?_⟩⟩
    · have hk : k < l.length := by have := of_decide_eq_true h1; omega
      exact ⟨⟨by omega, by omega⟩, ints_part hk rfl, fun h2 => congrArg (Value.int .i64) (idxB_some (d := 0) hk h2 q2).symm, fun h2 => ⟨i - 1, k + 1, by omega, ⟨by omega, lt_next q2 h2⟩, wrap_next k (by omega), trivial, rfl, trivial⟩⟩
    · have hk : k = l.length := by have := of_decide_eq_false h1; omega
      subst hk
      exact congrArg (Value.int .i64) (idxB_none (d := 0) q2).symm)
theorem place_w (l : List Nat) (x : Int) (hl : l.length ≤ 1000) : CallK Try.prog 119 [.agg (Array.mk [intsV l]), .int .i64 x] (.int .i64 (placeI l x)) := CallK.via progOK (pfs []) [] 100 (Adv.pur (7 : Nat) (Value.int IntKind.i64 (placeI l x)) Adv.nil) (by kernel_rfl) (by kernel_rfl) (p := CallK Try.prog (nat_lit 126) [Value.iface (nat_lit 1000000) (Value.tuple (Array.mk [Value.int IntKind.i64 (↑(List.length l) : Int), Value.agg (Array.mk (intsL l))])), Value.int IntKind.i64 x] (Value.int IntKind.i64 (placeI l x)) ∧ Value.int IntKind.i64 (placeI l x) = Value.int IntKind.i64 (placeI l x)) (by kernel_rfl) (by
    exact ⟨idxInt_w l x hl, rfl⟩)
def askedB (l : List Nat) (slot x place : Int) : Bool := decide (0 ≤ slot) && decide (0 ≤ place) && decide (place ≤ 1000000) && decide (0 ≤ placeI l x)
def askK (l : List Nat) (slot x place : Int) : Int := if slot < 0 ∨ place < 0 ∨ 1000000 < place then 0 else placeI l x
theorem asked_w (l : List Nat) (q slot x place : Int) (hl : l.length ≤ 1000) : CallK Try.prog 78 [planV l q, .int .i64 slot, .int .i64 x, .int .i64 place] (.tuple (Array.mk [.int .i64 (askK l slot x place), .bool (askedB l slot x place)])) := CallK.via progOK (pfs []) [] 100 (Adv.split (9 : Nat) Adv.nil (Adv.split (13 : Nat) Adv.nil (Adv.split (17 : Nat) Adv.nil (Adv.pur (26 : Nat) (Value.int IntKind.i64 (placeI l x)) (Adv.split (31 : Nat) Adv.nil Adv.nil))))) (by kernel_rfl) (by kernel_rfl) (p := (decide (slot < (0 : Int)) = true → Value.tuple (Array.mk [Value.int IntKind.i64 (0 : Int), Value.bool false]) = Value.tuple (Array.mk [Value.int IntKind.i64 (askK l slot x place), Value.bool (askedB l slot x place)])) ∧ (decide (slot < (0 : Int)) = false → (decide (place < (0 : Int)) = true → Value.tuple (Array.mk [Value.int IntKind.i64 (0 : Int), Value.bool false]) = Value.tuple (Array.mk [Value.int IntKind.i64 (askK l slot x place), Value.bool (askedB l slot x place)])) ∧ (decide (place < (0 : Int)) = false → (decide (place > (1000000 : Int)) = true → Value.tuple (Array.mk [Value.int IntKind.i64 (0 : Int), Value.bool false]) = Value.tuple (Array.mk [Value.int IntKind.i64 (askK l slot x place), Value.bool (askedB l slot x place)])) ∧ (decide (place > (1000000 : Int)) = false → CallK Try.prog (nat_lit 119) [Value.agg (Array.mk [Value.iface (nat_lit 1000000) (Value.tuple (Array.mk [Value.int IntKind.i64 (↑(List.length l) : Int), Value.agg (Array.mk (intsL l))]))]), Value.int IntKind.i64 x] (Value.int IntKind.i64 (placeI l x)) ∧ (decide (placeI l x ≥ (0 : Int)) = true → Value.tuple (Array.mk [Value.int IntKind.i64 (placeI l x), Value.bool true]) = Value.tuple (Array.mk [Value.int IntKind.i64 (askK l slot x place), Value.bool (askedB l slot x place)])) ∧ (decide (placeI l x ≥ (0 : Int)) = false → Value.tuple (Array.mk [Value.int IntKind.i64 (placeI l x), Value.bool false]) = Value.tuple (Array.mk [Value.int IntKind.i64 (askK l slot x place), Value.bool (askedB l slot x place)])))))) (by kernel_rfl) (by
    simp only [Value.tuple.injEq, Array.mk.injEq, List.cons.injEq, Value.int.injEq, Value.bool.injEq, and_true, true_and]
    repeat' (first | exact place_w _ _ hl | rfl | apply And.intro | intro)
    all_goals grind [askK, askedB])
/-- How far it is from a place to another one, in a cycle. -/
def gapI (n k at_ : Int) : Int := if at_ ≤ k then k - at_ else k - at_ + n
theorem gap_tmod {n k m : Int} (h0 : 0 ≤ k) (h1 : k < n) (h2 : 0 ≤ m) (h3 : m < n) : (k - m + n).tmod n = gapI n k m := by
  rw [Int.tmod_eq_emod_of_nonneg (by omega)]
  unfold gapI
  split
  · rw [Int.add_emod_right, Int.emod_eq_of_lt (by omega) (by omega)]
  · rw [Int.emod_eq_of_lt (by omega) (by omega)]
theorem tmod_range {n s : Int} (h0 : 0 ≤ s) (hn : 0 < n) : 0 ≤ s.tmod n ∧ s.tmod n < n := by
  rw [Int.tmod_eq_emod_of_nonneg h0]
  exact ⟨Int.emod_nonneg _ (by omega), Int.emod_lt_of_pos _ hn⟩
theorem place_lt {l : List Nat} {x : Int} (h : 0 ≤ placeI l x) : placeI l x < l.length := by
  rcases idxB_cases l (fun n : Nat => x == (n : Int)) 0 with ⟨k, hk, e, _⟩ | ⟨e, _⟩
  · unfold placeI; rw [e]; omega
  · unfold placeI at h; rw [e] at h; omega
/-- A frame's wait. -/
def waitI (n k at_ place : Int) : Int := gapI n k at_ + place * n + 1
def waitW (l : List Nat) (slot x place : Int) : Int := if askedB l slot x place = true then waitI l.length (placeI l x) (slot.tmod l.length) place else 0
theorem asked_all {l : List Nat} {slot x place : Int} (h : askedB l slot x place = true) : 0 ≤ slot ∧ 0 ≤ place ∧ place ≤ 1000000 ∧ 0 ≤ placeI l x := by
  simp only [askedB, Bool.and_eq_true, decide_eq_true_eq] at h; omega
theorem wait_w (l : List Nat) (q slot x place : Int) (h0 : 0 < l.length) (hl : l.length ≤ 1000) : CallK Try.prog 30 [planV l q, .int .i64 slot, .int .i64 x, .int .i64 place] (.tuple (Array.mk [.int .i64 (waitW l slot x place), .bool (askedB l slot x place)])) := CallK.via progOK (pfs []) [] 100 (Adv.pur (8 : Nat) (Value.tuple (Array.mk [Value.int IntKind.i64 (askK l slot x place), Value.bool (askedB l slot x place)])) (Adv.split (11 : Nat) (Adv.chk (31 : Nat) none (Adv.chk (36 : Nat) none Adv.nil)) Adv.nil)) (by kernel_rfl) (by kernel_rfl) (p := CallK Try.prog (nat_lit 78) [Value.iface (nat_lit 1000001) (Value.tuple (Array.mk [Value.int IntKind.i64 (0 : Int), Value.agg (Array.mk [Value.iface (nat_lit 1000000) (Value.tuple (Array.mk [Value.int IntKind.i64 (↑(List.length l) : Int), Value.agg (Array.mk (intsL l))])), Value.int IntKind.i64 q])])), Value.int IntKind.i64 slot, Value.int IntKind.i64 x, Value.int IntKind.i64 place] (Value.tuple (Array.mk [Value.int IntKind.i64 (askK l slot x place), Value.bool (askedB l slot x place)])) ∧ (askedB l slot x place = true → (↑(List.length l) : Int) ≠ (0 : Int) ∧ (↑(List.length l) : Int) ≠ (0 : Int) ∧ Value.tuple (Array.mk [Value.int IntKind.i64 (IntKind.wrap IntKind.i64 (IntKind.wrap IntKind.i64 (Int.tmod (IntKind.wrap IntKind.i64 (IntKind.wrap IntKind.i64 (askK l slot x place - Int.tmod slot (↑(List.length l) : Int)) + (↑(List.length l) : Int))) (↑(List.length l) : Int) + IntKind.wrap IntKind.i64 (place * (↑(List.length l) : Int))) + (1 : Int))), Value.bool true]) = Value.tuple (Array.mk [Value.int IntKind.i64 (waitW l slot x place), Value.bool (askedB l slot x place)])) ∧ (askedB l slot x place = false → Value.tuple (Array.mk [Value.int IntKind.i64 (0 : Int), Value.bool false]) = Value.tuple (Array.mk [Value.int IntKind.i64 (waitW l slot x place), Value.bool (askedB l slot x place)]))) (by kernel_rfl) (by
    refine ⟨asked_w _ _ _ _ _ hl, fun h => ⟨by omega, by omega, ?_⟩, fun h => ?_⟩
    · obtain ⟨a1, a2, a3, a4⟩ := asked_all h
      have hp := place_lt a4
      obtain ⟨m1, m2⟩ := tmod_range (n := (l.length : Int)) a1 (by omega)
      have e : askK l slot x place = placeI l x := by unfold askK; rw [if_neg (by omega)]
      have b1 : place * (l.length : Int) ≤ 1099511627776 := mul_room 1000000 1000 a3 (by omega) (by omega) (by decide) (by decide)
      have b0 : 0 ≤ place * (l.length : Int) := Int.mul_nonneg a2 (by omega)
      have g : 0 ≤ gapI l.length (placeI l x) (slot.tmod l.length) ∧ gapI l.length (placeI l x) (slot.tmod l.length) < l.length := by unfold gapI; split <;> omega
      rw [e, wrap_in (n := placeI l x - _) (by omega) (by omega), wrap_in (n := placeI l x - _ + _) (by omega) (by omega), gap_tmod a4 hp m1 m2, wrap_in (n := place * _) (by omega) (by omega), wrap_in (n := gapI _ _ _ + _) (by omega) (by omega), wrap_in (by omega) (by omega), h]
      unfold waitW; rw [if_pos h]; rfl
    · rw [h]; unfold waitW; rw [if_neg (by rw [h]; decide)])
theorem whose_w (l : List Nat) (q slot : Int) (h0 : 0 < l.length) (hl : l.length ≤ 1000) : CallK Try.prog 32 [planV l q, .int .i64 slot] (.int .i64 (if slot < 0 then -1 else (l.getD (slot.tmod l.length).toNat 0 : Nat))) := CallK.via progOK (pfs []) [] 100 (Adv.split (8 : Nat) Adv.nil (Adv.chk (24 : Nat) none (Adv.chk (25 : Nat) none (Adv.chk (26 : Nat) (some (Value.int IntKind.i64 (↑(List.getD l (Int.toNat (Int.tmod slot (↑(List.length l) : Int))) (0 : Nat)) : Int))) Adv.nil)))) (by kernel_rfl) (by kernel_rfl) (p := (decide (slot < (0 : Int)) = true → Value.int IntKind.i64 (-1 : Int) = Value.int IntKind.i64 (if slot < (0 : Int) then (-1 : Int) else (↑(List.getD l (Int.toNat (Int.tmod slot (↑(List.length l) : Int))) (0 : Nat)) : Int))) ∧ (decide (slot < (0 : Int)) = false → (↑(List.length l) : Int) ≠ (0 : Int) ∧ ((0 : Int) ≤ Int.tmod slot (↑(List.length l) : Int) ∧ Int.tmod slot (↑(List.length l) : Int) < (↑(List.length l) : Int)) ∧ Ask.holds Try.prog (Ask.part (Array.toList (Array.mk (intsL l))) (Int.toNat (↑(Int.toNat (Int.tmod slot (↑(List.length l) : Int)) * nat_lit 1) : Int)) (nat_lit 1) [Value.int IntKind.i64 (↑(List.getD l (Int.toNat (Int.tmod slot (↑(List.length l) : Int))) (0 : Nat)) : Int)]) ∧ Value.int IntKind.i64 (↑(List.getD l (Int.toNat (Int.tmod slot (↑(List.length l) : Int))) (0 : Nat)) : Int) = Value.int IntKind.i64 (if slot < (0 : Int) then (-1 : Int) else (↑(List.getD l (Int.toNat (Int.tmod slot (↑(List.length l) : Int))) (0 : Nat)) : Int)))) (by kernel_rfl) (by
    refine ⟨fun h => (by rw [if_pos (of_decide_eq_true h)]), fun h => ?_⟩
    have h1 := of_decide_eq_false h
    obtain ⟨m1, m2⟩ := tmod_range (n := (l.length : Int)) (s := slot) (by omega) (by omega)
    exact ⟨by omega, ⟨m1, m2⟩, ints_part (by omega) rfl, by rw [if_neg h1]⟩)
theorem asked_slot {l : List Nat} {s x place : Int} (hs : 0 ≤ s) : askedB l s x place = askedB l 0 x place := by
  unfold askedB; rw [decide_eq_true hs, decide_eq_true (Int.le_refl 0)]
theorem wait_slot {l : List Nat} {x place : Int} {j : Nat} (hj : j < l.length) (h : askedB l 0 x place = true) : waitW l j x place = gapI l.length (placeI l x) j + place * l.length + 1 := by
  unfold waitW; rw [if_pos (by rw [asked_slot (by omega)]; exact h), Int.tmod_eq_of_lt (by omega) (by omega)]; rfl
theorem wait_le {l : List Nat} {x place : Int} {j : Nat} (hj : j < l.length) (h : askedB l 0 x place = true) : waitW l j x place ≤ (place + 1) * l.length := by
  obtain ⟨a1, a2, a3, a4⟩ := asked_all h
  have hp := place_lt a4
  rw [wait_slot hj h, Int.add_mul]
  have : gapI l.length (placeI l x) j < l.length := by unfold gapI; split <;> omega
  omega
theorem wait_most {l : List Nat} {x place : Int} (h : askedB l 0 x place = true) : ∃ j : Nat, j < l.length ∧ waitW l j x place = (place + 1) * l.length := by
  obtain ⟨a1, a2, a3, a4⟩ := asked_all h
  have hp := place_lt a4
  by_cases hk : placeI l x + 1 < l.length
  · refine ⟨(placeI l x + 1).toNat, by omega, ?_⟩
    rw [wait_slot (by omega) h, Int.add_mul]
    have : gapI l.length (placeI l x) ((placeI l x + 1).toNat : Nat) = l.length - 1 := by unfold gapI; rw [if_neg (by omega)]; omega
    omega
  · refine ⟨0, by omega, ?_⟩
    rw [wait_slot (by omega) h, Int.add_mul]
    have : gapI l.length (placeI l x) ((0 : Nat) : Int) = l.length - 1 := by unfold gapI; rw [if_pos (by omega)]; omega
    omega
theorem worst_w (l : List Nat) (q x place : Int) (h0 : 0 < l.length) (hl : l.length ≤ 1000) : CallK Try.prog 31 [planV l q, .int .i64 x, .int .i64 place] (.tuple (Array.mk [.int .i64 (if askedB l 0 x place = true then (place + 1) * l.length else 0), .bool (askedB l 0 x place)])) := CallK.via progOK (pfs []) [] 100 (Adv.pur (8 : Nat) (Value.int IntKind.i64 (↑(List.length l) : Int)) (Adv.loop (10 : Nat) (fun (s : Nat × Int) => [((14 : Nat), Value.int IntKind.i64 (↑(Prod.fst s) : Int)), ((8 : Nat), Value.int IntKind.i64 (Prod.snd s))]) ((fun (h : Heap) (x : Nat × Int) => h) (Heap.mk (nat_lit 0) Trie.leaf)) (fun (i : Nat) (s : Nat × Int) => i + Prod.fst s = List.length l ∧ (Prod.fst s = (0 : Nat) → Prod.snd s = (0 : Int)) ∧ (Prod.fst s ≠ (0 : Nat) → askedB l (0 : Int) x place = true) ∧ (∀ (j : Nat), j < Prod.fst s → waitW l (↑j : Int) x place ≤ Prod.snd s) ∧ (Prod.snd s = (0 : Int) ∨ ∃ (j : Nat), j < Prod.fst s ∧ Prod.snd s = waitW l (↑j : Int) x place)) (List.length l) ((0 : Nat), (0 : Int)) fun (i10 : Nat) (s10 : Nat × Int) (j10 : Nat → Value) => Adv.split (12 : Nat) (Adv.pur (24 : Nat) (Value.tuple (Array.mk [Value.int IntKind.i64 (waitW l (↑(Prod.fst s10) : Int) x place), Value.bool (askedB l (↑(Prod.fst s10) : Int) x place)])) (Adv.split (27 : Nat) Adv.nil Adv.nil)) Adv.nil)) (by kernel_rfl) (by kernel_rfl) (p := CallK Try.prog (nat_lit 29) [Value.iface (nat_lit 1000001) (Value.tuple (Array.mk [Value.int IntKind.i64 (0 : Int), Value.agg (Array.mk [Value.iface (nat_lit 1000000) (Value.tuple (Array.mk [Value.int IntKind.i64 (↑(List.length l) : Int), Value.agg (Array.mk (intsL l))])), Value.int IntKind.i64 q])]))] (Value.int IntKind.i64 (↑(List.length l) : Int)) ∧ ((List.length l + Prod.fst ((0 : Nat), (0 : Int)) = List.length l ∧ (Prod.fst ((0 : Nat), (0 : Int)) = (0 : Nat) → Prod.snd ((0 : Nat), (0 : Int)) = (0 : Int)) ∧ (Prod.fst ((0 : Nat), (0 : Int)) ≠ (0 : Nat) → askedB l (0 : Int) x place = true) ∧ (∀ (j : Nat), j < Prod.fst ((0 : Nat), (0 : Int)) → waitW l (↑j : Int) x place ≤ Prod.snd ((0 : Nat), (0 : Int))) ∧ (Prod.snd ((0 : Nat), (0 : Int)) = (0 : Int) ∨ ∃ (j : Nat), j < Prod.fst ((0 : Nat), (0 : Int)) ∧ Prod.snd ((0 : Nat), (0 : Int)) = waitW l (↑j : Int) x place)) ∧ (Value.int IntKind.i64 (0 : Int) = Value.int IntKind.i64 (0 : Int) ∧ Value.int IntKind.i64 (0 : Int) = Value.int IntKind.i64 (0 : Int)) ∧ Heap.mk (nat_lit 0) Trie.leaf = Heap.mk (nat_lit 0) Trie.leaf) ∧ ∀ (i10 : Nat) (s10 : Nat × Int) (j10 : Nat → Value), i10 + Prod.fst s10 = List.length l ∧ (Prod.fst s10 = (0 : Nat) → Prod.snd s10 = (0 : Int)) ∧ (Prod.fst s10 ≠ (0 : Nat) → askedB l (0 : Int) x place = true) ∧ (∀ (j : Nat), j < Prod.fst s10 → waitW l (↑j : Int) x place ≤ Prod.snd s10) ∧ (Prod.snd s10 = (0 : Int) ∨ ∃ (j : Nat), j < Prod.fst s10 ∧ Prod.snd s10 = waitW l (↑j : Int) x place) → (decide ((↑(Prod.fst s10) : Int) < (↑(List.length l) : Int)) = true → CallK Try.prog (nat_lit 30) [Value.iface (nat_lit 1000001) (Value.tuple (Array.mk [Value.int IntKind.i64 (0 : Int), Value.agg (Array.mk [Value.iface (nat_lit 1000000) (Value.tuple (Array.mk [Value.int IntKind.i64 (↑(List.length l) : Int), Value.agg (Array.mk (intsL l))])), Value.int IntKind.i64 q])])), Value.int IntKind.i64 (↑(Prod.fst s10) : Int), Value.int IntKind.i64 x, Value.int IntKind.i64 place] (Value.tuple (Array.mk [Value.int IntKind.i64 (waitW l (↑(Prod.fst s10) : Int) x place), Value.bool (askedB l (↑(Prod.fst s10) : Int) x place)])) ∧ (askedB l (↑(Prod.fst s10) : Int) x place = true → ∃ (i10' : Nat), ∃ (s10' : Nat × Int), i10' < i10 ∧ (i10' + Prod.fst s10' = List.length l ∧ (Prod.fst s10' = (0 : Nat) → Prod.snd s10' = (0 : Int)) ∧ (Prod.fst s10' ≠ (0 : Nat) → askedB l (0 : Int) x place = true) ∧ (∀ (j : Nat), j < Prod.fst s10' → waitW l (↑j : Int) x place ≤ Prod.snd s10') ∧ (Prod.snd s10' = (0 : Int) ∨ ∃ (j : Nat), j < Prod.fst s10' ∧ Prod.snd s10' = waitW l (↑j : Int) x place)) ∧ (Value.int IntKind.i64 (IntKind.wrap IntKind.i64 ((↑(Prod.fst s10) : Int) + (1 : Int))) = Value.int IntKind.i64 (↑(Prod.fst s10') : Int) ∧ Value.int IntKind.i64 (if waitW l (↑(Prod.fst s10) : Int) x place > Prod.snd s10 then waitW l (↑(Prod.fst s10) : Int) x place else Prod.snd s10) = Value.int IntKind.i64 (Prod.snd s10')) ∧ True ∧ true = true ∧ True) ∧ (askedB l (↑(Prod.fst s10) : Int) x place = false → Value.tuple (Array.mk [Value.int IntKind.i64 (0 : Int), Value.bool false]) = Value.tuple (Array.mk [Value.int IntKind.i64 (if askedB l (0 : Int) x place = true then (place + (1 : Int)) * (↑(List.length l) : Int) else (0 : Int)), Value.bool (askedB l (0 : Int) x place)]))) ∧ (decide ((↑(Prod.fst s10) : Int) < (↑(List.length l) : Int)) = false → Value.tuple (Array.mk [Value.int IntKind.i64 (Prod.snd s10), Value.bool true]) = Value.tuple (Array.mk [Value.int IntKind.i64 (if askedB l (0 : Int) x place = true then (place + (1 : Int)) * (↑(List.length l) : Int) else (0 : Int)), Value.bool (askedB l (0 : Int) x place)]))) (by kernel_rfl) (by
    refine ⟨planLen_w l q, ⟨⟨by omega, fun _ => rfl, fun h => absurd rfl h, fun j hj => absurd hj (Nat.not_lt_zero j), .inl rfl⟩, ⟨rfl, rfl⟩, rfl⟩, fun i s j ⟨q1, q2, q3, q4, q5⟩ => ⟨fun h1 => ?_, fun h1 => ?_⟩⟩
    · have hk : s.1 < l.length := by have := of_decide_eq_true h1; omega
      refine ⟨wait_w l q _ _ _ h0 hl, fun h2 => ?_, fun h2 => ?_⟩
      · rw [asked_slot (by omega)] at h2
        refine ⟨i - 1, (s.1 + 1, if waitW l (s.1 : Nat) x place > s.2 then waitW l (s.1 : Nat) x place else s.2), by omega, ⟨by show i - 1 + (s.1 + 1) = _; omega, fun h => absurd h (Nat.succ_ne_zero _), fun _ => h2, fun j hj => ?_, ?_⟩, ⟨wrap_next s.1 (by omega), rfl⟩, trivial, rfl, trivial⟩
        · dsimp only
          have hj' : j < s.1 + 1 := hj
          rcases Nat.lt_or_ge j s.1 with h3 | h3
          · have := q4 j h3; split <;> omega
          · obtain rfl : j = s.1 := by omega
            split <;> omega
        · dsimp only
          split
          · exact .inr ⟨s.1, Nat.lt_succ_self _, rfl⟩
          · rcases q5 with h3 | ⟨j, h3, h4⟩
            · exact .inl h3
            · exact .inr ⟨j, by omega, h4⟩
      · rw [asked_slot (by omega)] at h2
        rw [h2]; rfl
    · have hk : s.1 = l.length := by have := of_decide_eq_false h1; omega
      have ha := q3 (by omega)
      obtain ⟨a1, a2, a3, a4⟩ := asked_all ha
      obtain ⟨j, hj, e⟩ := wait_most ha
      have hb := q4 j (by omega)
      have hpos : 0 < (place + 1) * (l.length : Int) := Int.mul_pos (by omega) (by omega)
      have : s.2 = (place + 1) * l.length := by
        rcases q5 with h3 | ⟨j2, h3, h4⟩
        · omega
        · have := wait_le (l := l) (x := x) (place := place) (j := j2) (by omega) ha; omega
      rw [ha, if_pos rfl, this])
theorem wait_t (l : List Nat) (q slot x place : Int) (h0 : 0 < l.length) (hl : l.length ≤ 1000) (h : askedB l slot x place = true) : CallK Try.prog 30 [planV l q, .int .i64 slot, .int .i64 x, .int .i64 place] (.tuple (Array.mk [.int .i64 (waitI l.length (placeI l x) (slot.tmod l.length) place), .bool true])) := by
  have e := wait_w l q slot x place h0 hl
  unfold waitW at e; rw [if_pos h, h] at e; exact e
theorem wait_f (l : List Nat) (q slot x place : Int) (h0 : 0 < l.length) (hl : l.length ≤ 1000) (h : askedB l slot x place = false) : CallK Try.prog 30 [planV l q, .int .i64 slot, .int .i64 x, .int .i64 place] (.tuple (Array.mk [.int .i64 0, .bool false])) := by
  have e := wait_w l q slot x place h0 hl
  unfold waitW at e; rw [if_neg (by rw [h]; decide), h] at e; exact e
theorem worst_t (l : List Nat) (q x place : Int) (h0 : 0 < l.length) (hl : l.length ≤ 1000) (h : askedB l 0 x place = true) : CallK Try.prog 31 [planV l q, .int .i64 x, .int .i64 place] (.tuple (Array.mk [.int .i64 ((place + 1) * l.length), .bool true])) := by
  have e := worst_w l q x place h0 hl
  rw [if_pos h, h] at e; exact e
theorem worst_f (l : List Nat) (q x place : Int) (h0 : 0 < l.length) (hl : l.length ≤ 1000) (h : askedB l 0 x place = false) : CallK Try.prog 31 [planV l q, .int .i64 x, .int .i64 place] (.tuple (Array.mk [.int .i64 0, .bool false])) := by
  have e := worst_w l q x place h0 hl
  rw [if_neg (by rw [h]; decide), h] at e; exact e
end Go.Proofs.Ytepijhnfeafmaaa

end
section
/- What the functions of plans answer: shares, room, how many slots till all is empty. -/
set_option linter.unusedVariables false
set_option linter.unusedSimpArgs false
set_option maxRecDepth 100000
namespace Go.Proofs.Ytepijhnfeafmaaa
open Go Go.Ideal
def shareI (l : List Nat) (x slots : Int) : Int := if askedB l 0 x 0 = true ∧ 0 ≤ slots then slots.tdiv l.length + (if placeI l x < slots.tmod l.length then 1 else 0) else 0
theorem share_w (l : List Nat) (q x slots : Int) (h0 : 0 < l.length) (hl : l.length ≤ 1000) (hs : slots ≤ 100000) : CallK Try.prog 34 [planV l q, .int .i64 x, .int .i64 slots] (.int .i64 (shareI l x slots)) := CallK.via progOK (pfs []) [] 100 (Adv.pur (5 : Nat) (Value.tuple (Array.mk [Value.int IntKind.i64 (askK l (0 : Int) x (0 : Int)), Value.bool (askedB l (0 : Int) x (0 : Int))])) (Adv.split (8 : Nat) (Adv.split (17 : Nat) Adv.nil (Adv.chk (31 : Nat) none (Adv.chk (37 : Nat) none (Adv.split (39 : Nat) Adv.nil Adv.nil)))) Adv.nil)) (by kernel_rfl) (by kernel_rfl) (p := CallK Try.prog (nat_lit 78) [Value.iface (nat_lit 1000001) (Value.tuple (Array.mk [Value.int IntKind.i64 (0 : Int), Value.agg (Array.mk [Value.iface (nat_lit 1000000) (Value.tuple (Array.mk [Value.int IntKind.i64 (↑(List.length l) : Int), Value.agg (Array.mk (intsL l))])), Value.int IntKind.i64 q])])), Value.int IntKind.i64 (0 : Int), Value.int IntKind.i64 x, Value.int IntKind.i64 (0 : Int)] (Value.tuple (Array.mk [Value.int IntKind.i64 (askK l (0 : Int) x (0 : Int)), Value.bool (askedB l (0 : Int) x (0 : Int))])) ∧ (askedB l (0 : Int) x (0 : Int) = true → (decide (slots < (0 : Int)) = true → Value.int IntKind.i64 (0 : Int) = Value.int IntKind.i64 (shareI l x slots)) ∧ (decide (slots < (0 : Int)) = false → (↑(List.length l) : Int) ≠ (0 : Int) ∧ (↑(List.length l) : Int) ≠ (0 : Int) ∧ (decide (Int.tmod slots (↑(List.length l) : Int) > askK l (0 : Int) x (0 : Int)) = true → Value.int IntKind.i64 (IntKind.wrap IntKind.i64 (IntKind.wrap IntKind.i64 (Int.tdiv slots (↑(List.length l) : Int)) + (1 : Int))) = Value.int IntKind.i64 (shareI l x slots)) ∧ (decide (Int.tmod slots (↑(List.length l) : Int) > askK l (0 : Int) x (0 : Int)) = false → Value.int IntKind.i64 (IntKind.wrap IntKind.i64 (Int.tdiv slots (↑(List.length l) : Int))) = Value.int IntKind.i64 (shareI l x slots)))) ∧ (askedB l (0 : Int) x (0 : Int) = false → Value.int IntKind.i64 (0 : Int) = Value.int IntKind.i64 (shareI l x slots))) (by kernel_rfl) (by
    refine ⟨asked_w _ _ _ _ _ hl, fun h => ⟨fun h1 => ?_, fun h1 => ?_⟩, fun h => ?_⟩
    · have := of_decide_eq_true h1
      unfold shareI; rw [if_neg (by omega)]
    · have h2 := of_decide_eq_false h1
      obtain ⟨a1, a2, a3, a4⟩ := asked_all h
      have e : askK l 0 x 0 = placeI l x := by unfold askK; rw [if_neg (by omega)]
      have d0 : 0 ≤ slots.tdiv l.length := Int.tdiv_nonneg (by omega) (by omega)
      have d1 : slots.tdiv l.length ≤ slots := by rw [Int.tdiv_eq_ediv_of_nonneg (by omega)]; exact Int.ediv_le_self _ (by omega)
      refine ⟨by omega, by omega, fun h3 => ?_, fun h3 => ?_⟩
      · rw [e] at h3
        have := of_decide_eq_true h3
        rw [wrap_in (n := slots.tdiv _) (by omega) (by omega), wrap_in (by omega) (by omega)]
        unfold shareI; rw [if_pos ⟨h, by omega⟩, if_pos (by omega)]
      · rw [e] at h3
        have := of_decide_eq_false h3
        rw [wrap_in (n := slots.tdiv _) (by omega) (by omega)]
        unfold shareI; rw [if_pos ⟨h, by omega⟩, if_neg (by omega), Int.add_zero]
    · unfold shareI; rw [if_neg (by rw [h]; simp)])
theorem room_w (l : List Nat) (q : Int) : CallK Try.prog 35 [planV l q] (.int .i64 (IntKind.i64.wrap (q * l.length))) := CallK.via progOK (pfs []) [] 100 (Adv.nil) (by kernel_rfl) (by kernel_rfl) (p := Value.int IntKind.i64 (IntKind.wrap IntKind.i64 (q * (↑(List.length l) : Int))) = Value.int IntKind.i64 (IntKind.wrap IntKind.i64 (q * (↑(List.length l) : Int)))) (by kernel_rfl) (by
    rfl)
def iz1 (n : Int) : List Value := [.int .i64 n]
theorem iz1_length (n : Int) : (iz1 n).length = 1 := rfl
def izL (l : List Int) : List Value := cellsOf iz1 l
def izV (l : List Int) : Value := vsl l.length (izL l).toArray
theorem izL_length (l : List Int) : (izL l).length = l.length := (cellsOf_length iz1_length l).trans (Nat.mul_one _)
theorem iz_part {l : List Int} {k : Nat} (hk : k < l.length) {o : Nat} (ho : o = k * 1 + 0) : (Ask.part (izL l) o 1 [.int .i64 (l.getD k 0)]).holds Try.prog := by
  subst ho; exact cellsOf_part (P := Try.prog) (f := iz1) iz1_length 0 hk 0 1 (by omega) _ rfl
def badN (n : Int) : Bool := decide (n < 0) || decide (n > 1000000)
def anyBad (l : List Int) : Bool := l.any badN
theorem drainBad_w (n : Int) : CallK Try.prog 80 [.int .i64 n] (.bool (badN n)) := CallK.via progOK (pfs []) [] 100 (Adv.split (4 : Nat) Adv.nil (Adv.split (7 : Nat) Adv.nil Adv.nil)) (by kernel_rfl) (by kernel_rfl) (p := (decide (n < (0 : Int)) = true → Value.bool true = Value.bool (badN n)) ∧ (decide (n < (0 : Int)) = false → (decide (n > (1000000 : Int)) = true → Value.bool true = Value.bool (badN n)) ∧ (decide (n > (1000000 : Int)) = false → Value.bool false = Value.bool (badN n)))) (by kernel_rfl) (by
    refine ⟨fun h => ?_, fun h => ⟨fun h2 => ?_, fun h2 => ?_⟩⟩
    · unfold badN; rw [h]; rfl
    · unfold badN; rw [h, h2]; rfl
    · unfold badN; rw [h, h2]; rfl)
theorem contInt_w (l : List Int) (hl : l.length ≤ 1000) : CallK Try.prog 79 [izV l, .func (.func 80) #[] #[]] (.bool (anyBad l)) := CallK.via progOK (pfs []) [] 100 (Adv.loop (13 : Nat) (fun (k : Nat) => [((8 : Nat), Value.int IntKind.i64 (↑k : Int))]) ((fun (h : Heap) (x : Nat) => h) (Heap.mk (nat_lit 0) Trie.leaf)) (fun (i k : Nat) => i + k = List.length l ∧ ∀ (j : Nat), j < k → badN (List.getD l j (0 : Int)) = false) (List.length l) (0 : Nat) fun (i13 s13 : Nat) (j13 : Nat → Value) => Adv.split (15 : Nat) (Adv.chk (26 : Nat) none (Adv.chk (27 : Nat) (some (Value.int IntKind.i64 (List.getD l s13 (0 : Int)))) (Adv.purs (28 : Nat) (badN (List.getD l s13 (0 : Int))) Adv.nil Adv.nil))) Adv.nil) (by kernel_rfl) (by kernel_rfl) (p := ((List.length l + (0 : Nat) = List.length l ∧ ∀ (j : Nat), j < (0 : Nat) → badN (List.getD l j (0 : Int)) = false) ∧ Value.int IntKind.i64 (0 : Int) = Value.int IntKind.i64 (0 : Int) ∧ Heap.mk (nat_lit 0) Trie.leaf = Heap.mk (nat_lit 0) Trie.leaf) ∧ ∀ (i13 s13 : Nat) (j13 : Nat → Value), (i13 + s13 = List.length l ∧ ∀ (j : Nat), j < s13 → badN (List.getD l j (0 : Int)) = false) → (decide ((↑s13 : Int) < (↑(List.length l) : Int)) = true → ((0 : Int) ≤ (↑s13 : Int) ∧ (↑s13 : Int) < (↑(List.length l) : Int)) ∧ Ask.holds Try.prog (Ask.part (Array.toList (Array.mk (izL l))) (Int.toNat (↑(Int.toNat (↑s13 : Int) * nat_lit 1) : Int)) (nat_lit 1) [Value.int IntKind.i64 (List.getD l s13 (0 : Int))]) ∧ CallK Try.prog (nat_lit 80) [Value.int IntKind.i64 (List.getD l s13 (0 : Int))] (Value.bool (badN (List.getD l s13 (0 : Int)))) ∧ (badN (List.getD l s13 (0 : Int)) = true → Value.bool true = Value.bool (anyBad l)) ∧ (badN (List.getD l s13 (0 : Int)) = false → ∃ (i13' : Nat), ∃ (s13' : Nat), i13' < i13 ∧ (i13' + s13' = List.length l ∧ ∀ (j : Nat), j < s13' → badN (List.getD l j (0 : Int)) = false) ∧ Value.int IntKind.i64 (IntKind.wrap IntKind.i64 ((↑s13 : Int) + (1 : Int))) = Value.int IntKind.i64 (↑s13' : Int) ∧ True ∧ true = true ∧ True)) ∧ (decide ((↑s13 : Int) < (↑(List.length l) : Int)) = false → Value.bool false = Value.bool (anyBad l))) (by kernel_rfl) (by
    refine ⟨⟨⟨by omega, fun j hj => absurd hj (Nat.not_lt_zero j)⟩, rfl, rfl⟩, fun i k j ⟨q1, q2⟩ => ⟨fun h1 => ?_, fun h1 => ?_⟩⟩
    · have hk : k < l.length := by have := of_decide_eq_true h1; omega
      exact ⟨⟨by omega, by omega⟩, iz_part hk rfl, drainBad_w _, fun h2 => congrArg Value.bool (anyB_true (d := 0) hk h2).symm, fun h2 => ⟨i - 1, k + 1, by omega, ⟨by omega, lt_next q2 h2⟩, wrap_next k (by omega), trivial, rfl, trivial⟩⟩
    · have hk : k = l.length := by have := of_decide_eq_false h1; omega
      subst hk
      exact congrArg Value.bool (anyB_false (d := 0) q2).symm)
/-- The last slot of those that are needed for the first k. -/
def lastI (l : List Nat) (ns : List Int) : Nat → Int
  | 0 => 0
  | k + 1 => if 0 < ns.getD k 0 then (if waitW l 0 (l.getD k 0 : Nat) (ns.getD k 0 - 1) > lastI l ns k then waitW l 0 (l.getD k 0 : Nat) (ns.getD k 0 - 1) else lastI l ns k) else lastI l ns k
theorem drain_w (l : List Nat) (q : Int) (ns : List Int) (h0 : 0 < l.length) (hl : l.length ≤ 1000) (hn : ns.length ≤ 1000) (hb : anyBad ns = false) : CallK Try.prog 33 [planV l q, izV ns] (.tuple (Array.mk [.int .i64 (lastI l ns (min ns.length l.length)), .bool true])) := CallK.via progOK (pfs []) [] 100 (Adv.purs (9 : Nat) (anyBad ns) Adv.nil (Adv.chk (26 : Nat) (some (vsl (↑(List.length (List.take (Int.toNat (if (↑(List.length l) : Int) < (↑(List.length ns) : Int) then (↑(List.length l) : Int) else (↑(List.length ns) : Int))) ns)) : Int) (Array.mk (izL (List.take (Int.toNat (if (↑(List.length l) : Int) < (↑(List.length ns) : Int) then (↑(List.length l) : Int) else (↑(List.length ns) : Int))) ns))))) (Adv.loop (29 : Nat) (fun (s : Nat) => [((29 : Nat), Value.int IntKind.i64 (↑s : Int)), ((6 : Nat), Value.int IntKind.i64 (lastI l ns s))]) ((fun (h : Heap) (x : Nat) => h) (Heap.mk (nat_lit 0) Trie.leaf)) (fun (i k : Nat) => i + k = min (List.length ns) (List.length l)) (min (List.length ns) (List.length l)) (0 : Nat) fun (i29 s29 : Nat) (j29 : Nat → Value) => Adv.split (31 : Nat) (Adv.chk (37 : Nat) none (Adv.chk (38 : Nat) (some (Value.int IntKind.i64 (List.getD (List.take (Int.toNat (if (↑(List.length l) : Int) < (↑(List.length ns) : Int) then (↑(List.length l) : Int) else (↑(List.length ns) : Int))) ns) s29 (0 : Int)))) (Adv.split (43 : Nat) (Adv.chk (53 : Nat) none (Adv.chk (54 : Nat) (some (Value.int IntKind.i64 (↑(List.getD l s29 (0 : Nat)) : Int))) (Adv.pur (57 : Nat) (Value.tuple (Array.mk [Value.int IntKind.i64 (waitW l (0 : Int) (↑(List.getD l s29 (0 : Nat)) : Int) (IntKind.wrap IntKind.i64 (List.getD (List.take (Int.toNat (if (↑(List.length l) : Int) < (↑(List.length ns) : Int) then (↑(List.length l) : Int) else (↑(List.length ns) : Int))) ns) s29 (0 : Int) - (1 : Int)))), Value.bool (askedB l (0 : Int) (↑(List.getD l s29 (0 : Nat)) : Int) (IntKind.wrap IntKind.i64 (List.getD (List.take (Int.toNat (if (↑(List.length l) : Int) < (↑(List.length ns) : Int) then (↑(List.length l) : Int) else (↑(List.length ns) : Int))) ns) s29 (0 : Int) - (1 : Int))))])) (Adv.split (60 : Nat) Adv.nil Adv.nil)))) Adv.nil))) Adv.nil))) (by kernel_rfl) (by kernel_rfl) (p := CallK Try.prog (nat_lit 79) [Value.iface (nat_lit 1000000) (Value.tuple (Array.mk [Value.int IntKind.i64 (↑(List.length ns) : Int), Value.agg (Array.mk (izL ns))])), Value.func (Fn.func (nat_lit 80)) (Array.mk []) (Array.mk [])] (Value.bool (anyBad ns)) ∧ (anyBad ns = true → Value.tuple (Array.mk [Value.int IntKind.i64 (0 : Int), Value.bool false]) = Value.tuple (Array.mk [Value.int IntKind.i64 (lastI l ns (min (List.length ns) (List.length l))), Value.bool true])) ∧ (anyBad ns = false → (Ask.holds Try.prog (Ask.get [Value.iface (nat_lit 1000000) (Value.tuple (Array.mk [Value.int IntKind.i64 ((if (↑(List.length l) : Int) < (↑(List.length ns) : Int) then (↑(List.length l) : Int) else (↑(List.length ns) : Int)) - (0 : Int)), Value.agg (Array.mk (List.take (Int.toNat ((if (↑(List.length l) : Int) < (↑(List.length ns) : Int) then (↑(List.length l) : Int) else (↑(List.length ns) : Int)) - (0 : Int)) * nat_lit 1) (List.drop (Int.toNat (0 : Int) * nat_lit 1) (Array.toList (Array.mk (izL ns))))))]))] (nat_lit 0) (Value.iface (nat_lit 1000000) (Value.tuple (Array.mk [Value.int IntKind.i64 (↑(List.length (List.take (Int.toNat (if (↑(List.length l) : Int) < (↑(List.length ns) : Int) then (↑(List.length l) : Int) else (↑(List.length ns) : Int))) ns)) : Int), Value.agg (Array.mk (izL (List.take (Int.toNat (if (↑(List.length l) : Int) < (↑(List.length ns) : Int) then (↑(List.length l) : Int) else (↑(List.length ns) : Int))) ns)))])))) ∧ (0 : Int) ≤ (0 : Int) ∧ ((0 : Int) ≤ if (↑(List.length l) : Int) < (↑(List.length ns) : Int) then (↑(List.length l) : Int) else (↑(List.length ns) : Int)) ∧ (if (↑(List.length l) : Int) < (↑(List.length ns) : Int) then (↑(List.length l) : Int) else (↑(List.length ns) : Int)) ≤ (↑(List.length ns) : Int)) ∧ (min (List.length ns) (List.length l) + (0 : Nat) = min (List.length ns) (List.length l) ∧ (Value.int IntKind.i64 (0 : Int) = Value.int IntKind.i64 (0 : Int) ∧ Value.int IntKind.i64 (0 : Int) = Value.int IntKind.i64 (0 : Int)) ∧ Heap.mk (nat_lit 0) Trie.leaf = Heap.mk (nat_lit 0) Trie.leaf) ∧ ∀ (i29 s29 : Nat) (j29 : Nat → Value), i29 + s29 = min (List.length ns) (List.length l) → (decide ((↑s29 : Int) < (↑(List.length (List.take (Int.toNat (if (↑(List.length l) : Int) < (↑(List.length ns) : Int) then (↑(List.length l) : Int) else (↑(List.length ns) : Int))) ns)) : Int)) = true → ((0 : Int) ≤ (↑s29 : Int) ∧ (↑s29 : Int) < (↑(List.length (List.take (Int.toNat (if (↑(List.length l) : Int) < (↑(List.length ns) : Int) then (↑(List.length l) : Int) else (↑(List.length ns) : Int))) ns)) : Int)) ∧ Ask.holds Try.prog (Ask.part (Array.toList (Array.mk (izL (List.take (Int.toNat (if (↑(List.length l) : Int) < (↑(List.length ns) : Int) then (↑(List.length l) : Int) else (↑(List.length ns) : Int))) ns)))) (Int.toNat (↑(Int.toNat (↑s29 : Int) * nat_lit 1) : Int)) (nat_lit 1) [Value.int IntKind.i64 (List.getD (List.take (Int.toNat (if (↑(List.length l) : Int) < (↑(List.length ns) : Int) then (↑(List.length l) : Int) else (↑(List.length ns) : Int))) ns) s29 (0 : Int))]) ∧ (decide (List.getD (List.take (Int.toNat (if (↑(List.length l) : Int) < (↑(List.length ns) : Int) then (↑(List.length l) : Int) else (↑(List.length ns) : Int))) ns) s29 (0 : Int) > (0 : Int)) = true → ((0 : Int) ≤ (↑s29 : Int) ∧ (↑s29 : Int) < (↑(List.length l) : Int)) ∧ Ask.holds Try.prog (Ask.part (Array.toList (Array.mk (intsL l))) (Int.toNat (↑(Int.toNat (↑s29 : Int) * nat_lit 1) : Int)) (nat_lit 1) [Value.int IntKind.i64 (↑(List.getD l s29 (0 : Nat)) : Int)]) ∧ CallK Try.prog (nat_lit 30) [Value.iface (nat_lit 1000001) (Value.tuple (Array.mk [Value.int IntKind.i64 (0 : Int), Value.agg (Array.mk [Value.iface (nat_lit 1000000) (Value.tuple (Array.mk [Value.int IntKind.i64 (↑(List.length l) : Int), Value.agg (Array.mk (intsL l))])), Value.int IntKind.i64 q])])), Value.int IntKind.i64 (0 : Int), Value.int IntKind.i64 (↑(List.getD l s29 (0 : Nat)) : Int), Value.int IntKind.i64 (IntKind.wrap IntKind.i64 (List.getD (List.take (Int.toNat (if (↑(List.length l) : Int) < (↑(List.length ns) : Int) then (↑(List.length l) : Int) else (↑(List.length ns) : Int))) ns) s29 (0 : Int) - (1 : Int)))] (Value.tuple (Array.mk [Value.int IntKind.i64 (waitW l (0 : Int) (↑(List.getD l s29 (0 : Nat)) : Int) (IntKind.wrap IntKind.i64 (List.getD (List.take (Int.toNat (if (↑(List.length l) : Int) < (↑(List.length ns) : Int) then (↑(List.length l) : Int) else (↑(List.length ns) : Int))) ns) s29 (0 : Int) - (1 : Int)))), Value.bool (askedB l (0 : Int) (↑(List.getD l s29 (0 : Nat)) : Int) (IntKind.wrap IntKind.i64 (List.getD (List.take (Int.toNat (if (↑(List.length l) : Int) < (↑(List.length ns) : Int) then (↑(List.length l) : Int) else (↑(List.length ns) : Int))) ns) s29 (0 : Int) - (1 : Int))))])) ∧ (askedB l (0 : Int) (↑(List.getD l s29 (0 : Nat)) : Int) (IntKind.wrap IntKind.i64 (List.getD (List.take (Int.toNat (if (↑(List.length l) : Int) < (↑(List.length ns) : Int) then (↑(List.length l) : Int) else (↑(List.length ns) : Int))) ns) s29 (0 : Int) - (1 : Int))) = true → ∃ (i29' : Nat), ∃ (s29' : Nat), i29' < i29 ∧ i29' + s29' = min (List.length ns) (List.length l) ∧ (Value.int IntKind.i64 (IntKind.wrap IntKind.i64 ((↑s29 : Int) + (1 : Int))) = Value.int IntKind.i64 (↑s29' : Int) ∧ Value.int IntKind.i64 (if waitW l (0 : Int) (↑(List.getD l s29 (0 : Nat)) : Int) (IntKind.wrap IntKind.i64 (List.getD (List.take (Int.toNat (if (↑(List.length l) : Int) < (↑(List.length ns) : Int) then (↑(List.length l) : Int) else (↑(List.length ns) : Int))) ns) s29 (0 : Int) - (1 : Int))) > lastI l ns s29 then waitW l (0 : Int) (↑(List.getD l s29 (0 : Nat)) : Int) (IntKind.wrap IntKind.i64 (List.getD (List.take (Int.toNat (if (↑(List.length l) : Int) < (↑(List.length ns) : Int) then (↑(List.length l) : Int) else (↑(List.length ns) : Int))) ns) s29 (0 : Int) - (1 : Int))) else lastI l ns s29) = Value.int IntKind.i64 (lastI l ns s29')) ∧ True ∧ true = true ∧ True) ∧ (askedB l (0 : Int) (↑(List.getD l s29 (0 : Nat)) : Int) (IntKind.wrap IntKind.i64 (List.getD (List.take (Int.toNat (if (↑(List.length l) : Int) < (↑(List.length ns) : Int) then (↑(List.length l) : Int) else (↑(List.length ns) : Int))) ns) s29 (0 : Int) - (1 : Int))) = false → ∃ (i29' : Nat), ∃ (s29' : Nat), i29' < i29 ∧ i29' + s29' = min (List.length ns) (List.length l) ∧ (Value.int IntKind.i64 (IntKind.wrap IntKind.i64 ((↑s29 : Int) + (1 : Int))) = Value.int IntKind.i64 (↑s29' : Int) ∧ Value.int IntKind.i64 (if waitW l (0 : Int) (↑(List.getD l s29 (0 : Nat)) : Int) (IntKind.wrap IntKind.i64 (List.getD (List.take (Int.toNat (if (↑(List.length l) : Int) < (↑(List.length ns) : Int) then (↑(List.length l) : Int) else (↑(List.length ns) : Int))) ns) s29 (0 : Int) - (1 : Int))) > lastI l ns s29 then waitW l (0 : Int) (↑(List.getD l s29 (0 : Nat)) : Int) (IntKind.wrap IntKind.i64 (List.getD (List.take (Int.toNat (if (↑(List.length l) : Int) < (↑(List.length ns) : Int) then (↑(List.length l) : Int) else (↑(List.length ns) : Int))) ns) s29 (0 : Int) - (1 : Int))) else lastI l ns s29) = Value.int IntKind.i64 (lastI l ns s29')) ∧ True ∧ true = true ∧ True)) ∧ (decide (List.getD (List.take (Int.toNat (if (↑(List.length l) : Int) < (↑(List.length ns) : Int) then (↑(List.length l) : Int) else (↑(List.length ns) : Int))) ns) s29 (0 : Int) > (0 : Int)) = false → ∃ (i29' : Nat), ∃ (s29' : Nat), i29' < i29 ∧ i29' + s29' = min (List.length ns) (List.length l) ∧ (Value.int IntKind.i64 (IntKind.wrap IntKind.i64 ((↑s29 : Int) + (1 : Int))) = Value.int IntKind.i64 (↑s29' : Int) ∧ Value.int IntKind.i64 (lastI l ns s29) = Value.int IntKind.i64 (lastI l ns s29')) ∧ True ∧ true = true ∧ True)) ∧ (decide ((↑s29 : Int) < (↑(List.length (List.take (Int.toNat (if (↑(List.length l) : Int) < (↑(List.length ns) : Int) then (↑(List.length l) : Int) else (↑(List.length ns) : Int))) ns)) : Int)) = false → Value.tuple (Array.mk [Value.int IntKind.i64 (lastI l ns s29), Value.bool true]) = Value.tuple (Array.mk [Value.int IntKind.i64 (lastI l ns (min (List.length ns) (List.length l))), Value.bool true])))) (by kernel_rfl) (by
    have hm : (if ((l.length : Int) < (ns.length : Int)) then (l.length : Int) else (ns.length : Int)) = ((min ns.length l.length : Nat) : Int) := by split <;> omega
    refine ⟨contInt_w _ hn, fun h => (by rw [hb] at h; cases h), fun _ => ?_⟩
    rw [hm]
    have hlt : (ns.take (min ns.length l.length)).length = min ns.length l.length := by rw [List.length_take]; omega
    have hgt : ∀ {s : Nat}, s < min ns.length l.length → (ns.take (min ns.length l.length)).getD s 0 = ns.getD s 0 := fun {s} h => by
      rw [List.getD_eq_getElem?_getD, List.getD_eq_getElem?_getD, List.getElem?_take, if_pos h]
    have hbd : ∀ {s : Nat}, s < ns.length → 0 ≤ ns.getD s 0 ∧ ns.getD s 0 ≤ 1000000 := fun {s} h => by
      have := List.any_eq_false.1 hb _ (getD_mem (d := 0) h)
      simp only [badN, Bool.or_eq_true, decide_eq_true_eq, not_or] at this
      omega
    refine ⟨⟨slice_take iz1_length (by omega), by omega, by omega, by omega⟩, ⟨by omega, ⟨rfl, rfl⟩, rfl⟩, fun i k j q => ⟨fun h1 => ?_, fun h1 => ?_⟩⟩
    · have hk : k < min ns.length l.length := by have := of_decide_eq_true h1; rw [show Int.toNat ((min ns.length l.length : Nat) : Int) = min ns.length l.length from rfl, hlt] at this; omega
      have hw : IntKind.i64.wrap (ns.getD k 0 - 1) = ns.getD k 0 - 1 := by have := hbd (s := k) (by omega); exact wrap_in (by omega) (by omega)
      have hkt : k < (ns.take (min ns.length l.length)).length := by omega
      rw [show Int.toNat ((min ns.length l.length : Nat) : Int) = min ns.length l.length from rfl, hgt hk, hw]
      have nx : ∀ {v : Int}, v = lastI l ns (k + 1) → ∃ (i' : Nat) (s' : Nat), i' < i ∧ i' + s' = min ns.length l.length ∧ (Value.int .i64 (IntKind.i64.wrap ((k : Int) + 1)) = .int .i64 (s' : Nat) ∧ Value.int .i64 v = .int .i64 (lastI l ns s')) ∧ True ∧ true = true ∧ True := fun hv => ⟨i - 1, k + 1, by omega, by omega, ⟨wrap_next k (by omega), congrArg _ hv⟩, trivial, rfl, trivial⟩
      refine ⟨⟨by omega, by omega⟩, ?_, fun h2 => ⟨⟨by omega, by omega⟩, ints_part (by omega) rfl, wait_w _ _ _ _ _ h0 hl, fun _ => nx ?_, fun _ => nx ?_⟩, fun h2 => nx ?_⟩
      · have := iz_part (l := ns.take (min ns.length l.length)) hkt (o := k * 1 + 0) rfl
        rw [hgt hk] at this; exact this
      · have := of_decide_eq_true h2
        exact (if_pos (show 0 < ns.getD k 0 by omega)).symm
      · have := of_decide_eq_true h2
        exact (if_pos (show 0 < ns.getD k 0 by omega)).symm
      · have := of_decide_eq_false h2
        exact (if_neg (show ¬ 0 < ns.getD k 0 by omega)).symm
    · have hk : k = min ns.length l.length := by have := of_decide_eq_false h1; rw [show Int.toNat ((min ns.length l.length : Nat) : Int) = min ns.length l.length from rfl, hlt] at this; omega
      rw [hk])
theorem drainNo_w (l : List Nat) (q : Int) (ns : List Int) (hn : ns.length ≤ 1000) (hb : anyBad ns = true) : CallK Try.prog 33 [planV l q, izV ns] (.tuple (Array.mk [.int .i64 0, .bool false])) := CallK.via progOK (pfs []) [] 100 (Adv.purs (9 : Nat) (anyBad ns) Adv.nil (Adv.chk (26 : Nat) (some (vsl (↑(List.length (List.take (Int.toNat (if (↑(List.length l) : Int) < (↑(List.length ns) : Int) then (↑(List.length l) : Int) else (↑(List.length ns) : Int))) ns)) : Int) (Array.mk (izL (List.take (Int.toNat (if (↑(List.length l) : Int) < (↑(List.length ns) : Int) then (↑(List.length l) : Int) else (↑(List.length ns) : Int))) ns))))) (Adv.loop (29 : Nat) (fun (s : Nat) => [((29 : Nat), Value.int IntKind.i64 (↑s : Int)), ((6 : Nat), Value.int IntKind.i64 (lastI l ns s))]) ((fun (h : Heap) (x : Nat) => h) (Heap.mk (nat_lit 0) Trie.leaf)) (fun (i k : Nat) => i + k = min (List.length ns) (List.length l)) (min (List.length ns) (List.length l)) (0 : Nat) fun (i29 s29 : Nat) (j29 : Nat → Value) => Adv.split (31 : Nat) (Adv.chk (37 : Nat) none (Adv.chk (38 : Nat) (some (Value.int IntKind.i64 (List.getD (List.take (Int.toNat (if (↑(List.length l) : Int) < (↑(List.length ns) : Int) then (↑(List.length l) : Int) else (↑(List.length ns) : Int))) ns) s29 (0 : Int)))) (Adv.split (43 : Nat) (Adv.chk (53 : Nat) none (Adv.chk (54 : Nat) (some (Value.int IntKind.i64 (↑(List.getD l s29 (0 : Nat)) : Int))) (Adv.pur (57 : Nat) (Value.tuple (Array.mk [Value.int IntKind.i64 (waitW l (0 : Int) (↑(List.getD l s29 (0 : Nat)) : Int) (IntKind.wrap IntKind.i64 (List.getD (List.take (Int.toNat (if (↑(List.length l) : Int) < (↑(List.length ns) : Int) then (↑(List.length l) : Int) else (↑(List.length ns) : Int))) ns) s29 (0 : Int) - (1 : Int)))), Value.bool (askedB l (0 : Int) (↑(List.getD l s29 (0 : Nat)) : Int) (IntKind.wrap IntKind.i64 (List.getD (List.take (Int.toNat (if (↑(List.length l) : Int) < (↑(List.length ns) : Int) then (↑(List.length l) : Int) else (↑(List.length ns) : Int))) ns) s29 (0 : Int) - (1 : Int))))])) (Adv.split (60 : Nat) Adv.nil Adv.nil)))) Adv.nil))) Adv.nil))) (by kernel_rfl) (by kernel_rfl) (p := CallK Try.prog (nat_lit 79) [Value.iface (nat_lit 1000000) (Value.tuple (Array.mk [Value.int IntKind.i64 (↑(List.length ns) : Int), Value.agg (Array.mk (izL ns))])), Value.func (Fn.func (nat_lit 80)) (Array.mk []) (Array.mk [])] (Value.bool (anyBad ns)) ∧ (anyBad ns = true → Value.tuple (Array.mk [Value.int IntKind.i64 (0 : Int), Value.bool false]) = Value.tuple (Array.mk [Value.int IntKind.i64 (0 : Int), Value.bool false])) ∧ (anyBad ns = false → (Ask.holds Try.prog (Ask.get [Value.iface (nat_lit 1000000) (Value.tuple (Array.mk [Value.int IntKind.i64 ((if (↑(List.length l) : Int) < (↑(List.length ns) : Int) then (↑(List.length l) : Int) else (↑(List.length ns) : Int)) - (0 : Int)), Value.agg (Array.mk (List.take (Int.toNat ((if (↑(List.length l) : Int) < (↑(List.length ns) : Int) then (↑(List.length l) : Int) else (↑(List.length ns) : Int)) - (0 : Int)) * nat_lit 1) (List.drop (Int.toNat (0 : Int) * nat_lit 1) (Array.toList (Array.mk (izL ns))))))]))] (nat_lit 0) (Value.iface (nat_lit 1000000) (Value.tuple (Array.mk [Value.int IntKind.i64 (↑(List.length (List.take (Int.toNat (if (↑(List.length l) : Int) < (↑(List.length ns) : Int) then (↑(List.length l) : Int) else (↑(List.length ns) : Int))) ns)) : Int), Value.agg (Array.mk (izL (List.take (Int.toNat (if (↑(List.length l) : Int) < (↑(List.length ns) : Int) then (↑(List.length l) : Int) else (↑(List.length ns) : Int))) ns)))])))) ∧ (0 : Int) ≤ (0 : Int) ∧ ((0 : Int) ≤ if (↑(List.length l) : Int) < (↑(List.length ns) : Int) then (↑(List.length l) : Int) else (↑(List.length ns) : Int)) ∧ (if (↑(List.length l) : Int) < (↑(List.length ns) : Int) then (↑(List.length l) : Int) else (↑(List.length ns) : Int)) ≤ (↑(List.length ns) : Int)) ∧ (min (List.length ns) (List.length l) + (0 : Nat) = min (List.length ns) (List.length l) ∧ (Value.int IntKind.i64 (0 : Int) = Value.int IntKind.i64 (0 : Int) ∧ Value.int IntKind.i64 (0 : Int) = Value.int IntKind.i64 (0 : Int)) ∧ Heap.mk (nat_lit 0) Trie.leaf = Heap.mk (nat_lit 0) Trie.leaf) ∧ ∀ (i29 s29 : Nat) (j29 : Nat → Value), i29 + s29 = min (List.length ns) (List.length l) → (decide ((↑s29 : Int) < (↑(List.length (List.take (Int.toNat (if (↑(List.length l) : Int) < (↑(List.length ns) : Int) then (↑(List.length l) : Int) else (↑(List.length ns) : Int))) ns)) : Int)) = true → ((0 : Int) ≤ (↑s29 : Int) ∧ (↑s29 : Int) < (↑(List.length (List.take (Int.toNat (if (↑(List.length l) : Int) < (↑(List.length ns) : Int) then (↑(List.length l) : Int) else (↑(List.length ns) : Int))) ns)) : Int)) ∧ Ask.holds Try.prog (Ask.part (Array.toList (Array.mk (izL (List.take (Int.toNat (if (↑(List.length l) : Int) < (↑(List.length ns) : Int) then (↑(List.length l) : Int) else (↑(List.length ns) : Int))) ns)))) (Int.toNat (↑(Int.toNat (↑s29 : Int) * nat_lit 1) : Int)) (nat_lit 1) [Value.int IntKind.i64 (List.getD (List.take (Int.toNat (if (↑(List.length l) : Int) < (↑(List.length ns) : Int) then (↑(List.length l) : Int) else (↑(List.length ns) : Int))) ns) s29 (0 : Int))]) ∧ (decide (List.getD (List.take (Int.toNat (if (↑(List.length l) : Int) < (↑(List.length ns) : Int) then (↑(List.length l) : Int) else (↑(List.length ns) : Int))) ns) s29 (0 : Int) > (0 : Int)) = true → ((0 : Int) ≤ (↑s29 : Int) ∧ (↑s29 : Int) < (↑(List.length l) : Int)) ∧ Ask.holds Try.prog (Ask.part (Array.toList (Array.mk (intsL l))) (Int.toNat (↑(Int.toNat (↑s29 : Int) * nat_lit 1) : Int)) (nat_lit 1) [Value.int IntKind.i64 (↑(List.getD l s29 (0 : Nat)) : Int)]) ∧ CallK Try.prog (nat_lit 30) [Value.iface (nat_lit 1000001) (Value.tuple (Array.mk [Value.int IntKind.i64 (0 : Int), Value.agg (Array.mk [Value.iface (nat_lit 1000000) (Value.tuple (Array.mk [Value.int IntKind.i64 (↑(List.length l) : Int), Value.agg (Array.mk (intsL l))])), Value.int IntKind.i64 q])])), Value.int IntKind.i64 (0 : Int), Value.int IntKind.i64 (↑(List.getD l s29 (0 : Nat)) : Int), Value.int IntKind.i64 (IntKind.wrap IntKind.i64 (List.getD (List.take (Int.toNat (if (↑(List.length l) : Int) < (↑(List.length ns) : Int) then (↑(List.length l) : Int) else (↑(List.length ns) : Int))) ns) s29 (0 : Int) - (1 : Int)))] (Value.tuple (Array.mk [Value.int IntKind.i64 (waitW l (0 : Int) (↑(List.getD l s29 (0 : Nat)) : Int) (IntKind.wrap IntKind.i64 (List.getD (List.take (Int.toNat (if (↑(List.length l) : Int) < (↑(List.length ns) : Int) then (↑(List.length l) : Int) else (↑(List.length ns) : Int))) ns) s29 (0 : Int) - (1 : Int)))), Value.bool (askedB l (0 : Int) (↑(List.getD l s29 (0 : Nat)) : Int) (IntKind.wrap IntKind.i64 (List.getD (List.take (Int.toNat (if (↑(List.length l) : Int) < (↑(List.length ns) : Int) then (↑(List.length l) : Int) else (↑(List.length ns) : Int))) ns) s29 (0 : Int) - (1 : Int))))])) ∧ (askedB l (0 : Int) (↑(List.getD l s29 (0 : Nat)) : Int) (IntKind.wrap IntKind.i64 (List.getD (List.take (Int.toNat (if (↑(List.length l) : Int) < (↑(List.length ns) : Int) then (↑(List.length l) : Int) else (↑(List.length ns) : Int))) ns) s29 (0 : Int) - (1 : Int))) = true → ∃ (i29' : Nat), ∃ (s29' : Nat), i29' < i29 ∧ i29' + s29' = min (List.length ns) (List.length l) ∧ (Value.int IntKind.i64 (IntKind.wrap IntKind.i64 ((↑s29 : Int) + (1 : Int))) = Value.int IntKind.i64 (↑s29' : Int) ∧ Value.int IntKind.i64 (if waitW l (0 : Int) (↑(List.getD l s29 (0 : Nat)) : Int) (IntKind.wrap IntKind.i64 (List.getD (List.take (Int.toNat (if (↑(List.length l) : Int) < (↑(List.length ns) : Int) then (↑(List.length l) : Int) else (↑(List.length ns) : Int))) ns) s29 (0 : Int) - (1 : Int))) > lastI l ns s29 then waitW l (0 : Int) (↑(List.getD l s29 (0 : Nat)) : Int) (IntKind.wrap IntKind.i64 (List.getD (List.take (Int.toNat (if (↑(List.length l) : Int) < (↑(List.length ns) : Int) then (↑(List.length l) : Int) else (↑(List.length ns) : Int))) ns) s29 (0 : Int) - (1 : Int))) else lastI l ns s29) = Value.int IntKind.i64 (lastI l ns s29')) ∧ True ∧ true = true ∧ True) ∧ (askedB l (0 : Int) (↑(List.getD l s29 (0 : Nat)) : Int) (IntKind.wrap IntKind.i64 (List.getD (List.take (Int.toNat (if (↑(List.length l) : Int) < (↑(List.length ns) : Int) then (↑(List.length l) : Int) else (↑(List.length ns) : Int))) ns) s29 (0 : Int) - (1 : Int))) = false → ∃ (i29' : Nat), ∃ (s29' : Nat), i29' < i29 ∧ i29' + s29' = min (List.length ns) (List.length l) ∧ (Value.int IntKind.i64 (IntKind.wrap IntKind.i64 ((↑s29 : Int) + (1 : Int))) = Value.int IntKind.i64 (↑s29' : Int) ∧ Value.int IntKind.i64 (if waitW l (0 : Int) (↑(List.getD l s29 (0 : Nat)) : Int) (IntKind.wrap IntKind.i64 (List.getD (List.take (Int.toNat (if (↑(List.length l) : Int) < (↑(List.length ns) : Int) then (↑(List.length l) : Int) else (↑(List.length ns) : Int))) ns) s29 (0 : Int) - (1 : Int))) > lastI l ns s29 then waitW l (0 : Int) (↑(List.getD l s29 (0 : Nat)) : Int) (IntKind.wrap IntKind.i64 (List.getD (List.take (Int.toNat (if (↑(List.length l) : Int) < (↑(List.length ns) : Int) then (↑(List.length l) : Int) else (↑(List.length ns) : Int))) ns) s29 (0 : Int) - (1 : Int))) else lastI l ns s29) = Value.int IntKind.i64 (lastI l ns s29')) ∧ True ∧ true = true ∧ True)) ∧ (decide (List.getD (List.take (Int.toNat (if (↑(List.length l) : Int) < (↑(List.length ns) : Int) then (↑(List.length l) : Int) else (↑(List.length ns) : Int))) ns) s29 (0 : Int) > (0 : Int)) = false → ∃ (i29' : Nat), ∃ (s29' : Nat), i29' < i29 ∧ i29' + s29' = min (List.length ns) (List.length l) ∧ (Value.int IntKind.i64 (IntKind.wrap IntKind.i64 ((↑s29 : Int) + (1 : Int))) = Value.int IntKind.i64 (↑s29' : Int) ∧ Value.int IntKind.i64 (lastI l ns s29) = Value.int IntKind.i64 (lastI l ns s29')) ∧ True ∧ true = true ∧ True)) ∧ (decide ((↑s29 : Int) < (↑(List.length (List.take (Int.toNat (if (↑(List.length l) : Int) < (↑(List.length ns) : Int) then (↑(List.length l) : Int) else (↑(List.length ns) : Int))) ns)) : Int)) = false → Value.tuple (Array.mk [Value.int IntKind.i64 (lastI l ns s29), Value.bool true]) = Value.tuple (Array.mk [Value.int IntKind.i64 (0 : Int), Value.bool false])))) (by kernel_rfl) (by
    exact ⟨contInt_w _ hn, fun _ => rfl, fun h => (by rw [hb] at h; cases h)⟩)
end Go.Proofs.Ytepijhnfeafmaaa

end
section
/- How many slots it is till a label's turn: the plain law of waits. -/
set_option linter.unusedVariables false
set_option linter.unusedSimpArgs false
set_option linter.unusedVariables false
set_option linter.unusedSimpArgs false
namespace Go.Proofs.Ytepijhnfeafmaaa
open Go Go.Ideal
/-- Is a label among the first of a cycle? -/
def inB (l : List Nat) (x : Int) (k : Nat) : Bool := (l.take k).any fun n => (n : Int) == x
theorem labelsC_nodup (c : Conf) (i : Int) : (labelsC c i).Nodup := by
  unfold labelsC
  split
  · exact List.Pairwise.filter _ List.nodup_range
  · exact List.nodup_nil
theorem place_at {l : List Nat} {x : Int} (h : 0 ≤ placeI l x) : (l.getD (placeI l x).toNat 0 : Int) = x := by
  rcases idxB_cases l (fun n : Nat => x == (n : Int)) 0 with ⟨k, hk, e, p, _⟩ | ⟨e, _⟩
  · unfold placeI; rw [e]; exact (beq_iff_eq.1 p).symm
  · unfold placeI at h; rw [e] at h; omega
theorem hit_iff {l : List Nat} {x : Int} (nd : l.Nodup) (h : 0 ≤ placeI l x) {a : Nat} (ha : a < l.length) : ((l.getD a 0 : Int) = x) ↔ (a : Int) = placeI l x := by
  have hp := place_lt h
  have hx := place_at h
  refine ⟨fun e => ?_, fun e => ?_⟩
  · have hk : (placeI l x).toNat < l.length := by omega
    have e2 : l.getD a 0 = l.getD (placeI l x).toNat 0 := by omega
    simp only [List.getD, List.getElem?_eq_getElem ha, List.getElem?_eq_getElem hk, Option.getD_some] at e2
    have nd2 := List.pairwise_iff_getElem.1 nd
    rcases Nat.lt_trichotomy a (placeI l x).toNat with h1 | h1 | h1
    · exact absurd e2 (nd2 _ _ ha hk h1)
    · omega
    · exact absurd e2.symm (nd2 _ _ hk ha h1)
  · rw [show a = (placeI l x).toNat by omega]; exact hx
theorem inB_yes {l : List Nat} {x : Int} {k : Nat} (h : inB l x k = true) : inB l x (k + 1) = true := by
  obtain ⟨y, hy, e⟩ := List.any_eq_true.1 h
  exact List.any_eq_true.2 ⟨y, List.take_subset_take_left l (Nat.le_succ k) hy, e⟩
theorem inB_no {l : List Nat} {x : Int} {k : Nat} (hk : k < l.length) (h : inB l x k = false) : inB l x (k + 1) = ((l.getD k 0 : Int) == x) := by
  unfold inB at h ⊢
  rw [take_snoc 0 hk, List.any_append, h]
  simp
theorem inB_all (l : List Nat) (x : Int) : inB l x l.length = decide (0 ≤ placeI l x) := by
  unfold inB placeI
  rw [List.take_length, anyB_idx]
  exact congrArg l.any (funext fun n => beq_flip _ _)
theorem turn {n a : Int} (h0 : 0 ≤ a) (h1 : a < n) : (a + 1).tmod n = if a + 1 < n then a + 1 else 0 := by
  rw [Int.tmod_eq_emod_of_nonneg (by omega)]
  split
  · exact Int.emod_eq_of_lt (by omega) (by omega)
  · rw [show a + 1 = n by omega]; exact Int.emod_self
theorem gap_hit {n k : Int} (h0 : 0 ≤ k) (h1 : k < n) : gapI n k ((k + 1).tmod n) = n - 1 ∧ gapI n k k = 0 := by
  rw [turn h0 h1]; unfold gapI
  refine ⟨?_, by rw [if_pos (Int.le_refl _)]; omega⟩
  repeat' split
  all_goals omega
theorem gap_miss {n k a : Int} (h0 : 0 ≤ k) (h1 : k < n) (h2 : 0 ≤ a) (h3 : a < n) (h : a ≠ k) : gapI n k ((a + 1).tmod n) = gapI n k a - 1 := by
  rw [turn h2 h3]; unfold gapI
  repeat' split
  all_goals omega
/-- On the way: what is left, how long it was, which slot it is; so many slots are still to go. -/
def WaitInv (l : List Nat) (x slot place : Int) (m : Nat) (s : Int × Int × Int) : Prop := 0 ≤ s.1 ∧ s.1 ≤ 51 ∧ 0 ≤ s.2.2 ∧ s.2.2 < l.length ∧ s.2.1 + m = waitI l.length (placeI l x) (slot.tmod l.length) place ∧ 0 ≤ s.2.1 ∧
  ((s.1 = 0 ∧ m = 0) ∨ (1 ≤ s.1 ∧ (m : Int) = gapI l.length (placeI l x) s.2.2 + (s.1 - 1) * l.length + 1))
theorem WaitInv.start {l : List Nat} {x slot place : Int} (h0 : 0 ≤ slot) (h1 : 0 ≤ place) (h2 : place ≤ 50) (h3 : 0 ≤ placeI l x) : WaitInv l x slot place (waitI l.length (placeI l x) (slot.tmod l.length) place).toNat (place + 1, 0, slot.tmod l.length) := by
  have hp := place_lt h3
  obtain ⟨m1, m2⟩ := tmod_range (n := (l.length : Int)) h0 (by omega)
  have g : 0 ≤ gapI l.length (placeI l x) (slot.tmod l.length) := by unfold gapI; split <;> omega
  have b0 : 0 ≤ place * (l.length : Int) := Int.mul_nonneg h1 (by omega)
  have w : 0 ≤ waitI l.length (placeI l x) (slot.tmod l.length) place := by unfold waitI; omega
  refine ⟨by show 0 ≤ place + 1; omega, by show place + 1 ≤ 51; omega, m1, m2, by show 0 + _ = _; omega, Int.le_refl 0, .inr ⟨by show 1 ≤ place + 1; omega, ?_⟩⟩
  show _ = gapI l.length (placeI l x) (slot.tmod l.length) + (place + 1 - 1) * (l.length : Int) + 1
  rw [show place + 1 - 1 = place by omega]
  have : waitI l.length (placeI l x) (slot.tmod l.length) place = gapI l.length (placeI l x) (slot.tmod l.length) + place * l.length + 1 := rfl
  omega
theorem WaitInv.hit {l : List Nat} {x slot place : Int} {m : Nat} {s : Int × Int × Int} (h : WaitInv l x slot place m s) (h3 : 0 ≤ placeI l x) (hs : 0 < s.1) (e : s.2.2 = placeI l x) :
    0 < m ∧ WaitInv l x slot place (m - 1) (s.1 - 1, s.2.1 + 1, (s.2.2 + 1).tmod l.length) := by
  obtain ⟨a1, a2, a3, a4, a5, a6, a7⟩ := h
  have hp := place_lt h3
  rcases a7 with ⟨h1, _⟩ | ⟨h1, h2⟩
  · omega
  obtain ⟨g1, g2⟩ := gap_hit h3 hp
  obtain ⟨r1, r2⟩ := tmod_range (n := (l.length : Int)) (s := s.2.2 + 1) (by omega) (by omega)
  rw [e] at h2; rw [g2] at h2
  have b0 : 0 ≤ (s.1 - 1) * (l.length : Int) := Int.mul_nonneg (by omega) (by omega)
  refine ⟨by omega, by show 0 ≤ s.1 - 1; omega, by show s.1 - 1 ≤ 51; omega, r1, r2, by show s.2.1 + 1 + ((m - 1 : Nat) : Int) = _; omega, by show 0 ≤ s.2.1 + 1; omega, ?_⟩
  by_cases h5 : s.1 = 1
  · left
    rw [h5] at h2
    exact ⟨by show s.1 - 1 = 0; omega, by omega⟩
  · right
    refine ⟨by show 1 ≤ s.1 - 1; omega, ?_⟩
    show ((m - 1 : Nat) : Int) = gapI _ _ ((s.2.2 + 1).tmod _) + (s.1 - 1 - 1) * (l.length : Int) + 1
    rw [e, g1, Int.sub_mul]
    omega
theorem WaitInv.miss {l : List Nat} {x slot place : Int} {m : Nat} {s : Int × Int × Int} (h : WaitInv l x slot place m s) (h3 : 0 ≤ placeI l x) (hs : 0 < s.1) (e : s.2.2 ≠ placeI l x) :
    0 < m ∧ WaitInv l x slot place (m - 1) (s.1, s.2.1 + 1, (s.2.2 + 1).tmod l.length) := by
  obtain ⟨a1, a2, a3, a4, a5, a6, a7⟩ := h
  have hp := place_lt h3
  rcases a7 with ⟨h1, _⟩ | ⟨h1, h2⟩
  · omega
  have g1 := gap_miss h3 hp a3 a4 e
  have g : 1 ≤ gapI l.length (placeI l x) s.2.2 := by unfold gapI; split <;> omega
  obtain ⟨r1, r2⟩ := tmod_range (n := (l.length : Int)) (s := s.2.2 + 1) (by omega) (by omega)
  have b0 : 0 ≤ (s.1 - 1) * (l.length : Int) := Int.mul_nonneg (by omega) (by omega)
  refine ⟨by omega, a1, a2, r1, r2, by show s.2.1 + 1 + ((m - 1 : Nat) : Int) = _; omega, by show 0 ≤ s.2.1 + 1; omega, .inr ⟨h1, ?_⟩⟩
  show ((m - 1 : Nat) : Int) = gapI _ _ ((s.2.2 + 1).tmod _) + (s.1 - 1) * (l.length : Int) + 1
  rw [g1]; omega
theorem WaitInv.end {l : List Nat} {x slot place : Int} {m : Nat} {s : Int × Int × Int} (h : WaitInv l x slot place m s) (hs : ¬ 0 < s.1) : s.2.1 = waitI l.length (placeI l x) (slot.tmod l.length) place := by
  obtain ⟨a1, a2, a3, a4, a5, a6, a7⟩ := h
  rcases a7 with ⟨h1, h2⟩ | ⟨h1, h2⟩ <;> omega
end Go.Proofs.Ytepijhnfeafmaaa

end
section
/- How many of the first slots are a label's; when the queues are empty: the plain law. -/
set_option linter.unusedVariables false
set_option linter.unusedSimpArgs false
set_option linter.unusedVariables false
set_option linter.unusedSimpArgs false
namespace Go.Proofs.Ytepijhnfeafmaaa
open Go Go.Ideal
/-- How many of the first k slots are a label's. -/
def cntI (l : List Nat) (x : Int) : Nat → Int
  | 0 => 0
  | k + 1 => if ((l.getD (k % l.length) 0 : Nat) : Int) = x then cntI l x k + 1 else cntI l x k
def leftRows (m : Nat) (xs : List Int) : List Row := List.replicate m .dead ++ [.cells (izL xs)]
def leftRowsAt (m : Nat) (xs : List Int) (r k : Nat) : Value := .int .i64 (xs.getD k 0)
def leftRowsLen (m : Nat) (xs : List Int) : Nat := m + 1
def sumI (xs : List Int) : Nat → Int
  | 0 => 0
  | k + 1 => sumI xs k + xs.getD k 0
/-- What is left of the first m queues behind t slots. -/
def leftI (N : Nat) (ns : List Int) (t : Nat) (i : Nat) : Int := max 0 (ns.getD i 0 - (((t + N - 1 - i) / N : Nat) : Int))
def leftL (N m : Nat) (ns : List Int) (t : Nat) : List Int := (List.range m).map (leftI N ns t)
def uz1 (n : Int) : List Value := [.int .u8 n]
theorem uz1_length (n : Int) : (uz1 n).length = 1 := rfl
def uzL (l : List Int) : List Value := cellsOf uz1 l
def uzV (l : List Int) : Value := vsl l.length (uzL l).toArray
theorem uzL_length (l : List Int) : (uzL l).length = l.length := (cellsOf_length uz1_length l).trans (Nat.mul_one _)
theorem uz_part {l : List Int} {k : Nat} (hk : k < l.length) {o : Nat} (ho : o = k * 1 + 0) : (Ask.part (uzL l) o 1 [.int .u8 (l.getD k 0)]).holds Try.prog := by
  subst ho; exact cellsOf_part (P := Try.prog) (f := uz1) uz1_length 0 hk 0 1 (by omega) _ rfl
def modL (ls : List Int) : List Int := ls.map (·.tmod 20)
theorem cnt_step {n p k : Nat} (hp : p < n) : (k + 1) / n + (if p < (k + 1) % n then 1 else 0) = k / n + (if p < k % n then 1 else 0) + (if k % n = p then 1 else 0) := by
  have h0 : 0 < n := by omega
  have hm := Nat.mod_lt k h0
  have hd := Nat.div_add_mod k n
  by_cases h : k % n + 1 < n
  · have e1 : (k + 1) / n = k / n := by
      rw [show k + 1 = (k % n + 1) + n * (k / n) by omega, Nat.add_mul_div_left _ _ h0, Nat.div_eq_of_lt h]; omega
    have e2 : (k + 1) % n = k % n + 1 := by
      rw [show k + 1 = (k % n + 1) + n * (k / n) by omega, Nat.add_mul_mod_self_left, Nat.mod_eq_of_lt h]
    rw [e1, e2]
    by_cases a : p < k % n
    · rw [if_pos (by omega), if_pos a, if_neg (by omega)]
    · by_cases b : k % n = p
      · rw [if_pos (by omega), if_neg a, if_pos b]
      · rw [if_neg (by omega), if_neg a, if_neg b]
  · have e1 : (k + 1) / n = k / n + 1 := by
      rw [show k + 1 = n * (k / n + 1) by rw [Nat.mul_add]; omega, Nat.mul_div_cancel_left _ h0]
    have e2 : (k + 1) % n = 0 := by
      rw [show k + 1 = n * (k / n + 1) by rw [Nat.mul_add]; omega, Nat.mul_mod_right]
    rw [e1, e2, if_neg (by omega)]
    by_cases b : k % n = p
    · rw [if_neg (by omega), if_pos b]
    · rw [if_pos (by omega), if_neg b]
/-- How many slots are the i-th one's, of the first t. -/
theorem hits_of {N i t Q R : Nat} (hi : i < N) (hR : R < N) (ht : t = R + N * Q) : (t + N - 1 - i) / N = Q + (if i < R then 1 else 0) := by
  have h0 : 0 < N := by omega
  subst ht
  by_cases h : i < R
  · rw [if_pos h, show R + N * Q + N - 1 - i = (R - 1 - i) + N * (Q + 1) by rw [Nat.mul_add]; omega, Nat.add_mul_div_left _ _ h0, Nat.div_eq_of_lt (by omega)]; omega
  · rw [if_neg h, show R + N * Q + N - 1 - i = (R + N - 1 - i) + N * Q by omega, Nat.add_mul_div_left _ _ h0, Nat.div_eq_of_lt (by omega)]; omega
theorem hits_step {N i t : Nat} (hi : i < N) : (t + 1 + N - 1 - i) / N = (t + N - 1 - i) / N + (if t % N = i then 1 else 0) := by
  have h0 : 0 < N := by omega
  have hm := Nat.mod_lt t h0
  have hd := Nat.mod_add_div t N
  rw [hits_of (t := t) hi hm hd.symm]
  by_cases g : t % N + 1 < N
  · rw [hits_of (t := t + 1) (Q := t / N) (R := t % N + 1) hi g (by omega)]
    split <;> split <;> split <;> omega
  · rw [hits_of (t := t + 1) (Q := t / N + 1) (R := 0) hi h0 (by rw [Nat.mul_add]; omega)]
    split <;> split <;> split <;> omega
theorem left_zero {N i : Nat} (hi : i < N) {ns : List Int} (h : 0 ≤ ns.getD i 0) : leftI N ns 0 i = ns.getD i 0 := by
  unfold leftI
  rw [Nat.zero_add, Nat.div_eq_of_lt (by omega)]; omega
theorem left_hit {N i t : Nat} (hi : i < N) {ns : List Int} (h : t % N = i) (hp : 0 < leftI N ns t i) : leftI N ns (t + 1) i = leftI N ns t i - 1 := by
  unfold leftI at *
  rw [hits_step hi, if_pos h]; omega
theorem left_no {N i t : Nat} (hi : i < N) {ns : List Int} (h : t % N ≠ i ∨ leftI N ns t i = 0) : leftI N ns (t + 1) i = leftI N ns t i := by
  unfold leftI at *
  rw [hits_step hi]
  rcases h with h | h
  · rw [if_neg h]; omega
  · split <;> omega
/-- Something is left of a queue till its last slot. -/
theorem left_pos {N i t : Nat} (hi : i < N) {ns : List Int} : 0 < leftI N ns t i ↔ (t : Int) < i + (ns.getD i 0 - 1) * N + 1 := by
  unfold leftI
  have h0 : 0 < N := by omega
  have hd := Nat.div_add_mod (t + N - 1 - i) N
  have hm := Nat.mod_lt (t + N - 1 - i) h0
  generalize hq : (t + N - 1 - i) / N = Q at *
  generalize ns.getD i 0 = n
  have hQ : (N : Int) * Q + ((t + N - 1 - i) % N : Nat) = t + N - 1 - i := by
    have : ((N * Q + (t + N - 1 - i) % N : Nat) : Int) = ((t + N - 1 - i : Nat) : Int) := by rw [hd]
    rw [Int.natCast_add, Int.natCast_mul] at this
    omega
  constructor
  · intro h
    have h1 : (Q : Int) + 1 ≤ n := by omega
    have h2 : ((Q : Int) + 1) * N ≤ n * N := Int.mul_le_mul_of_nonneg_right h1 (by omega)
    rw [Int.add_mul, Int.mul_comm (Q : Int)] at h2
    rw [Int.sub_mul]
    omega
  · intro h
    have : (Q : Int) < n := by
      rcases Int.lt_or_le (Q : Int) n with h1 | h1
      · exact h1
      · have h2 : n * N ≤ (Q : Int) * N := Int.mul_le_mul_of_nonneg_right h1 (by omega)
        rw [Int.mul_comm (Q : Int)] at h2
        rw [Int.sub_mul] at h
        omega
    omega
theorem cnt_is {l : List Nat} (nd : l.Nodup) (h0 : 0 < l.length) (x : Int) (k : Nat) : cntI l x k = if 0 ≤ placeI l x then (((k / l.length + (if (placeI l x).toNat < k % l.length then 1 else 0) : Nat)) : Int) else 0 := by
  induction k with
  | zero => split <;> simp [cntI]
  | succ k ih =>
    have hm := Nat.mod_lt k h0
    by_cases h : 0 ≤ placeI l x
    · have hp := place_lt h
      have := cnt_step (n := l.length) (p := (placeI l x).toNat) (k := k) (by omega)
      have hi := hit_iff nd h hm
      rw [cntI, if_pos h, ih, if_pos h, this]
      by_cases g : k % l.length = (placeI l x).toNat
      · rw [if_pos (hi.2 (by omega)), if_pos g]; omega
      · rw [if_neg (fun e => g (by have := hi.1 e; omega)), if_neg g]; omega
    · have hno : ¬ ((l.getD (k % l.length) 0 : Nat) : Int) = x := fun e => by
        have := inB_all l x
        rw [decide_eq_false h] at this
        have h2 : inB l x l.length = true := by
          unfold inB
          rw [List.take_length]
          exact List.any_eq_true.2 ⟨_, getD_mem (d := 0) hm, by simpa using e⟩
        rw [h2] at this; cases this
      rw [cntI, if_neg hno, ih, if_neg h, if_neg h]
theorem cnt_share {l : List Nat} (nd : l.Nodup) (h0 : 0 < l.length) (x : Int) (k : Nat) : shareI l x k = cntI l x k := by
  rw [cnt_is nd h0]
  unfold shareI
  by_cases h : 0 ≤ placeI l x
  · have ha : askedB l 0 x 0 = true := by unfold askedB; rw [decide_eq_true h]; rfl
    rw [if_pos ⟨ha, by omega⟩, if_pos h, ← Int.ofNat_tdiv, ← Int.ofNat_tmod]
    have hm := Nat.mod_lt k h0
    by_cases g : (placeI l x).toNat < k % l.length
    · rw [if_pos (by omega), if_pos g]; omega
    · rw [if_neg (by omega), if_neg g]; omega
  · have ha : askedB l 0 x 0 = false := by unfold askedB; rw [decide_eq_false h, Bool.and_false]
    rw [if_neg (by rw [ha]; simp), if_neg h]
theorem share_neg (l : List Nat) (x : Int) : shareI l x (-1) = 0 := by unfold shareI; rw [if_neg (by omega)]
theorem leftL_get {N m : Nat} {ns : List Int} {t i : Nat} (hi : i < m) : (leftL N m ns t).getD i 0 = leftI N ns t i := by simp [leftL, List.getD, hi]
theorem leftI_nn (N : Nat) (ns : List Int) (t i : Nat) : 0 ≤ leftI N ns t i := by unfold leftI; omega
theorem sumI_nn {xs : List Int} : ∀ {k : Nat}, (∀ i, i < k → 0 ≤ xs.getD i 0) → 0 ≤ sumI xs k
  | 0, _ => by simp [sumI]
  | k + 1, h => by
    have := sumI_nn (k := k) fun i hi => h i (by omega)
    have := h k (by omega)
    rw [sumI]; omega
theorem sumI_pos {xs : List Int} : ∀ {k : Nat}, (∀ i, i < k → 0 ≤ xs.getD i 0) → (0 < sumI xs k ↔ ∃ i, i < k ∧ 0 < xs.getD i 0)
  | 0, _ => ⟨fun h => by simp [sumI] at h, fun ⟨i, hi, _⟩ => by omega⟩
  | k + 1, h => by
    have h1 := sumI_nn (k := k) fun i hi => h i (by omega)
    have ih := sumI_pos (k := k) fun i hi => h i (by omega)
    have h2 := h k (by omega)
    rw [sumI]
    constructor
    · intro hp
      by_cases g : 0 < sumI xs k
      · obtain ⟨i, a, b⟩ := ih.1 g; exact ⟨i, by omega, b⟩
      · exact ⟨k, by omega, by omega⟩
    · rintro ⟨i, a, b⟩
      by_cases g : i = k
      · subst g; omega
      · have := ih.2 ⟨i, by omega, b⟩; omega
theorem sumI_congr {xs ys : List Int} : ∀ {k : Nat}, (∀ i, i < k → xs.getD i 0 = ys.getD i 0) → sumI xs k = sumI ys k
  | 0, _ => rfl
  | k + 1, h => by rw [sumI, sumI, sumI_congr (k := k) fun i hi => h i (by omega), h k (by omega)]
theorem sumI_one {xs ys : List Int} {j : Nat} : ∀ {k : Nat}, j < k → (∀ i, i < k → i ≠ j → ys.getD i 0 = xs.getD i 0) → ys.getD j 0 = xs.getD j 0 - 1 → sumI ys k = sumI xs k - 1
  | 0, h, _, _ => by omega
  | k + 1, h, h1, h2 => by
    rw [sumI, sumI]
    by_cases g : j = k
    · subst g
      rw [sumI_congr (k := j) fun i hi => h1 i (by omega) (by omega), h2]; omega
    · rw [sumI_one (k := k) (by omega) (fun i hi => h1 i (by omega)) h2, h1 k (by omega) (fun e => g e.symm)]; omega
/-- A queue's last slot. -/
def endI (N : Nat) (ns : List Int) (i : Nat) : Int := i + (ns.getD i 0 - 1) * N + 1
theorem wait_end {l : List Nat} (nd : l.Nodup) {ns : List Int} {i : Nat} (hi : i < l.length) (h1 : 0 < ns.getD i 0) (h2 : ns.getD i 0 ≤ 1000000) : waitW l 0 (l.getD i 0 : Nat) (ns.getD i 0 - 1) = endI l.length ns i := by
  have hb : inB l (l.getD i 0 : Nat) l.length = true := by
    unfold inB
    rw [List.take_length]
    exact List.any_eq_true.2 ⟨_, getD_mem (d := 0) hi, by simp⟩
  rw [inB_all] at hb
  have hp := of_decide_eq_true hb
  have he := (hit_iff nd hp hi).1 rfl
  have ha : askedB l 0 (l.getD i 0 : Nat) (ns.getD i 0 - 1) = true := by
    unfold askedB; rw [hb, decide_eq_true (by omega : 0 ≤ ns.getD i 0 - 1), decide_eq_true (by omega : ns.getD i 0 - 1 ≤ 1000000)]; rfl
  have := wait_slot (l := l) (x := (l.getD i 0 : Nat)) (place := ns.getD i 0 - 1) (j := 0) (by omega) ha
  rw [show waitW l 0 (l.getD i 0 : Nat) (ns.getD i 0 - 1) = waitW l ((0 : Nat) : Int) (l.getD i 0 : Nat) (ns.getD i 0 - 1) from rfl, this]
  unfold gapI endI
  rw [← he, if_pos (by omega)]; omega
theorem last_nn {l : List Nat} {ns : List Int} (nd : l.Nodup) : ∀ {k : Nat}, k ≤ l.length → (∀ i, i < k → 0 ≤ ns.getD i 0 ∧ ns.getD i 0 ≤ 1000000) → 0 ≤ lastI l ns k ∧ (∀ i, i < k → 0 < ns.getD i 0 → endI l.length ns i ≤ lastI l ns k) ∧ (lastI l ns k = 0 ∨ ∃ i, i < k ∧ 0 < ns.getD i 0 ∧ lastI l ns k = endI l.length ns i)
  | 0, _, _ => ⟨by simp [lastI], fun i hi => by omega, .inl rfl⟩
  | k + 1, hk, hb => by
    obtain ⟨a1, a2, a3⟩ := last_nn nd (k := k) (by omega) fun i hi => hb i (by omega)
    have hbk := hb k (by omega)
    rw [lastI]
    by_cases g : 0 < ns.getD k 0
    · rw [if_pos g, wait_end nd (by omega) g hbk.2]
      have he : 0 ≤ endI l.length ns k := by
        unfold endI
        have := Int.mul_nonneg (show 0 ≤ ns.getD k 0 - 1 by omega) (show (0 : Int) ≤ l.length by omega)
        omega
      by_cases q : endI l.length ns k > lastI l ns k
      · rw [if_pos q]
        refine ⟨he, fun i hi h1 => ?_, .inr ⟨k, by omega, g, rfl⟩⟩
        by_cases e : i = k
        · subst e; exact Int.le_refl _
        · have := a2 i (by omega) h1; omega
      · rw [if_neg q]
        refine ⟨a1, fun i hi h1 => ?_, ?_⟩
        · by_cases e : i = k
          · subst e; omega
          · exact a2 i (by omega) h1
        · rcases a3 with h | ⟨i, h1, h2, h3⟩
          · exact .inl h
          · exact .inr ⟨i, by omega, h2, h3⟩
    · rw [if_neg g]
      refine ⟨a1, fun i hi h1 => ?_, ?_⟩
      · by_cases e : i = k
        · subst e; exact absurd h1 g
        · exact a2 i (by omega) h1
      · rcases a3 with h | ⟨i, h1, h2, h3⟩
        · exact .inl h
        · exact .inr ⟨i, by omega, h2, h3⟩
/-- Something is left just till the last slot. -/
theorem sum_last {l : List Nat} {ns : List Int} (nd : l.Nodup) {m t : Nat} (hm : m ≤ l.length) (hb : ∀ i, i < m → 0 ≤ ns.getD i 0 ∧ ns.getD i 0 ≤ 1000000) : 0 < sumI (leftL l.length m ns t) m ↔ (t : Int) < lastI l ns m := by
  obtain ⟨a1, a2, a3⟩ := last_nn nd hm hb
  rw [sumI_pos fun i hi => by rw [leftL_get hi]; exact leftI_nn _ _ _ _]
  constructor
  · rintro ⟨i, hi, h⟩
    rw [leftL_get hi, left_pos (by omega)] at h
    have hp : 0 < ns.getD i 0 := by
      by_cases g : 0 < ns.getD i 0
      · exact g
      · have : ns.getD i 0 = 0 := by have := hb i hi; omega
        rw [this] at h; omega
    have := a2 i hi hp
    unfold endI at this; omega
  · intro h
    rcases a3 with h3 | ⟨i, h1, h2, h3⟩
    · omega
    · exact ⟨i, h1, by rw [leftL_get h1, left_pos (by omega)]; unfold endI at h3; omega⟩
end Go.Proofs.Ytepijhnfeafmaaa

end
section
/- What a law is handed of bytes, read as plain data. -/
set_option linter.unusedVariables false
set_option maxRecDepth 100000
set_option linter.unusedVariables false
set_option linter.unusedSimpArgs false
namespace Go.Proofs.Ytepijhnfeafmaaa
open Go Go.Ideal Go.RowKit
theorem okWide_slice {P : Program} {w : World} {r : Reach} {b : Nat} {t e : TypeId} {v : Value} (ht : P.underlying t = some (.slice e)) (h : Value.okWide P w r b t v) : ∀ a, v ≠ .agg a := fun a k => by
  subst k; simp [Value.okWide, Cell.okWide, Cell.ok, ht] at h
theorem u8_range {n : Int} (h : (Lit.int .u8 n).wf = true) : 0 ≤ n ∧ n < 256 := by
  simp only [Lit.wf, Bool.and_eq_true, decide_eq_true_eq] at h
  have h1 : (0 : Int) ≤ n := h.1
  have h2 : n ≤ 255 := h.2
  exact ⟨h1, by omega⟩
section
variable {H : Type} {enc : TypeId × Value → H} {W : World} {base : Nat} {spare : Nat → Bool} {held : Bool}
theorem rd_U8s : ReadsAs enc Try.prog W base spare held 71 (fun l : List Int => [uzV l]) (fun l => (∀ a ∈ l, (fun n => 0 ≤ n ∧ n < 256) a) ∧ l.length ≤ maxLen) := ReadsAs.slice Try.underlying71 (by rw [show Try.prog.cellsOf 5 = 1 from by kernel_rfl]; decide) (fun a => (uz1_length a).trans (by kernel_rfl)) rd_u8
end
end Go.Proofs.Ytepijhnfeafmaaa

end
section
/- What the law's helpers on plans answer: its example, an interface's cycle. -/
set_option linter.unusedVariables false
set_option linter.unusedSimpArgs false
set_option maxRecDepth 100000
namespace Go.Proofs.Ytepijhnfeafmaaa
open Go Go.Ideal
theorem awake33_w : CallK Try.prog 26 [] (.bool true) := CallK.runF progOK 3000 rfl rfl (by kernel_rfl) (by kernel_rfl)
theorem cycle_w (c : Conf) (i : Int) (hw : ConfWf c) (g : greatC c = false) : CallK Try.prog 27 [confV c, .int .i64 i] (intsV (labelsC c i)) := CallK.coe progOK (pfs []) [] 100 (Adv.pur (12 : Nat) (Value.tuple (Array.mk [Value.int IntKind.i64 (Prod.fst (checkR c)), Value.int IntKind.i64 (Prod.snd (checkR c))])) (Adv.split (20 : Nat) (Adv.split (25 : Nat) Adv.nil (Adv.split (32 : Nat) Adv.nil (Adv.chk (41 : Nat) none (Adv.chk (43 : Nat) (some (Value.agg (Array.mk (lblL (Face.lo (List.getD (Conf.faces c) (Int.toNat i) default)))))) (Adv.chk (47 : Nat) none (Adv.chk (49 : Nat) (some (Value.agg (Array.mk (lblL (Face.hi (List.getD (Conf.faces c) (Int.toNat i) default)))))) (Adv.pur (50 : Nat) (Value.iface (nat_lit 1000000) (Value.tuple (Array.mk [Value.int IntKind.i64 (↑(List.length (whB (fun (x : Lbl) => inL x (Face.lo (List.getD (Conf.faces c) (Int.toNat i) default)) (Face.hi (List.getD (Conf.faces c) (Int.toNat i) default))) (Conf.labels c) (List.length (Conf.labels c)))) : Int), Value.agg (Array.mk (intsL (whB (fun (x : Lbl) => inL x (Face.lo (List.getD (Conf.faces c) (Int.toNat i) default)) (Face.hi (List.getD (Conf.faces c) (Int.toNat i) default))) (Conf.labels c) (List.length (Conf.labels c)))))]))) Adv.nil))))))) Adv.nil)) (by kernel_rfl) (by kernel_rfl) (p := CallK Try.prog (nat_lit 18) [Value.agg (Array.mk (confL c))] (Value.tuple (Array.mk [Value.int IntKind.i64 (Prod.fst (checkR c)), Value.int IntKind.i64 (Prod.snd (checkR c))])) ∧ ((Prod.snd (checkR c) == (0 : Int)) = true → (decide (i < (0 : Int)) = true → Ideal.Coe (Value.slice none (nat_lit 0) (nat_lit 0)) (intsV (labelsC c i))) ∧ (decide (i < (0 : Int)) = false → (decide (i ≥ (↑(List.length (Conf.faces c)) : Int)) = true → Ideal.Coe (Value.slice none (nat_lit 0) (nat_lit 0)) (intsV (labelsC c i))) ∧ (decide (i ≥ (↑(List.length (Conf.faces c)) : Int)) = false → ((0 : Int) ≤ i ∧ i < (↑(List.length (Conf.faces c)) : Int)) ∧ Ask.holds Try.prog (Ask.part (Array.toList (Array.mk (facesL (Conf.faces c)))) (Int.toNat (↑(Int.toNat (↑(Int.toNat i * nat_lit 97) : Int) + nat_lit 4) : Int)) (nat_lit 31) (lblL (Face.lo (List.getD (Conf.faces c) (Int.toNat i) default)))) ∧ ((0 : Int) ≤ i ∧ i < (↑(List.length (Conf.faces c)) : Int)) ∧ Ask.holds Try.prog (Ask.part (Array.toList (Array.mk (facesL (Conf.faces c)))) (Int.toNat (↑(Int.toNat (↑(Int.toNat i * nat_lit 97) : Int) + nat_lit 35) : Int)) (nat_lit 31) (lblL (Face.hi (List.getD (Conf.faces c) (Int.toNat i) default)))) ∧ CallK Try.prog (nat_lit 25) [Value.iface (nat_lit 1000000) (Value.tuple (Array.mk [Value.int IntKind.i64 (↑(List.length (Conf.labels c)) : Int), Value.agg (Array.mk (lblsL (Conf.labels c)))])), Value.agg (Array.mk (lblL (Face.lo (List.getD (Conf.faces c) (Int.toNat i) default)))), Value.agg (Array.mk (lblL (Face.hi (List.getD (Conf.faces c) (Int.toNat i) default))))] (Value.iface (nat_lit 1000000) (Value.tuple (Array.mk [Value.int IntKind.i64 (↑(List.length (whB (fun (x : Lbl) => inL x (Face.lo (List.getD (Conf.faces c) (Int.toNat i) default)) (Face.hi (List.getD (Conf.faces c) (Int.toNat i) default))) (Conf.labels c) (List.length (Conf.labels c)))) : Int), Value.agg (Array.mk (intsL (whB (fun (x : Lbl) => inL x (Face.lo (List.getD (Conf.faces c) (Int.toNat i) default)) (Face.hi (List.getD (Conf.faces c) (Int.toNat i) default))) (Conf.labels c) (List.length (Conf.labels c)))))]))) ∧ Ideal.Coe (Value.iface (nat_lit 1000000) (Value.tuple (Array.mk [Value.int IntKind.i64 (↑(List.length (whB (fun (x : Lbl) => inL x (Face.lo (List.getD (Conf.faces c) (Int.toNat i) default)) (Face.hi (List.getD (Conf.faces c) (Int.toNat i) default))) (Conf.labels c) (List.length (Conf.labels c)))) : Int), Value.agg (Array.mk (intsL (whB (fun (x : Lbl) => inL x (Face.lo (List.getD (Conf.faces c) (Int.toNat i) default)) (Face.hi (List.getD (Conf.faces c) (Int.toNat i) default))) (Conf.labels c) (List.length (Conf.labels c)))))]))) (intsV (labelsC c i))))) ∧ ((Prod.snd (checkR c) == (0 : Int)) = false → Ideal.Coe (Value.slice none (nat_lit 0) (nat_lit 0)) (intsV (labelsC c i)))) (by kernel_rfl) (by
    have hok := hw.ok g
    have hl := great_len g
    refine ⟨ref17_w _ hok, fun h3 => ⟨fun h4 => nil_labels ?_, fun h4 => ⟨fun h5 => nil_labels ?_, fun h5 => ?_⟩⟩, fun h3 => nil_labels ?_⟩
    · have := of_decide_eq_true h4
      rw [decide_eq_false (by omega : ¬ 0 ≤ i), Bool.false_and, Bool.and_false]
    · have := of_decide_eq_true h5
      rw [decide_eq_false (by omega : ¬ i < c.faces.length), Bool.and_false, Bool.and_false]
    · have h4' := of_decide_eq_false h4
      have h5' := of_decide_eq_false h5
      have hi : i.toNat < c.faces.length := by omega
      have hf := hw.faces _ (getD_mem (d := default) hi)
      have hr : rightC c = true := h3
      have hlc := labelsC_t hr (show 0 ≤ i by omega) (show i < c.faces.length by omega)
      refine ⟨⟨by omega, by omega⟩, faces_part hi 4 31 (by omega) rfl rfl, ⟨by omega, by omega⟩, faces_part hi 35 31 (by omega) rfl rfl, refWithinL_w _ _ _ hl hw.labels hf.1 hf.2.1, ?_⟩
      rw [hlc]; exact Coe.refl _
    · rw [show rightC c = false from h3]; rfl)
end Go.Proofs.Ytepijhnfeafmaaa

end
