/- Labels and prefixes, compared. -/
import Derived.Test.YtepijhnfeafmaaaCCatsLaw
import Derived.Test.YtepijhnfeafmaaaAPrg
set_option linter.unusedVariables false
set_option linter.unusedSimpArgs false
set_option maxRecDepth 100000
set_option linter.unusedVariables false
set_option linter.unusedSimpArgs false
namespace Go.Proofs.Ytepijhnfeafmaaa
open Go Go.Ideal

def catsEq (a b : List Int) : Bool := a.getD 0 0 == b.getD 0 0 && (a.getD 1 0 == b.getD 1 0 && (a.getD 2 0 == b.getD 2 0 && (a.getD 3 0 == b.getD 3 0 && (a.getD 4 0 == b.getD 4 0 && (a.getD 5 0 == b.getD 5 0 && (a.getD 6 0 == b.getD 6 0 && (a.getD 7 0 == b.getD 7 0 && (a.getD 8 0 == b.getD 8 0 && (a.getD 9 0 == b.getD 9 0 && (a.getD 10 0 == b.getD 10 0 && (a.getD 11 0 == b.getD 11 0 && (a.getD 12 0 == b.getD 12 0 && (a.getD 13 0 == b.getD 13 0 && (a.getD 14 0 == b.getD 14 0 && (a.getD 15 0 == b.getD 15 0 && (a.getD 16 0 == b.getD 16 0 && (a.getD 17 0 == b.getD 17 0 && (a.getD 18 0 == b.getD 18 0 && (a.getD 19 0 == b.getD 19 0 && (a.getD 20 0 == b.getD 20 0 && (a.getD 21 0 == b.getD 21 0 && (a.getD 22 0 == b.getD 22 0 && (a.getD 23 0 == b.getD 23 0 && (a.getD 24 0 == b.getD 24 0 && (a.getD 25 0 == b.getD 25 0 && (a.getD 26 0 == b.getD 26 0 && (a.getD 27 0 == b.getD 27 0 && (a.getD 28 0 == b.getD 28 0 && (a.getD 29 0 == b.getD 29 0)))))))))))))))))))))))))))))
def lblEq (x y : Lbl) : Bool := x.level == y.level && catsEq x.cats y.cats
def pfxEq (x y : Pfx) : Bool := x.addr == y.addr && x.bits == y.bits
theorem lblEq_eqD (x y : Lbl) : eqD Try.prog 10000 44 (lblV x) (lblV y) = some (lblEq x y) := by kernel_rfl
theorem pfxEq_eqD (x y : Pfx) : eqD Try.prog 10000 48 (pfxV x) (pfxV y) = some (pfxEq x y) := by kernel_rfl
theorem catsEq_all (a b : List Int) : catsEq a b = (List.range 30).all fun i => a.getD i 0 == b.getD i 0 := by
  have e : List.range 30 = [0, 1, 2, 3, 4, 5, 6, 7, 8, 9, 10, 11, 12, 13, 14, 15, 16, 17, 18, 19, 20, 21, 22, 23, 24, 25, 26, 27, 28, 29] := rfl
  rw [e]
  simp only [List.all_cons, List.all_nil, Bool.and_true]
  rfl
theorem catsEq_iff {a b : List Int} (ha : a.length = 30) (hb : b.length = 30) : catsEq a b = true ↔ a = b := by
  rw [catsEq_all, List.all_eq_true]
  constructor
  · intro h
    refine List.ext_getElem (ha.trans hb.symm) fun i h1 h2 => ?_
    have := h i (by rw [List.mem_range]; omega)
    simpa [List.getD, List.getElem?_eq_getElem h1, List.getElem?_eq_getElem h2] using this
  · intro h i _; subst h; simp
theorem lblEq_iff {x y : Lbl} (hx : x.cats.length = 30) (hy : y.cats.length = 30) : lblEq x y = true ↔ x = y := by
  unfold lblEq
  rw [Bool.and_eq_true, catsEq_iff hx hy, beq_iff_eq]
  cases x; cases y; simp
theorem pfxEq_iff {x y : Pfx} : pfxEq x y = true ↔ x = y := by
  unfold pfxEq
  rw [Bool.and_eq_true, beq_iff_eq, beq_iff_eq]
  cases x; cases y; simp
theorem getD_mem {α : Type} {l : List α} {d : α} {i : Nat} (h : i < l.length) : l.getD i d ∈ l := by
  simp only [List.getD, List.getElem?_eq_getElem h, Option.getD_some]; exact List.getElem_mem h

/-- A part of a list's cells. -/
theorem cellsOf_drop {α : Type} {f : α → List Value} {n : Nat} (hf : ∀ a, (f a).length = n) : ∀ (l : List α) (k : Nat), k ≤ l.length → (cellsOf f l).drop (k * n) = cellsOf f (l.drop k)
  | l, 0, _ => by simp
  | [], k + 1, h => by simp at h
  | a :: l, k + 1, h => by
    simp only [cellsOf, List.drop_succ_cons]
    rw [show (k + 1) * n = (f a).length + k * n by rw [hf, Nat.succ_mul, Nat.add_comm], ← List.drop_drop, List.drop_left]
    exact cellsOf_drop hf l k (by simpa using h)
theorem cellsOf_part {α : Type} {f : α → List Value} {n : Nat} (hf : ∀ a, (f a).length = n) {l : List α} {k : Nat} (d : α) (hk : k < l.length) (r m : Nat) (hr : r + m ≤ n) (out : List Value) (ho : ((f (l.getD k d)).drop r).take m = out) {P : Program} :
    (Ask.part (cellsOf f l) (k * n + r) m out).holds P := by
  refine ⟨?_, ?_⟩
  · rw [cellsOf_length hf]
    have : (k + 1) * n ≤ l.length * n := Nat.mul_le_mul_right n hk
    rw [Nat.succ_mul] at this; omega
  · rw [← List.drop_drop, cellsOf_drop hf l k (Nat.le_of_lt hk)]
    have e : l.drop k = l.getD k d :: l.drop (k + 1) := by
      simp only [List.getD, List.getElem?_eq_getElem hk, Option.getD_some]; exact List.drop_eq_getElem_cons hk
    rw [e]; simp only [cellsOf]
    rw [List.drop_append_of_le_length (by rw [hf]; omega), List.take_append_of_le_length (by rw [List.length_drop, hf]; omega)]
    exact ho
end Go.Proofs.Ytepijhnfeafmaaa
