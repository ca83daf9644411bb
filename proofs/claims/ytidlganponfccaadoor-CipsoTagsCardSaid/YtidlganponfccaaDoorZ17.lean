/- Texts packed together: CAddrLaw CCatsLaw CReadsD CComF CCats CCats2 CEq0 CEqR IShelf CList CCatsLaw5. -/
import Derived.WalkArith
import Derived.Test.YtidlganponfccaaDoorZ16
section
/- The plain law of addresses and prefixes: no program in sight. -/
set_option linter.unusedVariables false
set_option linter.unusedSimpArgs false
set_option linter.unusedVariables false
set_option linter.unusedSimpArgs false
namespace Go.Proofs.YtidlganponfccaaDoor
open Go Go.Ideal

theorem wrap_in {n : Int} (h0 : -9223372036854775808 ≤ n) (h1 : n ≤ 9223372036854775807) : IntKind.i64.wrap n = n := by rw [IntKind.wrap_i64]; omega
end Go.Proofs.YtidlganponfccaaDoor

end
section
/- The plain law of sets: no program in sight. -/
set_option linter.unusedVariables false
set_option linter.unusedSimpArgs false
set_option linter.unusedVariables false
set_option linter.unusedSimpArgs false
namespace Go.Proofs.YtidlganponfccaaDoor
open Go Go.Ideal

def and8 (x y : Int) : Int := IntKind.u8.wrap (BitVec.ofInt 8 x &&& BitVec.ofInt 8 y).toNat
def hasC (c : List Int) (k : Int) : Bool := decide (0 ≤ k) && decide (k < 240) && and8 ((c.getD (k / 8).toNat 0).fdiv (2 ^ (7 - k % 8).toNat)) 1 == 1
/-- A set's bytes are bytes. -/
def CatsOK (c : List Int) : Prop := c.length = 30 ∧ ∀ x ∈ c, 0 ≤ x ∧ x < 256

theorem CatsOK.get {c : List Int} (h : CatsOK c) (i : Nat) : ∃ X : Nat, c.getD i 0 = X ∧ X < 256 := by
  rcases Nat.lt_or_ge i c.length with k | k
  · have := h.2 _ (List.getElem_mem k)
    refine ⟨(c.getD i 0).toNat, ?_, ?_⟩ <;> simp only [List.getD, List.getElem?_eq_getElem k, Option.getD_some] <;> omega
  · exact ⟨0, by simp [List.getD, List.getElem?_eq_none k], by decide⟩
theorem bv8 {n : Nat} (h : n < 256) : (BitVec.ofInt 8 (n : Int)).toNat = n := by
  rw [BitVec.toNat_ofInt]; omega
theorem and8N {X Y : Nat} (hX : X < 256) (hY : Y < 256) : and8 X Y = ((X &&& Y : Nat) : Int) := by
  unfold and8
  rw [BitVec.toNat_and, bv8 hX, bv8 hY, IntKind.wrap_u8]
  have : X &&& Y ≤ X := Nat.and_le_left
  omega
theorem bit8N {X : Nat} (hX : X < 256) (m : Nat) : (and8 ((X : Int).fdiv (2 ^ m)) 1 == 1) = X.testBit m := by
  have e : (X : Int).fdiv (2 ^ m) = ((X / 2 ^ m : Nat) : Int) := by
    rw [Int.fdiv_eq_ediv_of_nonneg _ (Int.le_of_lt (Int.pow_pos (by decide)))]; simp
  have hl : X / 2 ^ m < 256 := Nat.lt_of_le_of_lt (Nat.div_le_self _ _) hX
  rw [e, show (1 : Int) = ((1 : Nat) : Int) from rfl, and8N hl (by decide), Nat.and_one_is_mod, Nat.testBit_eq_decide_div_mod_eq]
  apply Bool.eq_iff_iff.2
  simp only [beq_iff_eq, decide_eq_true_eq]
  omega
theorem hasC_bit {c : List Int} (h : CatsOK c) {k : Int} (h0 : 0 ≤ k) (h1 : k < 240) : ∃ X : Nat, c.getD (k / 8).toNat 0 = X ∧ X < 256 ∧ hasC c k = X.testBit (7 - k % 8).toNat := by
  obtain ⟨X, e, hX⟩ := h.get (k / 8).toNat
  refine ⟨X, e, hX, ?_⟩
  unfold hasC
  rw [decide_eq_true h0, decide_eq_true h1, e, bit8N hX]; rfl
end Go.Proofs.YtidlganponfccaaDoor

end
section
/- What a law is handed of sets and labels, read as plain data. -/
set_option linter.unusedVariables false
set_option maxRecDepth 100000
set_option linter.unusedVariables false
set_option linter.unusedSimpArgs false
namespace Go.Proofs.YtidlganponfccaaDoor
open Go Go.Ideal Go.RowKit
theorem readsW {H : Type} {enc : TypeId × Value → H} {P : Program} {W : World} {base : Nat} {spare : Nat → Bool} {held : Bool} {t : TypeId} {α β : Type} {f : α → List Value} {wf : α → Prop} {f' : β → List Value} {wf' : β → Prop} (h : ReadsAs enc P W base spare held t f wf) (g : α → β) (hf : ∀ a, wf a → f' (g a) = f a) (hw : ∀ a, wf a → wf' (g a)) : ReadsAs enc P W base spare held t f' wf' := fun fuel cs x k => by
  obtain ⟨a, a1, a2⟩ := h fuel cs x k
  exact ⟨g a, hw a a1, by rw [hf a a1]; exact a2⟩
theorem cellsOf_map {α : Type} (f : α → Value) : ∀ l : List α, cellsOf (fun a => [f a]) l = l.map f
  | [] => rfl
  | a :: l => by simp only [cellsOf, List.map_cons, cellsOf_map f l]; rfl
theorem catsL_cells {l : List Int} (h : l.length = 30) : catsL l = cellsOf (fun n : Int => [.int .u8 n]) l := by
  rw [cellsOf_map]
  have e : catsL l = (List.range 30).map fun i => Value.int .u8 (l.getD i 0) := rfl
  rw [e]
  refine List.ext_getElem (by simp [h]) fun i h1 h2 => ?_
  have hi : i < l.length := by simpa using h2
  simp [List.getD, List.getElem?_eq_getElem hi]
section
variable {H : Type} {enc : TypeId × Value → H} {W : World} {base : Nat} {spare : Nat → Bool} {held : Bool}
theorem rd_i64 : ReadsAs enc Tryd.prog W base spare held 3 (fun n : Int => [.int .i64 n]) (fun _ => True) := readsW (ReadsAs.int Tryd.underlying3) id (fun _ _ => rfl) fun _ _ => trivial
theorem rd_u8 : ReadsAs enc Tryd.prog W base spare held 5 (fun n : Int => [.int .u8 n]) (fun n => 0 ≤ n ∧ n < 256) := readsW (ReadsAs.int Tryd.underlying5) id (fun _ _ => rfl) fun n h => by
  simp only [Lit.wf, Bool.and_eq_true, decide_eq_true_eq] at h
  have h1 : (0 : Int) ≤ n := h.1
  have h2 : n ≤ 255 := h.2
  exact ⟨h1, show n < 256 by omega⟩
theorem rd_Cats : ReadsAs enc Tryd.prog W base spare held 23 catsL CatsOK := readsW (ReadsAs.array Tryd.underlying23 (m := 1) (by kernel_rfl) (by kernel_rfl) rd_u8) id (fun _ h => catsL_cells h.1) fun _ h => h
end
end Go.Proofs.YtidlganponfccaaDoor

end
section
/- A world for the witness: what the door's run leaves, Go's own table laid beside it. -/
set_option linter.unusedVariables false
set_option linter.unusedSimpArgs false
namespace Go.Proofs.YtidlganponfccaaDoor
open Go
def litValue : DataW Unit → Value
  | .lit (.int k n) => .int k n
  | _ => Go.undef
def tabCells : DataW Unit → Array Value
  | .agg l => (l.map litValue).toArray
  | _ => #[]
noncomputable def laidWorldF (os : Os) : World :=
  { World.doorLaid Tryd.prog 100 os with heap := (World.doorLaid Tryd.prog 100 os).heap.modify 4 fun
      | .cells _ t frozen => .cells (tabCells Go.Pinned.utf8First) t frozen
      | o => o }
end Go.Proofs.YtidlganponfccaaDoor

end
section
/- What the functions of sets answer. -/
set_option linter.unusedVariables false
set_option linter.unusedSimpArgs false
set_option maxRecDepth 100000
namespace Go.Proofs.YtidlganponfccaaDoor
open Go Go.Ideal
theorem catsL_part (c : List Int) (i : Nat) (h : i < 30) : (Ask.part (catsL c) (0 + i * 1) 1 [.int .u8 (c.getD i 0)]).holds Tryd.prog := by
  rw [Nat.zero_add, Nat.mul_one]
  refine ⟨h, ?_⟩
  have e : catsL c = (List.range 30).map fun i => Value.int .u8 (c.getD i 0) := rfl
  rw [e, List.drop_eq_getElem_cons (by simpa using h)]
  simp
theorem has_w (c : List Int) (k : Int) : CallK Tryd.prog 21 [catsV c, .int .i64 k] (.bool (hasC c k)) := CallK.via progOK (pfs []) [] 100 (Adv.split (5 : Nat) (Adv.split (8 : Nat) (Adv.chk (13 : Nat) none (Adv.chk (14 : Nat) (some (Value.int IntKind.u8 (List.getD c (Int.toNat (IntKind.wrap IntKind.i64 (Int.tdiv k (8 : Int)))) (0 : Int)))) (Adv.chk (18 : Nat) none (Adv.split (20 : Nat) Adv.nil Adv.nil)))) Adv.nil) Adv.nil) (by kernel_rfl) (by kernel_rfl) (p := (decide (k ≥ (0 : Int)) = true → (decide (k < (240 : Int)) = true → ((0 : Int) ≤ IntKind.wrap IntKind.i64 (Int.tdiv k (8 : Int)) ∧ IntKind.wrap IntKind.i64 (Int.tdiv k (8 : Int)) < (30 : Int)) ∧ Ask.holds Tryd.prog (Ask.part (catsL c) (nat_lit 0 + Int.toNat (IntKind.wrap IntKind.i64 (Int.tdiv k (8 : Int))) * nat_lit 1) (nat_lit 1) [Value.int IntKind.u8 (List.getD c (Int.toNat (IntKind.wrap IntKind.i64 (Int.tdiv k (8 : Int)))) (0 : Int))]) ∧ (0 : Int) ≤ IntKind.wrap IntKind.i64 ((7 : Int) - Int.tmod k (8 : Int)) ∧ ((IntKind.wrap IntKind.u8 (↑(BitVec.toNat (BitVec.ofInt (IntKind.bits IntKind.u8) (Int.fdiv (List.getD c (Int.toNat (IntKind.wrap IntKind.i64 (Int.tdiv k (8 : Int)))) (0 : Int)) ((2 : Int) ^ min (Int.toNat (IntKind.wrap IntKind.i64 ((7 : Int) - Int.tmod k (8 : Int)))) (IntKind.bits IntKind.u8))) &&& BitVec.ofInt (IntKind.bits IntKind.u8) (1 : Int))) : Int) == (1 : Int)) = true → Value.bool true = Value.bool (hasC c k)) ∧ ((IntKind.wrap IntKind.u8 (↑(BitVec.toNat (BitVec.ofInt (IntKind.bits IntKind.u8) (Int.fdiv (List.getD c (Int.toNat (IntKind.wrap IntKind.i64 (Int.tdiv k (8 : Int)))) (0 : Int)) ((2 : Int) ^ min (Int.toNat (IntKind.wrap IntKind.i64 ((7 : Int) - Int.tmod k (8 : Int)))) (IntKind.bits IntKind.u8))) &&& BitVec.ofInt (IntKind.bits IntKind.u8) (1 : Int))) : Int) == (1 : Int)) = false → Value.bool false = Value.bool (hasC c k))) ∧ (decide (k < (240 : Int)) = false → Value.bool false = Value.bool (hasC c k))) ∧ (decide (k ≥ (0 : Int)) = false → Value.bool false = Value.bool (hasC c k))) (by kernel_rfl) (by
    simp only [decide_eq_true_eq, decide_eq_false_iff_not, ge_iff_le]
    refine ⟨fun h0 => ⟨fun h1 => ?_, fun h1 => ?_⟩, fun h0 => ?_⟩
    · have e1 : IntKind.i64.wrap (k.tdiv 8) = k / 8 := by rw [Int.tdiv_eq_ediv_of_nonneg h0, wrap_in (by omega) (by omega)]
      have e2 : IntKind.i64.wrap (7 - k.tmod 8) = 7 - k % 8 := by rw [Int.tmod_eq_emod_of_nonneg h0, wrap_in (by omega) (by omega)]
      have e3 : min (7 - k % 8).toNat IntKind.u8.bits = (7 - k % 8).toNat := Nat.min_eq_left (by show _ ≤ 8; omega)
      rw [e1, e2, e3]
      refine ⟨⟨by omega, by omega⟩, catsL_part c _ (by omega), by omega, fun h2 => ?_, fun h2 => ?_⟩
      · unfold hasC; rw [decide_eq_true h0, decide_eq_true h1]; exact congrArg Value.bool h2.symm
      · unfold hasC; rw [decide_eq_true h0, decide_eq_true h1]; exact congrArg Value.bool h2.symm
    · unfold hasC; rw [decide_eq_true h0, decide_eq_false h1]; rfl
    · unfold hasC; rw [decide_eq_false h0]; rfl)
end Go.Proofs.YtidlganponfccaaDoor

end
section
/- What the functions of sets answer: within. -/
set_option linter.unusedVariables false
set_option linter.unusedSimpArgs false
set_option maxRecDepth 100000
namespace Go.Proofs.YtidlganponfccaaDoor
open Go Go.Ideal
end Go.Proofs.YtidlganponfccaaDoor

end
section
/- Labels and prefixes, compared. -/
set_option linter.unusedVariables false
set_option linter.unusedSimpArgs false
set_option maxRecDepth 100000
set_option linter.unusedVariables false
set_option linter.unusedSimpArgs false
namespace Go.Proofs.YtidlganponfccaaDoor
open Go Go.Ideal

/-- A part of a list's cells. -/
theorem cellsOf_drop {α : Type} {f : α → List Value} {n : Nat} (hf : ∀ a, (f a).length = n) : ∀ (l : List α) (k : Nat), k ≤ l.length → (cellsOf f l).drop (k * n) = cellsOf f (l.drop k)
  | l, 0, _ => by simp
  | [], k + 1, h => by simp at h
  | a :: l, k + 1, h => by
    simp only [cellsOf, List.drop_succ_cons]
    rw [show (k + 1) * n = (f a).length + k * n by rw [hf, Nat.succ_mul, Nat.add_comm], ← List.drop_drop, List.drop_left]
    exact cellsOf_drop hf l k (by simpa using h)
theorem cellsOf_part {α : Type} {f : α → List Value} {n : Nat} (hf : ∀ a, (f a).length = n) {l : List α} {k : Nat} (d : α) (hk : k < l.length) (r m : Nat) (hr : r + m ≤ n) (out : List Value) (ho : ((f (l.getD k d)).drop r).take m = out) {P : Program} :
    (Ask.part (cellsOf f l) (k * n + r) m out).holds P := by
  refine ⟨?_, ?_⟩
  · rw [cellsOf_length hf]
    have : (k + 1) * n ≤ l.length * n := Nat.mul_le_mul_right n hk
    rw [Nat.succ_mul] at this; omega
  · rw [← List.drop_drop, cellsOf_drop hf l k (Nat.le_of_lt hk)]
    have e : l.drop k = l.getD k d :: l.drop (k + 1) := by
      simp only [List.getD, List.getElem?_eq_getElem hk, Option.getD_some]; exact List.drop_eq_getElem_cons hk
    rw [e]; simp only [cellsOf]
    rw [List.drop_append_of_le_length (by rw [hf]; omega), List.take_append_of_le_length (by rw [List.length_drop, hf]; omega)]
    exact ho
end Go.Proofs.YtidlganponfccaaDoor

end
section
/- Sets and labels, compared: by the program's types. -/
set_option maxRecDepth 100000
set_option linter.unusedVariables false
set_option linter.unusedSimpArgs false
namespace Go.Proofs.YtidlganponfccaaDoor
open Go Go.Ideal
end Go.Proofs.YtidlganponfccaaDoor

end
section
/- What the library's functions answer, as told by contracts over any world. Over any program. -/
set_option linter.unusedVariables false
set_option linter.unusedSimpArgs false
namespace Go.Ideal
open Go.RowKit
variable {P : Program}
/-- The world goes on: nothing that was there is another. -/
theorem HRel.goes {B : Nat} {w0 : Org} {σ : Sg} {h : Heap} {w w' : World} (H : HRel P B w0 σ h w) (hb' : Below w.heap.size w w') : HRel P B w0 σ h w' := by
  have hs := H.size
  refine ⟨H.below.trans (hb'.mono hs), Nat.le_trans hs hb'.size, H.dom, fun i x hx => Nat.lt_of_lt_of_le (H.codom i x hx) hb'.size, H.glob, fun i b hg => ?_, H.inj, ?_, H.old, H.tdom⟩
  · exact (H.blk i b hg).same fun _ b' hl => hb'.block _ (H.blk_lt hg hl)
  · refine ⟨fun b o v hv => ?_, fun b es he => ?_⟩
    · obtain ⟨cc, t, fz, q1, q2⟩ := H.frz.c b o v hv
      exact ⟨cc, t, fz, by rw [hb'.block _ (Array.getElem?_eq_some_iff.1 q1).1]; exact q1, q2⟩
    · obtain ⟨cl, q⟩ := H.frz.m b es he
      exact ⟨cl, by rw [hb'.block _ (Array.getElem?_eq_some_iff.1 q).1]; exact q⟩
theorem CallK.ofBelow {f : FuncId} {args : List Value} {v : Value} (hv : flat v = true) (hc : ∀ (σ : Sg) (w : World) (args' : Array Value), FzOK σ.f w → LRel σ args args'.toList → Calls P f args' w fun e w' => e = .returned v ∧ Below w.heap.size w w') : CallK P f args v :=
  fun h B w0 σ w args' H ha => (hc σ w args' H.frz ha).mono fun e w' ⟨k1, k2⟩ => ⟨v, v, h, k1, ⟨rfl, rfl⟩, σ, Sg.le_refl σ, flat_rel hv σ, H.goes k2⟩
theorem CallK.ofSame {f : FuncId} {args : List Value} {v : Value} (hv : flat v = true) (ha : args.all flat = true) (hc : ∀ (w : World), Calls P f args.toArray w fun e w' => e = .returned v ∧ w' = w) : CallK P f args v :=
  CallK.ofBelow hv fun σ w args' _ hr => by
    have : ∀ {l l' : List Value}, LRel σ l l' → l.all flat = true → l = l' := fun {l l'} h => by
      induction h with
      | nil => intro _; rfl
      | cons k _ ih => intro hh; simp only [List.all_cons, Bool.and_eq_true] at hh; rw [flat_eq hh.1 k, ih hh.2]
    have e : args.toArray = args' := by rw [this hr ha]
    subst e
    exact (hc w).mono fun e w' ⟨k1, k2⟩ => ⟨k1, by rw [k2]; exact Below.refl _ _⟩
end Go.Ideal

end
section
/- Lists: the first element of which something holds; what is wrong first. -/
set_option linter.unusedVariables false
set_option linter.unusedSimpArgs false
namespace Go.Proofs.YtidlganponfccaaDoor
open Go Go.Ideal

theorem cellsOf_snoc {α : Type} (f : α → List Value) (l : List α) (a : α) : cellsOf f (l ++ [a]) = cellsOf f l ++ f a := by
  rw [cellsOf_append]; simp [cellsOf]
theorem take_snoc {α : Type} {l : List α} {k : Nat} (d : α) (hk : k < l.length) : l.take (k + 1) = l.take k ++ [l.getD k d] := by
  rw [List.take_add_one]
  simp [List.getD, List.getElem?_eq_getElem hk]
theorem mul_room {a b : Int} (A B : Int) (ha : a ≤ A) (h0 : 0 ≤ b) (hb : b ≤ B) (hA : 0 ≤ A) (h : A * B ≤ 1099511627776) : a * b ≤ 1099511627776 :=
  Int.le_trans (Int.mul_le_mul ha hb h0 hA) h
theorem wrap_next (k : Nat) (h : k < 9223372036854775807) : Value.int IntKind.i64 (IntKind.wrap IntKind.i64 ((k : Int) + 1)) = Value.int IntKind.i64 ((k + 1 : Nat) : Int) := congrArg _ (wrap_in (by omega) (by omega))
theorem cellsOf_take {α : Type} {f : α → List Value} {n : Nat} (hf : ∀ a, (f a).length = n) : ∀ (l : List α) (k : Nat), (cellsOf f l).take (k * n) = cellsOf f (l.take k)
  | _, 0 => by simp [cellsOf]
  | [], k + 1 => by simp [cellsOf]
  | a :: l, k + 1 => by
    simp only [cellsOf, List.take_succ_cons]
    rw [show (k + 1) * n = (f a).length + k * n by rw [hf, Nat.succ_mul, Nat.add_comm], List.take_length_add_append, cellsOf_take hf l k]
end Go.Proofs.YtidlganponfccaaDoor

end
section
/- The plain law of sets: with and without some, how many, which; two sets of the same are the same. -/
set_option linter.unusedVariables false
set_option linter.unusedSimpArgs false
set_option linter.unusedVariables false
set_option linter.unusedSimpArgs false
namespace Go.Proofs.YtidlganponfccaaDoor
open Go Go.Ideal

def rightI (k : Int) : Bool := decide (0 ≤ k) && decide (k ≤ 239)
def catBit (k : Int) : Int := (128 : Int).fdiv (2 ^ (k % 8).toNat)
def setC (c : List Int) (i : Nat) (x : Int) : List Int := (List.range 30).map fun j => if j = i then x else c.getD j 0
def orC (x y : Int) : Int := IntKind.u8.wrap (BitVec.ofInt 8 x ||| BitVec.ofInt 8 y).toNat
def add1 (c : List Int) (k : Int) : List Int := match rightI k with
  | true => setC c (k / 8).toNat (orC (c.getD (k / 8).toNat 0) (catBit k))
  | false => c
def withC (c : List Int) (l : List Int) : List Int := l.foldl add1 c
theorem rightI_iff {k : Int} : rightI k = true ↔ 0 ≤ k ∧ k ≤ 239 := by unfold rightI; simp
theorem q8 {k : Int} (h : rightI k = true) : IntKind.i64.wrap (k.tdiv 8) = k / 8 ∧ 0 ≤ k / 8 ∧ k / 8 < 30 ∧ (k / 8).toNat < 30 := by
  obtain ⟨h0, h1⟩ := rightI_iff.1 h
  refine ⟨by rw [Int.tdiv_eq_ediv_of_nonneg h0, wrap_in (by omega) (by omega)], by omega, by omega, by omega⟩
theorem catBitN {k : Int} (h0 : 0 ≤ k) : catBit k = ((2 ^ (7 - k % 8).toNat : Nat) : Int) := by
  unfold catBit
  have h8 : k % 8 < 8 := Int.emod_lt_of_pos _ (by decide)
  have h9 : 0 ≤ k % 8 := Int.emod_nonneg _ (by decide)
  obtain ⟨m, hm⟩ := Int.eq_ofNat_of_zero_le h9
  rw [hm] at h8 ⊢
  have : m < 8 := by omega
  have e : ∀ m : Fin 8, Int.fdiv 128 (2 ^ ((m.val : Nat) : Int).toNat) = ((2 ^ (7 - ((m.val : Nat) : Int)).toNat : Nat) : Int) := by decide
  exact e ⟨m, this⟩
theorem pow_lt {m : Nat} (h : m < 8) : 2 ^ m < 256 := Nat.pow_lt_pow_right (by decide) (show m < 8 from h)
theorem orC_nat {X Y : Nat} (hX : X < 256) (hY : Y < 256) : orC X Y = ((X ||| Y : Nat) : Int) := by
  unfold orC
  rw [BitVec.toNat_or, bv8 hX, bv8 hY, IntKind.wrap_u8]
  have : X ||| Y < 256 := Nat.or_lt_two_pow (n := 8) hX hY
  omega
theorem catsL_map (c : List Int) : catsL c = (List.range 30).map fun i => Value.int .u8 (c.getD i 0) := rfl
theorem setC_get {c : List Int} {i j : Nat} (hj : j < 30) (x : Int) : (setC c i x).getD j 0 = if j = i then x else c.getD j 0 := by
  simp [setC, List.getD, hj]
theorem splice_set (c : List Int) {i : Nat} (hi : i < 30) (x : Int) : splice (catsL c) (0 + i * 1) (Value.cellList (.int .u8 x)) = catsL (setC c i x) := by
  rw [Nat.zero_add, Nat.mul_one]
  have e : Value.cellList (.int .u8 x) = [.int .u8 x] := rfl
  rw [e, catsL_map, catsL_map]
  apply List.ext_getElem?
  intro j
  have hl : ((List.range 30).map fun i => Value.int .u8 (c.getD i 0)).length = 30 := by simp
  simp only [splice, List.length_cons, List.length_nil]
  rcases Nat.lt_trichotomy j i with h | h | h
  · rw [List.append_assoc, List.getElem?_append_left (by simp; omega), List.getElem?_take, if_pos h, List.getElem?_map, List.getElem?_map, List.getElem?_range (by omega), Option.map_some, Option.map_some, setC_get (by omega), if_neg (by omega)]
  · subst h
    rw [List.append_assoc, List.getElem?_append_right (by simp; omega), List.getElem?_map, List.getElem?_range (by omega), Option.map_some, setC_get (by omega), if_pos rfl]
    have : j - (List.take j ((List.range 30).map fun i => Value.int .u8 (c.getD i 0))).length = 0 := by simp; omega
    rw [this]; rfl
  · rw [List.getElem?_append_right (by simp; omega)]
    have : j - (List.take i ((List.range 30).map fun i => Value.int .u8 (c.getD i 0)) ++ [Value.int .u8 x]).length = j - (i + 1) := by simp; omega
    rw [this, List.getElem?_drop, show i + (0 + 1) + (j - (i + 1)) = j by omega, List.getElem?_map, List.getElem?_map]
    rcases Nat.lt_or_ge j 30 with k | k
    · rw [List.getElem?_range k, Option.map_some, Option.map_some, setC_get k, if_neg (by omega)]
    · rw [List.getElem?_eq_none (by simpa using k)]; rfl

theorem hasC_fun {f : Nat → Int} (hf : ∀ i, i < 30 → ∃ X : Nat, f i = X ∧ X < 256) {k : Int} (h0 : 0 ≤ k) (h1 : k < 240) {X : Nat} (e : f (k / 8).toNat = X) : hasC ((List.range 30).map f) k = X.testBit (7 - k % 8).toNat := by
  have hi : (k / 8).toNat < 30 := by omega
  have hok : CatsOK ((List.range 30).map f) := by
    refine ⟨by simp, fun x hx => ?_⟩
    obtain ⟨i, hi, rfl⟩ := List.mem_map.1 hx
    obtain ⟨X, e, h⟩ := hf i (List.mem_range.1 hi)
    omega
  obtain ⟨Y, e2, hY, h⟩ := hasC_bit hok h0 h1
  rw [h]
  have : ((List.range 30).map f).getD (k / 8).toNat 0 = f (k / 8).toNat := by simp [List.getD, hi]
  rw [this, e] at e2
  rw [show X = Y by omega]
theorem cats_fun {f : Nat → Int} (hf : ∀ i, i < 30 → ∃ X : Nat, f i = X ∧ X < 256) : CatsOK ((List.range 30).map f) := by
  refine ⟨by simp, fun x hx => ?_⟩
  obtain ⟨i, hi, rfl⟩ := List.mem_map.1 hx
  obtain ⟨X, e, h⟩ := hf i (List.mem_range.1 hi)
  omega
theorem add1_ok {c : List Int} (h : CatsOK c) (k : Int) : CatsOK (add1 c k) := by
  unfold add1
  split
  · rename_i hr
    obtain ⟨X, e, hX⟩ := h.get (k / 8).toNat
    obtain ⟨h0, h1⟩ := rightI_iff.1 hr
    refine cats_fun fun i _ => ?_
    split
    · rw [e, catBitN h0]
      exact ⟨_, orC_nat hX (pow_lt (by omega)), Nat.or_lt_two_pow (n := 8) hX (pow_lt (by omega))⟩
    · exact h.get i
  · exact h
theorem has_add1 {c : List Int} (h : CatsOK c) (k : Int) {j : Int} (j0 : 0 ≤ j) (j1 : j < 240) : hasC (add1 c k) j = (hasC c j || j == k) := by
  unfold add1
  split
  · rename_i hr
    obtain ⟨X, e, hX⟩ := h.get (k / 8).toNat
    obtain ⟨Y, e2, hY, hb⟩ := hasC_bit h j0 j1
    obtain ⟨h0, h1⟩ := rightI_iff.1 hr
    have hf : ∀ i, i < 30 → ∃ Z : Nat, (if i = (k / 8).toNat then orC (c.getD (k / 8).toNat 0) (catBit k) else c.getD i 0) = Z ∧ Z < 256 := fun i _ => by
      split
      · rw [e, catBitN h0]
        exact ⟨_, orC_nat hX (pow_lt (by omega)), Nat.or_lt_two_pow (n := 8) hX (pow_lt (by omega))⟩
      · exact h.get i
    by_cases hjk : (j / 8).toNat = (k / 8).toNat
    · have eXY : X = Y := by rw [hjk] at e2; omega
      subst eXY
      unfold setC
      rw [hasC_fun hf j0 j1 (X := X ||| 2 ^ (7 - k % 8).toNat) (by rw [if_pos hjk, e, catBitN h0]; exact orC_nat hX (pow_lt (by omega))), hb, Nat.testBit_or, Nat.testBit_two_pow]
      congr 1
      rw [Bool.eq_iff_iff]
      simp only [decide_eq_true_eq, beq_iff_eq]
      omega
    · unfold setC
      rw [hasC_fun hf j0 j1 (X := Y) (by rw [if_neg hjk]; exact e2), hb]
      have : (j == k) = false := by
        rw [beq_eq_false_iff_ne]; intro hh; subst hh; exact hjk rfl
      rw [this, Bool.or_false]
  · rename_i hr
    have : (j == k) = false := by
      rw [beq_eq_false_iff_ne]; intro hh; subst hh
      rw [rightI_iff.2 ⟨j0, by omega⟩] at hr; cases hr
    rw [this, Bool.or_false]
theorem with_ok : ∀ (l : List Int) {c : List Int}, CatsOK c → CatsOK (withC c l)
  | [], _, h => h
  | k :: l, _, h => with_ok l (add1_ok h k)
theorem has_with : ∀ (l : List Int) {c : List Int}, CatsOK c → ∀ {j : Int}, 0 ≤ j → j < 240 → hasC (withC c l) j = (hasC c j || l.any (j == ·))
  | [], c, h, j, _, _ => by simp [withC]
  | k :: l, c, h, j, j0, j1 => by
    have := has_with l (add1_ok h k) j0 j1
    rw [show withC c (k :: l) = withC (add1 c k) l from rfl, this, has_add1 h k j0 j1, List.any_cons, Bool.or_assoc]
/-- Two sets of the same are the same. -/
theorem cats_ext {a b : List Int} (ha : CatsOK a) (hb : CatsOK b) (h : ∀ k, 0 ≤ k → k < 240 → hasC a k = hasC b k) : a = b := by
  refine List.ext_getElem (ha.1.trans hb.1.symm) fun i h1 h2 => ?_
  have hi : i < 30 := by rw [← ha.1]; exact h1
  obtain ⟨X, e1, hX⟩ := ha.get i
  obtain ⟨Y, e2, hY⟩ := hb.get i
  have key : X = Y := by
    apply Nat.eq_of_testBit_eq
    intro m
    rcases Nat.lt_or_ge m 8 with hm | hm
    · have k0 : (0 : Int) ≤ 8 * (i : Int) + (7 - (m : Int)) := by omega
      have k1 : 8 * (i : Int) + (7 - (m : Int)) < 240 := by omega
      obtain ⟨X', e1', _, b1⟩ := hasC_bit ha k0 k1
      obtain ⟨Y', e2', _, b2⟩ := hasC_bit hb k0 k1
      have q := h _ k0 k1
      rw [b1, b2] at q
      rw [show ((8 * (i : Int) + (7 - (m : Int))) / 8).toNat = i by omega] at e1' e2'
      rw [show (7 - (8 * (i : Int) + (7 - (m : Int))) % 8).toNat = m by omega] at q
      rw [show X = X' by omega, show Y = Y' by omega, q]
    · rw [Nat.testBit_lt_two_pow (Nat.lt_of_lt_of_le hX (show 2 ^ 8 ≤ 2 ^ m from Nat.pow_le_pow_right (by decide) hm)), Nat.testBit_lt_two_pow (Nat.lt_of_lt_of_le hY (show 2 ^ 8 ≤ 2 ^ m from Nat.pow_le_pow_right (by decide) hm))]
  simp only [List.getD, List.getElem?_eq_getElem h1, List.getElem?_eq_getElem h2, Option.getD_some] at e1 e2
  omega

/-- A set's categories. -/
def listN (c : List Int) (n : Nat) : List Int := ((List.range n).filter fun (k : Nat) => hasC c k).map fun (k : Nat) => (k : Int)
def listC (c : List Int) : List Int := listN c 240
theorem listN_succ (c : List Int) (n : Nat) : listN c (n + 1) = listN c n ++ (if hasC c n = true then [(n : Int)] else []) := by
  unfold listN
  rw [List.range_succ, List.filter_append, List.map_append]
  refine congrArg _ ?_
  rw [List.filter_cons, List.filter_nil]
  by_cases h : hasC c n = true
  · rw [if_pos h, if_pos h]; rfl
  · rw [if_neg h, if_neg h]; rfl
theorem listN_length (c : List Int) (n : Nat) : (listN c n).length ≤ n := by
  unfold listN
  rw [List.length_map]
  exact Nat.le_trans (List.length_filter_le _ _) (by simp)
/-! ### how many -/
end Go.Proofs.YtidlganponfccaaDoor

end
