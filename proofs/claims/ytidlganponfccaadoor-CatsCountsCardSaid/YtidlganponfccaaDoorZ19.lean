/- Texts packed together: CCatsLaw5 CCats5 CCats6. -/
import Derived.Test.YtidlganponfccaaDoorZ18
section
/- The plain law of sets: with and without some, how many, which; two sets of the same are the same. -/
set_option linter.unusedVariables false
set_option linter.unusedSimpArgs false
set_option linter.unusedVariables false
set_option linter.unusedSimpArgs false
namespace Go.Proofs.YtidlganponfccaaDoor
open Go Go.Ideal

def rightI (k : Int) : Bool := decide (0 ≤ k) && decide (k ≤ 239)
def catBit (k : Int) : Int := (128 : Int).fdiv (2 ^ (k % 8).toNat)
def setC (c : List Int) (i : Nat) (x : Int) : List Int := (List.range 30).map fun j => if j = i then x else c.getD j 0
def orC (x y : Int) : Int := IntKind.u8.wrap (BitVec.ofInt 8 x ||| BitVec.ofInt 8 y).toNat
def offI (x y : Int) : Int := IntKind.u8.wrap (BitVec.ofInt 8 x &&& ~~~ BitVec.ofInt 8 y).toNat
def add1 (c : List Int) (k : Int) : List Int := match rightI k with
  | true => setC c (k / 8).toNat (orC (c.getD (k / 8).toNat 0) (catBit k))
  | false => c
def sub1 (c : List Int) (k : Int) : List Int := match rightI k with
  | true => setC c (k / 8).toNat (offI (c.getD (k / 8).toNat 0) (catBit k))
  | false => c
def withC (c : List Int) (l : List Int) : List Int := l.foldl add1 c
def withoutC (c : List Int) (l : List Int) : List Int := l.foldl sub1 c

theorem rightI_iff {k : Int} : rightI k = true ↔ 0 ≤ k ∧ k ≤ 239 := by unfold rightI; simp
theorem q8 {k : Int} (h : rightI k = true) : IntKind.i64.wrap (k.tdiv 8) = k / 8 ∧ 0 ≤ k / 8 ∧ k / 8 < 30 ∧ (k / 8).toNat < 30 := by
  obtain ⟨h0, h1⟩ := rightI_iff.1 h
  refine ⟨by rw [Int.tdiv_eq_ediv_of_nonneg h0, wrap_in (by omega) (by omega)], by omega, by omega, by omega⟩
theorem catBitN {k : Int} (h0 : 0 ≤ k) : catBit k = ((2 ^ (7 - k % 8).toNat : Nat) : Int) := by
  unfold catBit
  have h8 : k % 8 < 8 := Int.emod_lt_of_pos _ (by decide)
  have h9 : 0 ≤ k % 8 := Int.emod_nonneg _ (by decide)
  obtain ⟨m, hm⟩ := Int.eq_ofNat_of_zero_le h9
  rw [hm] at h8 ⊢
  have : m < 8 := by omega
  have e : ∀ m : Fin 8, Int.fdiv 128 (2 ^ ((m.val : Nat) : Int).toNat) = ((2 ^ (7 - ((m.val : Nat) : Int)).toNat : Nat) : Int) := by decide
  exact e ⟨m, this⟩
theorem pow_lt {m : Nat} (h : m < 8) : 2 ^ m < 256 := Nat.pow_lt_pow_right (by decide) (show m < 8 from h)
theorem orC_nat {X Y : Nat} (hX : X < 256) (hY : Y < 256) : orC X Y = ((X ||| Y : Nat) : Int) := by
  unfold orC
  rw [BitVec.toNat_or, bv8 hX, bv8 hY, IntKind.wrap_u8]
  have : X ||| Y < 256 := Nat.or_lt_two_pow (n := 8) hX hY
  omega
def offN (X Y : Nat) : Nat := X &&& (255 - Y)
theorem offI_nat {X Y : Nat} (hX : X < 256) (hY : Y < 256) : offI X Y = ((X &&& (255 - Y) : Nat) : Int) := by
  unfold offI
  rw [BitVec.toNat_and, BitVec.toNat_not, bv8 hX, bv8 hY, IntKind.wrap_u8]
  have : X &&& (2 ^ 8 - 1 - Y) ≤ X := Nat.and_le_left
  have e : 2 ^ 8 - 1 - Y = 255 - Y := by rfl
  rw [e] at this ⊢
  omega
theorem catsL_map (c : List Int) : catsL c = (List.range 30).map fun i => Value.int .u8 (c.getD i 0) := rfl
theorem setC_get {c : List Int} {i j : Nat} (hj : j < 30) (x : Int) : (setC c i x).getD j 0 = if j = i then x else c.getD j 0 := by
  simp [setC, List.getD, hj]
theorem splice_set (c : List Int) {i : Nat} (hi : i < 30) (x : Int) : splice (catsL c) (0 + i * 1) (Value.cellList (.int .u8 x)) = catsL (setC c i x) := by
  rw [Nat.zero_add, Nat.mul_one]
  have e : Value.cellList (.int .u8 x) = [.int .u8 x] := rfl
  rw [e, catsL_map, catsL_map]
  apply List.ext_getElem?
  intro j
  have hl : ((List.range 30).map fun i => Value.int .u8 (c.getD i 0)).length = 30 := by simp
  simp only [splice, List.length_cons, List.length_nil]
  rcases Nat.lt_trichotomy j i with h | h | h
  · rw [List.append_assoc, List.getElem?_append_left (by simp; omega), List.getElem?_take, if_pos h, List.getElem?_map, List.getElem?_map, List.getElem?_range (by omega), Option.map_some, Option.map_some, setC_get (by omega), if_neg (by omega)]
  · subst h
    rw [List.append_assoc, List.getElem?_append_right (by simp; omega), List.getElem?_map, List.getElem?_range (by omega), Option.map_some, setC_get (by omega), if_pos rfl]
    have : j - (List.take j ((List.range 30).map fun i => Value.int .u8 (c.getD i 0))).length = 0 := by simp; omega
    rw [this]; rfl
  · rw [List.getElem?_append_right (by simp; omega)]
    have : j - (List.take i ((List.range 30).map fun i => Value.int .u8 (c.getD i 0)) ++ [Value.int .u8 x]).length = j - (i + 1) := by simp; omega
    rw [this, List.getElem?_drop, show i + (0 + 1) + (j - (i + 1)) = j by omega, List.getElem?_map, List.getElem?_map]
    rcases Nat.lt_or_ge j 30 with k | k
    · rw [List.getElem?_range k, Option.map_some, Option.map_some, setC_get k, if_neg (by omega)]
    · rw [List.getElem?_eq_none (by simpa using k)]; rfl

theorem hasC_fun {f : Nat → Int} (hf : ∀ i, i < 30 → ∃ X : Nat, f i = X ∧ X < 256) {k : Int} (h0 : 0 ≤ k) (h1 : k < 240) {X : Nat} (e : f (k / 8).toNat = X) : hasC ((List.range 30).map f) k = X.testBit (7 - k % 8).toNat := by
  have hi : (k / 8).toNat < 30 := by omega
  have hok : CatsOK ((List.range 30).map f) := by
    refine ⟨by simp, fun x hx => ?_⟩
    obtain ⟨i, hi, rfl⟩ := List.mem_map.1 hx
    obtain ⟨X, e, h⟩ := hf i (List.mem_range.1 hi)
    omega
  obtain ⟨Y, e2, hY, h⟩ := hasC_bit hok h0 h1
  rw [h]
  have : ((List.range 30).map f).getD (k / 8).toNat 0 = f (k / 8).toNat := by simp [List.getD, hi]
  rw [this, e] at e2
  rw [show X = Y by omega]
theorem cats_fun {f : Nat → Int} (hf : ∀ i, i < 30 → ∃ X : Nat, f i = X ∧ X < 256) : CatsOK ((List.range 30).map f) := by
  refine ⟨by simp, fun x hx => ?_⟩
  obtain ⟨i, hi, rfl⟩ := List.mem_map.1 hx
  obtain ⟨X, e, h⟩ := hf i (List.mem_range.1 hi)
  omega
theorem add1_ok {c : List Int} (h : CatsOK c) (k : Int) : CatsOK (add1 c k) := by
  unfold add1
  split
  · rename_i hr
    obtain ⟨X, e, hX⟩ := h.get (k / 8).toNat
    obtain ⟨h0, h1⟩ := rightI_iff.1 hr
    refine cats_fun fun i _ => ?_
    split
    · rw [e, catBitN h0]
      exact ⟨_, orC_nat hX (pow_lt (by omega)), Nat.or_lt_two_pow (n := 8) hX (pow_lt (by omega))⟩
    · exact h.get i
  · exact h
theorem sub1_ok {c : List Int} (h : CatsOK c) (k : Int) : CatsOK (sub1 c k) := by
  unfold sub1
  split
  · rename_i hr
    obtain ⟨X, e, hX⟩ := h.get (k / 8).toNat
    obtain ⟨h0, h1⟩ := rightI_iff.1 hr
    refine cats_fun fun i _ => ?_
    split
    · rw [e, catBitN h0]
      exact ⟨_, offI_nat hX (pow_lt (by omega)), Nat.lt_of_le_of_lt Nat.and_le_left hX⟩
    · exact h.get i
  · exact h
theorem same_bit {j k : Int} (j0 : 0 ≤ j) (k0 : 0 ≤ k) : ((j / 8).toNat = (k / 8).toNat ∧ (7 - k % 8).toNat = (7 - j % 8).toNat) ↔ j = k := by omega
theorem has_add1 {c : List Int} (h : CatsOK c) (k : Int) {j : Int} (j0 : 0 ≤ j) (j1 : j < 240) : hasC (add1 c k) j = (hasC c j || j == k) := by
  unfold add1
  split
  · rename_i hr
    obtain ⟨X, e, hX⟩ := h.get (k / 8).toNat
    obtain ⟨Y, e2, hY, hb⟩ := hasC_bit h j0 j1
    obtain ⟨h0, h1⟩ := rightI_iff.1 hr
    have hf : ∀ i, i < 30 → ∃ Z : Nat, (if i = (k / 8).toNat then orC (c.getD (k / 8).toNat 0) (catBit k) else c.getD i 0) = Z ∧ Z < 256 := fun i _ => by
      split
      · rw [e, catBitN h0]
        exact ⟨_, orC_nat hX (pow_lt (by omega)), Nat.or_lt_two_pow (n := 8) hX (pow_lt (by omega))⟩
      · exact h.get i
    by_cases hjk : (j / 8).toNat = (k / 8).toNat
    · have eXY : X = Y := by rw [hjk] at e2; omega
      subst eXY
      unfold setC
      rw [hasC_fun hf j0 j1 (X := X ||| 2 ^ (7 - k % 8).toNat) (by rw [if_pos hjk, e, catBitN h0]; exact orC_nat hX (pow_lt (by omega))), hb, Nat.testBit_or, Nat.testBit_two_pow]
      congr 1
      rw [Bool.eq_iff_iff]
      simp only [decide_eq_true_eq, beq_iff_eq]
      omega
    · unfold setC
      rw [hasC_fun hf j0 j1 (X := Y) (by rw [if_neg hjk]; exact e2), hb]
      have : (j == k) = false := by
        rw [beq_eq_false_iff_ne]; intro hh; subst hh; exact hjk rfl
      rw [this, Bool.or_false]
  · rename_i hr
    have : (j == k) = false := by
      rw [beq_eq_false_iff_ne]; intro hh; subst hh
      rw [rightI_iff.2 ⟨j0, by omega⟩] at hr; cases hr
    rw [this, Bool.or_false]
theorem bit_off {X m n : Nat} (hX : X < 256) (hm : m < 8) (hn : n < 8) : (X &&& (255 - 2 ^ m)).testBit n = (X.testBit n && !decide (m = n)) := by
  rw [Nat.testBit_and]
  congr 1
  have e : ∀ m n : Fin 8, (255 - 2 ^ m.val).testBit n.val = !decide (m.val = n.val) := by decide
  exact e ⟨m, hm⟩ ⟨n, hn⟩
theorem has_sub1 {c : List Int} (h : CatsOK c) (k : Int) {j : Int} (j0 : 0 ≤ j) (j1 : j < 240) : hasC (sub1 c k) j = (hasC c j && !(j == k)) := by
  unfold sub1
  split
  · rename_i hr
    obtain ⟨X, e, hX⟩ := h.get (k / 8).toNat
    obtain ⟨Y, e2, hY, hb⟩ := hasC_bit h j0 j1
    obtain ⟨h0, h1⟩ := rightI_iff.1 hr
    have hf : ∀ i, i < 30 → ∃ Z : Nat, (if i = (k / 8).toNat then offI (c.getD (k / 8).toNat 0) (catBit k) else c.getD i 0) = Z ∧ Z < 256 := fun i _ => by
      split
      · rw [e, catBitN h0]
        exact ⟨_, offI_nat hX (pow_lt (by omega)), Nat.lt_of_le_of_lt Nat.and_le_left hX⟩
      · exact h.get i
    by_cases hjk : (j / 8).toNat = (k / 8).toNat
    · have eXY : X = Y := by rw [hjk] at e2; omega
      subst eXY
      unfold setC
      rw [hasC_fun hf j0 j1 (X := X &&& (255 - 2 ^ (7 - k % 8).toNat)) (by rw [if_pos hjk, e, catBitN h0]; exact offI_nat hX (pow_lt (by omega))), hb, bit_off hX (by omega) (by omega)]
      congr 2
      rw [Bool.eq_iff_iff]
      simp only [decide_eq_true_eq, beq_iff_eq]
      omega
    · unfold setC
      rw [hasC_fun hf j0 j1 (X := Y) (by rw [if_neg hjk]; exact e2), hb]
      have : (j == k) = false := by
        rw [beq_eq_false_iff_ne]; intro hh; subst hh; exact hjk rfl
      rw [this, Bool.not_false, Bool.and_true]
  · rename_i hr
    have : (j == k) = false := by
      rw [beq_eq_false_iff_ne]; intro hh; subst hh
      rw [rightI_iff.2 ⟨j0, by omega⟩] at hr; cases hr
    rw [this, Bool.not_false, Bool.and_true]
theorem with_ok : ∀ (l : List Int) {c : List Int}, CatsOK c → CatsOK (withC c l)
  | [], _, h => h
  | k :: l, _, h => with_ok l (add1_ok h k)
theorem without_ok : ∀ (l : List Int) {c : List Int}, CatsOK c → CatsOK (withoutC c l)
  | [], _, h => h
  | k :: l, _, h => without_ok l (sub1_ok h k)
theorem has_with : ∀ (l : List Int) {c : List Int}, CatsOK c → ∀ {j : Int}, 0 ≤ j → j < 240 → hasC (withC c l) j = (hasC c j || l.any (j == ·))
  | [], c, h, j, _, _ => by simp [withC]
  | k :: l, c, h, j, j0, j1 => by
    have := has_with l (add1_ok h k) j0 j1
    rw [show withC c (k :: l) = withC (add1 c k) l from rfl, this, has_add1 h k j0 j1, List.any_cons, Bool.or_assoc]
theorem has_without : ∀ (l : List Int) {c : List Int}, CatsOK c → ∀ {j : Int}, 0 ≤ j → j < 240 → hasC (withoutC c l) j = (hasC c j && !l.any (j == ·))
  | [], c, h, j, _, _ => by simp [withoutC]
  | k :: l, c, h, j, j0, j1 => by
    have := has_without l (sub1_ok h k) j0 j1
    rw [show withoutC c (k :: l) = withoutC (sub1 c k) l from rfl, this, has_sub1 h k j0 j1, List.any_cons, Bool.not_or, Bool.and_assoc]
/-- Two sets of the same are the same. -/
theorem cats_ext {a b : List Int} (ha : CatsOK a) (hb : CatsOK b) (h : ∀ k, 0 ≤ k → k < 240 → hasC a k = hasC b k) : a = b := by
  refine List.ext_getElem (ha.1.trans hb.1.symm) fun i h1 h2 => ?_
  have hi : i < 30 := by rw [← ha.1]; exact h1
  obtain ⟨X, e1, hX⟩ := ha.get i
  obtain ⟨Y, e2, hY⟩ := hb.get i
  have key : X = Y := by
    apply Nat.eq_of_testBit_eq
    intro m
    rcases Nat.lt_or_ge m 8 with hm | hm
    · have k0 : (0 : Int) ≤ 8 * (i : Int) + (7 - (m : Int)) := by omega
      have k1 : 8 * (i : Int) + (7 - (m : Int)) < 240 := by omega
      obtain ⟨X', e1', _, b1⟩ := hasC_bit ha k0 k1
      obtain ⟨Y', e2', _, b2⟩ := hasC_bit hb k0 k1
      have q := h _ k0 k1
      rw [b1, b2] at q
      rw [show ((8 * (i : Int) + (7 - (m : Int))) / 8).toNat = i by omega] at e1' e2'
      rw [show (7 - (8 * (i : Int) + (7 - (m : Int))) % 8).toNat = m by omega] at q
      rw [show X = X' by omega, show Y = Y' by omega, q]
    · rw [Nat.testBit_lt_two_pow (Nat.lt_of_lt_of_le hX (show 2 ^ 8 ≤ 2 ^ m from Nat.pow_le_pow_right (by decide) hm)), Nat.testBit_lt_two_pow (Nat.lt_of_lt_of_le hY (show 2 ^ 8 ≤ 2 ^ m from Nat.pow_le_pow_right (by decide) hm))]
  simp only [List.getD, List.getElem?_eq_getElem h1, List.getElem?_eq_getElem h2, Option.getD_some] at e1 e2
  omega

/-- A set's categories. -/
def listN (c : List Int) (n : Nat) : List Int := ((List.range n).filter fun (k : Nat) => hasC c k).map fun (k : Nat) => (k : Int)
def listC (c : List Int) : List Int := listN c 240
theorem listN_succ (c : List Int) (n : Nat) : listN c (n + 1) = listN c n ++ (if hasC c n = true then [(n : Int)] else []) := by
  unfold listN
  rw [List.range_succ, List.filter_append, List.map_append]
  refine congrArg _ ?_
  rw [List.filter_cons, List.filter_nil]
  by_cases h : hasC c n = true
  · rw [if_pos h, if_pos h]; rfl
  · rw [if_neg h, if_neg h]; rfl
theorem listN_length (c : List Int) (n : Nat) : (listN c n).length ≤ n := by
  unfold listN
  rw [List.length_map]
  exact Nat.le_trans (List.length_filter_le _ _) (by simp)
theorem mem_listC {c : List Int} {j : Int} (j0 : 0 ≤ j) (j1 : j < 240) : (listC c).any (j == ·) = hasC c j := by
  rw [Bool.eq_iff_iff, List.any_eq_true]
  unfold listC listN
  constructor
  · rintro ⟨x, hx, e⟩
    obtain ⟨k, hk, rfl⟩ := List.mem_map.1 hx
    have := (List.mem_filter.1 hk).2
    rw [beq_iff_eq] at e
    rw [e]; exact this
  · intro h
    refine ⟨j, List.mem_map.2 ⟨j.toNat, List.mem_filter.2 ⟨List.mem_range.2 (by omega), ?_⟩, by omega⟩, by simp⟩
    rw [show ((j.toNat : Nat) : Int) = j by omega]; exact h

/-! ### how many -/
def tbN (X m : Nat) : Nat := (X.testBit m).toNat
def popN (X : Nat) : Nat := tbN X 0 + tbN X 1 + tbN X 2 + tbN X 3 + tbN X 4 + tbN X 5 + tbN X 6 + tbN X 7
theorem popN_le (X : Nat) : popN X ≤ 8 := by
  have : ∀ m, tbN X m ≤ 1 := fun m => Bool.toNat_le _
  have h0 := this 0; have h1 := this 1; have h2 := this 2; have h3 := this 3; have h4 := this 4; have h5 := this 5; have h6 := this 6; have h7 := this 7
  unfold popN; omega
theorem pop_or_and (X Y : Nat) : popN (X ||| Y) + popN (X &&& Y) = popN X + popN Y := by
  have : ∀ m, tbN (X ||| Y) m + tbN (X &&& Y) m = tbN X m + tbN Y m := fun m => by
    unfold tbN
    rw [Nat.testBit_or, Nat.testBit_and]
    cases X.testBit m <;> cases Y.testBit m <;> rfl
  have h0 := this 0; have h1 := this 1; have h2 := this 2; have h3 := this 3; have h4 := this 4; have h5 := this 5; have h6 := this 6; have h7 := this 7
  unfold popN; omega
def cntN (c : List Int) : Nat → Nat
  | 0 => 0
  | n + 1 => cntN c n + popN (c.getD n 0).toNat
def countC (c : List Int) : Nat := cntN c 30
theorem cntN_le (c : List Int) : ∀ n, cntN c n ≤ 8 * n
  | 0 => Nat.le_refl _
  | n + 1 => by have := cntN_le c n; have := popN_le (c.getD n 0).toNat; simp only [cntN]; omega
theorem cnt_list {c : List Int} (h : CatsOK c) : ∀ n, n ≤ 30 → cntN c n = (listN c (8 * n)).length
  | 0, _ => rfl
  | n + 1, hn => by
    have ih := cnt_list h n (by omega)
    obtain ⟨X, e, hX⟩ := h.get n
    have one : ∀ m, m < 8 → hasC c ((8 * n + m : Nat) : Int) = X.testBit (7 - m) := fun m hm => by
      obtain ⟨X', e', _, b⟩ := hasC_bit h (k := ((8 * n + m : Nat) : Int)) (by omega) (by omega)
      rw [show (((8 * n + m : Nat) : Int) / 8).toNat = n by omega] at e'
      rw [b, show X = X' by omega, show (7 - ((8 * n + m : Nat) : Int) % 8).toNat = 7 - m by omega]
    have step : ∀ m r, m + r = 7 → (listN c (8 * n + (m + 1))).length = (listN c (8 * n + m)).length + tbN X r := fun m r hm => by
      rw [show 8 * n + (m + 1) = 8 * n + m + 1 by omega, listN_succ, List.length_append, one m (by omega), show 7 - m = r by omega]
      unfold tbN
      cases X.testBit r <;> rfl
    have h0 := step 0 7 rfl; have h1 := step 1 6 rfl; have h2 := step 2 5 rfl; have h3 := step 3 4 rfl; have h4 := step 4 3 rfl; have h5 := step 5 2 rfl; have h6 := step 6 1 rfl; have h7 := step 7 0 rfl
    simp only [cntN, e, Int.toNat_natCast]
    rw [show 8 * (n + 1) = 8 * n + (7 + 1) by omega]
    unfold popN
    simp only [Nat.add_zero, Nat.zero_add, Nat.reduceAdd] at h0 h1 h2 h3 h4 h5 h6 h7 ⊢
    omega
theorem count_list {c : List Int} (h : CatsOK c) : countC c = (listC c).length := cnt_list h 30 (by omega)
end Go.Proofs.YtidlganponfccaaDoor

end
section
/- What the functions of sets answer: with and without some, how many, which. -/
set_option linter.unusedVariables false
set_option linter.unusedSimpArgs false
set_option maxRecDepth 100000
namespace Go.Proofs.YtidlganponfccaaDoor
open Go Go.Ideal
def iz1 (n : Int) : List Value := [.int .i64 n]
theorem iz1_length (n : Int) : (iz1 n).length = 1 := rfl
def izL (l : List Int) : List Value := cellsOf iz1 l
def izV (l : List Int) : Value := vsl l.length (izL l).toArray
theorem izL_length (l : List Int) : (izL l).length = l.length := (cellsOf_length iz1_length l).trans (Nat.mul_one _)
theorem izL_snoc (l : List Int) (k : Int) : izL (l ++ [k]) = izL l ++ [.int .i64 k] := cellsOf_snoc _ _ _
theorem iz_part {l : List Int} {k : Nat} (hk : k < l.length) {o : Nat} (ho : o = k * 1 + 0) : (Ask.part (izL l) o 1 [.int .i64 (l.getD k 0)]).holds Tryd.prog := by
  subst ho; exact cellsOf_part (P := Tryd.prog) (f := iz1) iz1_length 0 hk 0 1 (by omega) _ rfl
theorem take_add {l : List Int} {k : Nat} (hk : k < l.length) {f : List Int → Int → List Int} {c : List Int} : (l.take (k + 1)).foldl f c = f ((l.take k).foldl f c) (l.getD k 0) := by
  rw [List.take_succ_eq_append_getElem hk, List.foldl_append]
  simp only [List.foldl_cons, List.foldl_nil, List.getD, List.getElem?_eq_getElem hk, Option.getD_some]
theorem i64_bytes : (Tryd.prog.types[(3 : Nat)]).bytes = 8 := by decide +kernel
theorem isl_yes {tok : Nat} {c : List Int} {k : Nat} (h : hasC c k = true) : osl tok 1 (((listN c k).length : Int) + 1) ⟨izL (listN c k) ++ [.int .i64 k]⟩ = osl tok 1 ((listN c (k + 1)).length : Nat) (izL (listN c (k + 1))).toArray ∧
    some (Blk.own ((listN c k).length + 1) 3) = some (Blk.own (listN c (k + 1)).length 3) := by
  rw [listN_succ, if_pos h, izL_snoc, List.length_append]; exact ⟨rfl, rfl⟩
theorem isl_no {c : List Int} {k : Nat} (h : hasC c k = false) : listN c (k + 1) = listN c k := by
  rw [listN_succ, h, if_neg (by decide), List.append_nil]
theorem right54_w (k : Int) : CallK Tryd.prog 54 [.int .i64 k] (.bool (rightI k)) := CallK.via progOK (pfs []) [] 100 (Adv.split (4 : Nat) (Adv.split (7 : Nat) Adv.nil Adv.nil) Adv.nil) (by kernel_rfl) (by kernel_rfl) (p := (decide (k ≥ (0 : Int)) = true → (decide (k ≤ (239 : Int)) = true → Value.bool true = Value.bool (rightI k)) ∧ (decide (k ≤ (239 : Int)) = false → Value.bool false = Value.bool (rightI k))) ∧ (decide (k ≥ (0 : Int)) = false → Value.bool false = Value.bool (rightI k))) (by kernel_rfl) (by
    unfold rightI
    refine ⟨fun h => ⟨fun h2 => ?_, fun h2 => ?_⟩, fun h => ?_⟩
    · rw [h, h2]; rfl
    · rw [h, h2]; rfl
    · rw [h]; rfl)
theorem bit55_w (k : Int) (h0 : 0 ≤ k) : CallK Tryd.prog 55 [.int .i64 k] (.int .u8 (catBit k)) := CallK.via progOK (pfs []) [] 100 (Adv.chk (5 : Nat) none Adv.nil) (by kernel_rfl) (by kernel_rfl) (p := (0 : Int) ≤ Int.tmod k (8 : Int) ∧ Value.int IntKind.u8 (Int.fdiv (128 : Int) ((2 : Int) ^ min (Int.toNat (Int.tmod k (8 : Int))) (IntKind.bits IntKind.u8))) = Value.int IntKind.u8 (catBit k)) (by kernel_rfl) (by
    rw [Int.tmod_eq_emod_of_nonneg h0]
    refine ⟨Int.emod_nonneg _ (by decide), ?_⟩
    have : (k % 8).toNat ≤ 8 := by have := Int.emod_lt_of_pos k (show (0 : Int) < 8 by decide); omega
    rw [show min (k % 8).toNat IntKind.u8.bits = (k % 8).toNat from Nat.min_eq_left this]
    rfl)
theorem and_pow (X m : Nat) : X &&& 2 ^ m = if X.testBit m = true then 2 ^ m else 0 := by
  apply Nat.eq_of_testBit_eq
  intro n
  rw [Nat.testBit_and, Nat.testBit_two_pow]
  by_cases e : m = n
  · subst e
    cases h : X.testBit m <;> simp
  · cases h : X.testBit m <;> simp [e, Nat.testBit_two_pow]
theorem nle30 {i : Nat} (h : i < 30) : 0 + i * 1 + 1 ≤ 30 := by omega
theorem bit_ne {X : Nat} (hX : X < 256) {m : Nat} (hm : m < 8) : (and8 (X : Nat) ((2 ^ m : Nat) : Int) != 0) = X.testBit m := by
  rw [and8N hX (pow_lt hm), and_pow]
  have : 0 < 2 ^ m := Nat.pow_pos (by decide)
  cases X.testBit m with
  | true =>
    rw [if_pos rfl, bne_iff_ne]
    omega
  | false => rfl
theorem hasp_w (c : List Int) (k : Int) (hc : CatsOK c) : CallK Tryd.prog 20 [catsV c, .int .i64 k] (.bool (hasC c k)) := CallK.via progOK (pfs [54, 55]) [] 100 (Adv.purs (5 : Nat) (rightI k) (Adv.chk (9 : Nat) none (Adv.chk (10 : Nat) (some (Value.int IntKind.u8 (List.getD c (Int.toNat (IntKind.wrap IntKind.i64 (Int.tdiv k (8 : Int)))) (0 : Int)))) (Adv.pur (12 : Nat) (Value.int IntKind.u8 (catBit k)) (Adv.split (14 : Nat) Adv.nil Adv.nil)))) Adv.nil) (by kernel_rfl) (by kernel_rfl) (p := CallK Tryd.prog (nat_lit 54) [Value.int IntKind.i64 k] (Value.bool (rightI k)) ∧ (rightI k = true → ((0 : Int) ≤ IntKind.wrap IntKind.i64 (Int.tdiv k (8 : Int)) ∧ IntKind.wrap IntKind.i64 (Int.tdiv k (8 : Int)) < (30 : Int)) ∧ Ask.holds Tryd.prog (Ask.part (catsL c) (nat_lit 0 + Int.toNat (IntKind.wrap IntKind.i64 (Int.tdiv k (8 : Int))) * nat_lit 1) (nat_lit 1) [Value.int IntKind.u8 (List.getD c (Int.toNat (IntKind.wrap IntKind.i64 (Int.tdiv k (8 : Int)))) (0 : Int))]) ∧ CallK Tryd.prog (nat_lit 55) [Value.int IntKind.i64 k] (Value.int IntKind.u8 (catBit k)) ∧ ((IntKind.wrap IntKind.u8 (↑(BitVec.toNat (BitVec.ofInt (IntKind.bits IntKind.u8) (List.getD c (Int.toNat (IntKind.wrap IntKind.i64 (Int.tdiv k (8 : Int)))) (0 : Int)) &&& BitVec.ofInt (IntKind.bits IntKind.u8) (catBit k))) : Int) != (0 : Int)) = true → Value.bool true = Value.bool (hasC c k)) ∧ ((IntKind.wrap IntKind.u8 (↑(BitVec.toNat (BitVec.ofInt (IntKind.bits IntKind.u8) (List.getD c (Int.toNat (IntKind.wrap IntKind.i64 (Int.tdiv k (8 : Int)))) (0 : Int)) &&& BitVec.ofInt (IntKind.bits IntKind.u8) (catBit k))) : Int) != (0 : Int)) = false → Value.bool false = Value.bool (hasC c k))) ∧ (rightI k = false → Value.bool false = Value.bool (hasC c k))) (by kernel_rfl) (by
    refine ⟨right54_w k, fun h => ?_, fun h => ?_⟩
    · obtain ⟨e1, e2, e3, e4⟩ := q8 h
      obtain ⟨h0, h1⟩ := rightI_iff.1 h
      rw [e1]
      obtain ⟨X, eX, hX, hb⟩ := hasC_bit hc h0 (by omega)
      have key : (IntKind.u8.wrap (BitVec.ofInt IntKind.u8.bits (c.getD (k / 8).toNat 0) &&& BitVec.ofInt IntKind.u8.bits (catBit k)).toNat != 0) = hasC c k := by
        rw [hb, eX, catBitN h0]
        exact bit_ne hX (by omega)
      refine ⟨⟨e2, e3⟩, catsL_part c _ e4, bit55_w k h0, fun h2 => ?_, fun h2 => ?_⟩
      · rw [← key]; exact congrArg Value.bool h2.symm
      · rw [← key]; exact congrArg Value.bool h2.symm
    · refine congrArg Value.bool ?_
      unfold hasC
      have : ¬ (0 ≤ k ∧ k ≤ 239) := fun e => by rw [rightI_iff.2 e] at h; cases h
      by_cases h0 : 0 ≤ k
      · rw [decide_eq_false (p := k < 240) (by omega), Bool.and_false, Bool.false_and]
      · rw [decide_eq_false h0, Bool.false_and, Bool.false_and])
theorem with_w (c : List Int) (l : List Int) (hl : l.length ≤ 1000) : CallK Tryd.prog 18 [catsV c, izV l] (catsV (withC c l)) := CallK.via progOK (pfs [54, 55]) [] 100 (Adv.loop (8 : Nat) (fun (k : Nat) => [((9 : Nat), Value.int IntKind.i64 (↑k : Int))]) ((fun (h : Heap) (k : Nat) => Heap.set h (8 : Nat) (Blk.cells (catsL (withC c (List.take k l))) (23 : TypeId) Mode.fix)) (Heap.mk (nat_lit 10) (Trie.node none (Trie.node none Trie.leaf (Trie.node none (Trie.node (some (Blk.cells [Value.int IntKind.u8 (0 : Int), Value.int IntKind.u8 (0 : Int), Value.int IntKind.u8 (0 : Int), Value.int IntKind.u8 (0 : Int), Value.int IntKind.u8 (0 : Int), Value.int IntKind.u8 (0 : Int), Value.int IntKind.u8 (0 : Int), Value.int IntKind.u8 (0 : Int), Value.int IntKind.u8 (0 : Int), Value.int IntKind.u8 (0 : Int), Value.int IntKind.u8 (0 : Int), Value.int IntKind.u8 (0 : Int), Value.int IntKind.u8 (0 : Int), Value.int IntKind.u8 (0 : Int), Value.int IntKind.u8 (0 : Int), Value.int IntKind.u8 (0 : Int), Value.int IntKind.u8 (0 : Int), Value.int IntKind.u8 (0 : Int), Value.int IntKind.u8 (0 : Int), Value.int IntKind.u8 (0 : Int), Value.int IntKind.u8 (0 : Int), Value.int IntKind.u8 (0 : Int), Value.int IntKind.u8 (0 : Int), Value.int IntKind.u8 (0 : Int), Value.int IntKind.u8 (0 : Int), Value.int IntKind.u8 (0 : Int), Value.int IntKind.u8 (0 : Int), Value.int IntKind.u8 (0 : Int), Value.int IntKind.u8 (0 : Int), Value.int IntKind.u8 (0 : Int)] (nat_lit 23) Mode.fix)) Trie.leaf Trie.leaf) Trie.leaf)) (Trie.node none (Trie.node none (Trie.node (some (Blk.cells (catsL c) (nat_lit 23) Mode.fix)) Trie.leaf Trie.leaf) Trie.leaf) Trie.leaf)))) (fun (i k : Nat) => i + k = List.length l) (List.length l) (0 : Nat) fun (i8 s8 : Nat) (j8 : Nat → Value) => Adv.split (10 : Nat) (Adv.chk (15 : Nat) none (Adv.chk (16 : Nat) (some (Value.int IntKind.i64 (List.getD l s8 (0 : Int)))) (Adv.purs (20 : Nat) (rightI (List.getD l s8 (0 : Int))) (Adv.chk (24 : Nat) none (Adv.chk (25 : Nat) (some (Value.int IntKind.u8 (List.getD (withC c (List.take s8 l)) (Int.toNat (IntKind.wrap IntKind.i64 (Int.tdiv (List.getD l s8 (0 : Int)) (8 : Int)))) (0 : Int)))) (Adv.pur (27 : Nat) (Value.int IntKind.u8 (catBit (List.getD l s8 (0 : Int)))) (Adv.chk (29 : Nat) none (Adv.chk (30 : Nat) none Adv.nil))))) Adv.nil))) Adv.nil) (by kernel_rfl) (by kernel_rfl) (p := (List.length l + (0 : Nat) = List.length l ∧ Value.int IntKind.i64 (0 : Int) = Value.int IntKind.i64 (0 : Int) ∧ Heap.mk (nat_lit 10) (Trie.node none (Trie.node none Trie.leaf (Trie.node none (Trie.node (some (Blk.cells [Value.int IntKind.u8 (0 : Int), Value.int IntKind.u8 (0 : Int), Value.int IntKind.u8 (0 : Int), Value.int IntKind.u8 (0 : Int), Value.int IntKind.u8 (0 : Int), Value.int IntKind.u8 (0 : Int), Value.int IntKind.u8 (0 : Int), Value.int IntKind.u8 (0 : Int), Value.int IntKind.u8 (0 : Int), Value.int IntKind.u8 (0 : Int), Value.int IntKind.u8 (0 : Int), Value.int IntKind.u8 (0 : Int), Value.int IntKind.u8 (0 : Int), Value.int IntKind.u8 (0 : Int), Value.int IntKind.u8 (0 : Int), Value.int IntKind.u8 (0 : Int), Value.int IntKind.u8 (0 : Int), Value.int IntKind.u8 (0 : Int), Value.int IntKind.u8 (0 : Int), Value.int IntKind.u8 (0 : Int), Value.int IntKind.u8 (0 : Int), Value.int IntKind.u8 (0 : Int), Value.int IntKind.u8 (0 : Int), Value.int IntKind.u8 (0 : Int), Value.int IntKind.u8 (0 : Int), Value.int IntKind.u8 (0 : Int), Value.int IntKind.u8 (0 : Int), Value.int IntKind.u8 (0 : Int), Value.int IntKind.u8 (0 : Int), Value.int IntKind.u8 (0 : Int)] (nat_lit 23) Mode.fix)) Trie.leaf Trie.leaf) Trie.leaf)) (Trie.node none (Trie.node none (Trie.node (some (Blk.cells (catsL c) (nat_lit 23) Mode.fix)) Trie.leaf Trie.leaf) Trie.leaf) Trie.leaf)) = Heap.mk (nat_lit 10) (Trie.node none (Trie.node none Trie.leaf (Trie.node none (Trie.node (some (Blk.cells [Value.int IntKind.u8 (0 : Int), Value.int IntKind.u8 (0 : Int), Value.int IntKind.u8 (0 : Int), Value.int IntKind.u8 (0 : Int), Value.int IntKind.u8 (0 : Int), Value.int IntKind.u8 (0 : Int), Value.int IntKind.u8 (0 : Int), Value.int IntKind.u8 (0 : Int), Value.int IntKind.u8 (0 : Int), Value.int IntKind.u8 (0 : Int), Value.int IntKind.u8 (0 : Int), Value.int IntKind.u8 (0 : Int), Value.int IntKind.u8 (0 : Int), Value.int IntKind.u8 (0 : Int), Value.int IntKind.u8 (0 : Int), Value.int IntKind.u8 (0 : Int), Value.int IntKind.u8 (0 : Int), Value.int IntKind.u8 (0 : Int), Value.int IntKind.u8 (0 : Int), Value.int IntKind.u8 (0 : Int), Value.int IntKind.u8 (0 : Int), Value.int IntKind.u8 (0 : Int), Value.int IntKind.u8 (0 : Int), Value.int IntKind.u8 (0 : Int), Value.int IntKind.u8 (0 : Int), Value.int IntKind.u8 (0 : Int), Value.int IntKind.u8 (0 : Int), Value.int IntKind.u8 (0 : Int), Value.int IntKind.u8 (0 : Int), Value.int IntKind.u8 (0 : Int)] (nat_lit 23) Mode.fix)) Trie.leaf Trie.leaf) Trie.leaf)) (Trie.node none (Trie.node none (Trie.node (some (Blk.cells (catsL (withC c (List.take (0 : Nat) l))) (nat_lit 23) Mode.fix)) Trie.leaf Trie.leaf) Trie.leaf) Trie.leaf))) ∧ ∀ (i8 s8 : Nat) (j8 : Nat → Value), i8 + s8 = List.length l → (decide ((↑s8 : Int) < (↑(List.length l) : Int)) = true → ((0 : Int) ≤ (↑s8 : Int) ∧ (↑s8 : Int) < (↑(List.length l) : Int)) ∧ Ask.holds Tryd.prog (Ask.part (Array.toList (Array.mk (izL l))) (Int.toNat (↑(Int.toNat (↑s8 : Int) * nat_lit 1) : Int)) (nat_lit 1) [Value.int IntKind.i64 (List.getD l s8 (0 : Int))]) ∧ CallK Tryd.prog (nat_lit 54) [Value.int IntKind.i64 (List.getD l s8 (0 : Int))] (Value.bool (rightI (List.getD l s8 (0 : Int)))) ∧ (rightI (List.getD l s8 (0 : Int)) = true → ((0 : Int) ≤ IntKind.wrap IntKind.i64 (Int.tdiv (List.getD l s8 (0 : Int)) (8 : Int)) ∧ IntKind.wrap IntKind.i64 (Int.tdiv (List.getD l s8 (0 : Int)) (8 : Int)) < (30 : Int)) ∧ Ask.holds Tryd.prog (Ask.part (catsL (withC c (List.take s8 l))) (nat_lit 0 + Int.toNat (IntKind.wrap IntKind.i64 (Int.tdiv (List.getD l s8 (0 : Int)) (8 : Int))) * nat_lit 1) (nat_lit 1) [Value.int IntKind.u8 (List.getD (withC c (List.take s8 l)) (Int.toNat (IntKind.wrap IntKind.i64 (Int.tdiv (List.getD l s8 (0 : Int)) (8 : Int)))) (0 : Int))]) ∧ CallK Tryd.prog (nat_lit 55) [Value.int IntKind.i64 (List.getD l s8 (0 : Int))] (Value.int IntKind.u8 (catBit (List.getD l s8 (0 : Int)))) ∧ ((0 : Int) ≤ IntKind.wrap IntKind.i64 (Int.tdiv (List.getD l s8 (0 : Int)) (8 : Int)) ∧ IntKind.wrap IntKind.i64 (Int.tdiv (List.getD l s8 (0 : Int)) (8 : Int)) < (30 : Int)) ∧ nat_lit 0 + Int.toNat (IntKind.wrap IntKind.i64 (Int.tdiv (List.getD l s8 (0 : Int)) (8 : Int))) * nat_lit 1 + nat_lit 1 ≤ nat_lit 30 ∧ ∃ (i8' : Nat), ∃ (s8' : Nat), i8' < i8 ∧ i8' + s8' = List.length l ∧ Value.int IntKind.i64 (IntKind.wrap IntKind.i64 ((↑s8 : Int) + (1 : Int))) = Value.int IntKind.i64 (↑s8' : Int) ∧ (some (Blk.cells [Value.int IntKind.u8 (0 : Int), Value.int IntKind.u8 (0 : Int), Value.int IntKind.u8 (0 : Int), Value.int IntKind.u8 (0 : Int), Value.int IntKind.u8 (0 : Int), Value.int IntKind.u8 (0 : Int), Value.int IntKind.u8 (0 : Int), Value.int IntKind.u8 (0 : Int), Value.int IntKind.u8 (0 : Int), Value.int IntKind.u8 (0 : Int), Value.int IntKind.u8 (0 : Int), Value.int IntKind.u8 (0 : Int), Value.int IntKind.u8 (0 : Int), Value.int IntKind.u8 (0 : Int), Value.int IntKind.u8 (0 : Int), Value.int IntKind.u8 (0 : Int), Value.int IntKind.u8 (0 : Int), Value.int IntKind.u8 (0 : Int), Value.int IntKind.u8 (0 : Int), Value.int IntKind.u8 (0 : Int), Value.int IntKind.u8 (0 : Int), Value.int IntKind.u8 (0 : Int), Value.int IntKind.u8 (0 : Int), Value.int IntKind.u8 (0 : Int), Value.int IntKind.u8 (0 : Int), Value.int IntKind.u8 (0 : Int), Value.int IntKind.u8 (0 : Int), Value.int IntKind.u8 (0 : Int), Value.int IntKind.u8 (0 : Int), Value.int IntKind.u8 (0 : Int)] (nat_lit 23) Mode.fix) = some (Blk.cells [Value.int IntKind.u8 (0 : Int), Value.int IntKind.u8 (0 : Int), Value.int IntKind.u8 (0 : Int), Value.int IntKind.u8 (0 : Int), Value.int IntKind.u8 (0 : Int), Value.int IntKind.u8 (0 : Int), Value.int IntKind.u8 (0 : Int), Value.int IntKind.u8 (0 : Int), Value.int IntKind.u8 (0 : Int), Value.int IntKind.u8 (0 : Int), Value.int IntKind.u8 (0 : Int), Value.int IntKind.u8 (0 : Int), Value.int IntKind.u8 (0 : Int), Value.int IntKind.u8 (0 : Int), Value.int IntKind.u8 (0 : Int), Value.int IntKind.u8 (0 : Int), Value.int IntKind.u8 (0 : Int), Value.int IntKind.u8 (0 : Int), Value.int IntKind.u8 (0 : Int), Value.int IntKind.u8 (0 : Int), Value.int IntKind.u8 (0 : Int), Value.int IntKind.u8 (0 : Int), Value.int IntKind.u8 (0 : Int), Value.int IntKind.u8 (0 : Int), Value.int IntKind.u8 (0 : Int), Value.int IntKind.u8 (0 : Int), Value.int IntKind.u8 (0 : Int), Value.int IntKind.u8 (0 : Int), Value.int IntKind.u8 (0 : Int), Value.int IntKind.u8 (0 : Int)] (nat_lit 23) Mode.fix) ∧ some (Blk.cells (splice (catsL (withC c (List.take s8 l))) (nat_lit 0 + Int.toNat (IntKind.wrap IntKind.i64 (Int.tdiv (List.getD l s8 (0 : Int)) (8 : Int))) * nat_lit 1) (Value.cellList (Value.int IntKind.u8 (IntKind.wrap IntKind.u8 (↑(BitVec.toNat (BitVec.ofInt (IntKind.bits IntKind.u8) (List.getD (withC c (List.take s8 l)) (Int.toNat (IntKind.wrap IntKind.i64 (Int.tdiv (List.getD l s8 (0 : Int)) (8 : Int)))) (0 : Int)) ||| BitVec.ofInt (IntKind.bits IntKind.u8) (catBit (List.getD l s8 (0 : Int))))) : Int))))) (nat_lit 23) Mode.fix) = some (Blk.cells (catsL (withC c (List.take s8' l))) (nat_lit 23) Mode.fix) ∧ True) ∧ true = true ∧ true = true ∧ true = true ∧ True) ∧ (rightI (List.getD l s8 (0 : Int)) = false → ∃ (i8' : Nat), ∃ (s8' : Nat), i8' < i8 ∧ i8' + s8' = List.length l ∧ Value.int IntKind.i64 (IntKind.wrap IntKind.i64 ((↑s8 : Int) + (1 : Int))) = Value.int IntKind.i64 (↑s8' : Int) ∧ (some (Blk.cells [Value.int IntKind.u8 (0 : Int), Value.int IntKind.u8 (0 : Int), Value.int IntKind.u8 (0 : Int), Value.int IntKind.u8 (0 : Int), Value.int IntKind.u8 (0 : Int), Value.int IntKind.u8 (0 : Int), Value.int IntKind.u8 (0 : Int), Value.int IntKind.u8 (0 : Int), Value.int IntKind.u8 (0 : Int), Value.int IntKind.u8 (0 : Int), Value.int IntKind.u8 (0 : Int), Value.int IntKind.u8 (0 : Int), Value.int IntKind.u8 (0 : Int), Value.int IntKind.u8 (0 : Int), Value.int IntKind.u8 (0 : Int), Value.int IntKind.u8 (0 : Int), Value.int IntKind.u8 (0 : Int), Value.int IntKind.u8 (0 : Int), Value.int IntKind.u8 (0 : Int), Value.int IntKind.u8 (0 : Int), Value.int IntKind.u8 (0 : Int), Value.int IntKind.u8 (0 : Int), Value.int IntKind.u8 (0 : Int), Value.int IntKind.u8 (0 : Int), Value.int IntKind.u8 (0 : Int), Value.int IntKind.u8 (0 : Int), Value.int IntKind.u8 (0 : Int), Value.int IntKind.u8 (0 : Int), Value.int IntKind.u8 (0 : Int), Value.int IntKind.u8 (0 : Int)] (nat_lit 23) Mode.fix) = some (Blk.cells [Value.int IntKind.u8 (0 : Int), Value.int IntKind.u8 (0 : Int), Value.int IntKind.u8 (0 : Int), Value.int IntKind.u8 (0 : Int), Value.int IntKind.u8 (0 : Int), Value.int IntKind.u8 (0 : Int), Value.int IntKind.u8 (0 : Int), Value.int IntKind.u8 (0 : Int), Value.int IntKind.u8 (0 : Int), Value.int IntKind.u8 (0 : Int), Value.int IntKind.u8 (0 : Int), Value.int IntKind.u8 (0 : Int), Value.int IntKind.u8 (0 : Int), Value.int IntKind.u8 (0 : Int), Value.int IntKind.u8 (0 : Int), Value.int IntKind.u8 (0 : Int), Value.int IntKind.u8 (0 : Int), Value.int IntKind.u8 (0 : Int), Value.int IntKind.u8 (0 : Int), Value.int IntKind.u8 (0 : Int), Value.int IntKind.u8 (0 : Int), Value.int IntKind.u8 (0 : Int), Value.int IntKind.u8 (0 : Int), Value.int IntKind.u8 (0 : Int), Value.int IntKind.u8 (0 : Int), Value.int IntKind.u8 (0 : Int), Value.int IntKind.u8 (0 : Int), Value.int IntKind.u8 (0 : Int), Value.int IntKind.u8 (0 : Int), Value.int IntKind.u8 (0 : Int)] (nat_lit 23) Mode.fix) ∧ some (Blk.cells (catsL (withC c (List.take s8 l))) (nat_lit 23) Mode.fix) = some (Blk.cells (catsL (withC c (List.take s8' l))) (nat_lit 23) Mode.fix) ∧ True) ∧ true = true ∧ true = true ∧ true = true ∧ True)) ∧ (decide ((↑s8 : Int) < (↑(List.length l) : Int)) = false → Value.agg (Array.mk (catsL (withC c (List.take s8 l)))) = catsV (withC c l))) (by kernel_rfl) (by
    refine ⟨⟨by omega, rfl, rfl⟩, fun i k j q1 => ⟨fun h1 => ?_, fun h1 => ?_⟩⟩
    · have hk : k < l.length := by have := of_decide_eq_true h1; omega
      have hs : withC c (l.take (k + 1)) = add1 (withC c (l.take k)) (l.getD k 0) := take_add hk
      refine ⟨⟨by omega, by omega⟩, iz_part hk rfl, right54_w _, fun h2 => ?_, fun h2 => ?_⟩
      · obtain ⟨e1, e2, e3, e4⟩ := q8 h2
        rw [e1]
        refine ⟨⟨e2, e3⟩, catsL_part _ _ e4, bit55_w _ (rightI_iff.1 h2).1, ⟨e2, e3⟩, nle30 e4, i - 1, k + 1, by omega, by omega, wrap_next k (by omega), ⟨rfl, ?_, trivial⟩, rfl, rfl, rfl, trivial⟩
        rw [splice_set _ e4, hs]
        unfold add1
        rw [h2]
        rfl
      · refine ⟨i - 1, k + 1, by omega, by omega, wrap_next k (by omega), ⟨rfl, ?_, trivial⟩, rfl, rfl, rfl, trivial⟩
        rw [hs]
        unfold add1
        rw [h2]
    · have hk : k = l.length := by have := of_decide_eq_false h1; omega
      subst hk
      rw [List.take_length]
      rfl)
theorem without_w (c : List Int) (l : List Int) (hl : l.length ≤ 1000) : CallK Tryd.prog 19 [catsV c, izV l] (catsV (withoutC c l)) := CallK.via progOK (pfs [54, 55]) [] 100 (Adv.loop (8 : Nat) (fun (k : Nat) => [((9 : Nat), Value.int IntKind.i64 (↑k : Int))]) ((fun (h : Heap) (k : Nat) => Heap.set h (8 : Nat) (Blk.cells (catsL (withoutC c (List.take k l))) (23 : TypeId) Mode.fix)) (Heap.mk (nat_lit 10) (Trie.node none (Trie.node none Trie.leaf (Trie.node none (Trie.node (some (Blk.cells [Value.int IntKind.u8 (0 : Int), Value.int IntKind.u8 (0 : Int), Value.int IntKind.u8 (0 : Int), Value.int IntKind.u8 (0 : Int), Value.int IntKind.u8 (0 : Int), Value.int IntKind.u8 (0 : Int), Value.int IntKind.u8 (0 : Int), Value.int IntKind.u8 (0 : Int), Value.int IntKind.u8 (0 : Int), Value.int IntKind.u8 (0 : Int), Value.int IntKind.u8 (0 : Int), Value.int IntKind.u8 (0 : Int), Value.int IntKind.u8 (0 : Int), Value.int IntKind.u8 (0 : Int), Value.int IntKind.u8 (0 : Int), Value.int IntKind.u8 (0 : Int), Value.int IntKind.u8 (0 : Int), Value.int IntKind.u8 (0 : Int), Value.int IntKind.u8 (0 : Int), Value.int IntKind.u8 (0 : Int), Value.int IntKind.u8 (0 : Int), Value.int IntKind.u8 (0 : Int), Value.int IntKind.u8 (0 : Int), Value.int IntKind.u8 (0 : Int), Value.int IntKind.u8 (0 : Int), Value.int IntKind.u8 (0 : Int), Value.int IntKind.u8 (0 : Int), Value.int IntKind.u8 (0 : Int), Value.int IntKind.u8 (0 : Int), Value.int IntKind.u8 (0 : Int)] (nat_lit 23) Mode.fix)) Trie.leaf Trie.leaf) Trie.leaf)) (Trie.node none (Trie.node none (Trie.node (some (Blk.cells (catsL c) (nat_lit 23) Mode.fix)) Trie.leaf Trie.leaf) Trie.leaf) Trie.leaf)))) (fun (i k : Nat) => i + k = List.length l) (List.length l) (0 : Nat) fun (i8 s8 : Nat) (j8 : Nat → Value) => Adv.split (10 : Nat) (Adv.chk (15 : Nat) none (Adv.chk (16 : Nat) (some (Value.int IntKind.i64 (List.getD l s8 (0 : Int)))) (Adv.purs (20 : Nat) (rightI (List.getD l s8 (0 : Int))) (Adv.chk (24 : Nat) none (Adv.chk (25 : Nat) (some (Value.int IntKind.u8 (List.getD (withoutC c (List.take s8 l)) (Int.toNat (IntKind.wrap IntKind.i64 (Int.tdiv (List.getD l s8 (0 : Int)) (8 : Int)))) (0 : Int)))) (Adv.pur (27 : Nat) (Value.int IntKind.u8 (catBit (List.getD l s8 (0 : Int)))) (Adv.chk (29 : Nat) none (Adv.chk (30 : Nat) none Adv.nil))))) Adv.nil))) Adv.nil) (by kernel_rfl) (by kernel_rfl) (p := (List.length l + (0 : Nat) = List.length l ∧ Value.int IntKind.i64 (0 : Int) = Value.int IntKind.i64 (0 : Int) ∧ Heap.mk (nat_lit 10) (Trie.node none (Trie.node none Trie.leaf (Trie.node none (Trie.node (some (Blk.cells [Value.int IntKind.u8 (0 : Int), Value.int IntKind.u8 (0 : Int), Value.int IntKind.u8 (0 : Int), Value.int IntKind.u8 (0 : Int), Value.int IntKind.u8 (0 : Int), Value.int IntKind.u8 (0 : Int), Value.int IntKind.u8 (0 : Int), Value.int IntKind.u8 (0 : Int), Value.int IntKind.u8 (0 : Int), Value.int IntKind.u8 (0 : Int), Value.int IntKind.u8 (0 : Int), Value.int IntKind.u8 (0 : Int), Value.int IntKind.u8 (0 : Int), Value.int IntKind.u8 (0 : Int), Value.int IntKind.u8 (0 : Int), Value.int IntKind.u8 (0 : Int), Value.int IntKind.u8 (0 : Int), Value.int IntKind.u8 (0 : Int), Value.int IntKind.u8 (0 : Int), Value.int IntKind.u8 (0 : Int), Value.int IntKind.u8 (0 : Int), Value.int IntKind.u8 (0 : Int), Value.int IntKind.u8 (0 : Int), Value.int IntKind.u8 (0 : Int), Value.int IntKind.u8 (0 : Int), Value.int IntKind.u8 (0 : Int), Value.int IntKind.u8 (0 : Int), Value.int IntKind.u8 (0 : Int), Value.int IntKind.u8 (0 : Int), Value.int IntKind.u8 (0 : Int)] (nat_lit 23) Mode.fix)) Trie.leaf Trie.leaf) Trie.leaf)) (Trie.node none (Trie.node none (Trie.node (some (Blk.cells (catsL c) (nat_lit 23) Mode.fix)) Trie.leaf Trie.leaf) Trie.leaf) Trie.leaf)) = Heap.mk (nat_lit 10) (Trie.node none (Trie.node none Trie.leaf (Trie.node none (Trie.node (some (Blk.cells [Value.int IntKind.u8 (0 : Int), Value.int IntKind.u8 (0 : Int), Value.int IntKind.u8 (0 : Int), Value.int IntKind.u8 (0 : Int), Value.int IntKind.u8 (0 : Int), Value.int IntKind.u8 (0 : Int), Value.int IntKind.u8 (0 : Int), Value.int IntKind.u8 (0 : Int), Value.int IntKind.u8 (0 : Int), Value.int IntKind.u8 (0 : Int), Value.int IntKind.u8 (0 : Int), Value.int IntKind.u8 (0 : Int), Value.int IntKind.u8 (0 : Int), Value.int IntKind.u8 (0 : Int), Value.int IntKind.u8 (0 : Int), Value.int IntKind.u8 (0 : Int), Value.int IntKind.u8 (0 : Int), Value.int IntKind.u8 (0 : Int), Value.int IntKind.u8 (0 : Int), Value.int IntKind.u8 (0 : Int), Value.int IntKind.u8 (0 : Int), Value.int IntKind.u8 (0 : Int), Value.int IntKind.u8 (0 : Int), Value.int IntKind.u8 (0 : Int), Value.int IntKind.u8 (0 : Int), Value.int IntKind.u8 (0 : Int), Value.int IntKind.u8 (0 : Int), Value.int IntKind.u8 (0 : Int), Value.int IntKind.u8 (0 : Int), Value.int IntKind.u8 (0 : Int)] (nat_lit 23) Mode.fix)) Trie.leaf Trie.leaf) Trie.leaf)) (Trie.node none (Trie.node none (Trie.node (some (Blk.cells (catsL (withoutC c (List.take (0 : Nat) l))) (nat_lit 23) Mode.fix)) Trie.leaf Trie.leaf) Trie.leaf) Trie.leaf))) ∧ ∀ (i8 s8 : Nat) (j8 : Nat → Value), i8 + s8 = List.length l → (decide ((↑s8 : Int) < (↑(List.length l) : Int)) = true → ((0 : Int) ≤ (↑s8 : Int) ∧ (↑s8 : Int) < (↑(List.length l) : Int)) ∧ Ask.holds Tryd.prog (Ask.part (Array.toList (Array.mk (izL l))) (Int.toNat (↑(Int.toNat (↑s8 : Int) * nat_lit 1) : Int)) (nat_lit 1) [Value.int IntKind.i64 (List.getD l s8 (0 : Int))]) ∧ CallK Tryd.prog (nat_lit 54) [Value.int IntKind.i64 (List.getD l s8 (0 : Int))] (Value.bool (rightI (List.getD l s8 (0 : Int)))) ∧ (rightI (List.getD l s8 (0 : Int)) = true → ((0 : Int) ≤ IntKind.wrap IntKind.i64 (Int.tdiv (List.getD l s8 (0 : Int)) (8 : Int)) ∧ IntKind.wrap IntKind.i64 (Int.tdiv (List.getD l s8 (0 : Int)) (8 : Int)) < (30 : Int)) ∧ Ask.holds Tryd.prog (Ask.part (catsL (withoutC c (List.take s8 l))) (nat_lit 0 + Int.toNat (IntKind.wrap IntKind.i64 (Int.tdiv (List.getD l s8 (0 : Int)) (8 : Int))) * nat_lit 1) (nat_lit 1) [Value.int IntKind.u8 (List.getD (withoutC c (List.take s8 l)) (Int.toNat (IntKind.wrap IntKind.i64 (Int.tdiv (List.getD l s8 (0 : Int)) (8 : Int)))) (0 : Int))]) ∧ CallK Tryd.prog (nat_lit 55) [Value.int IntKind.i64 (List.getD l s8 (0 : Int))] (Value.int IntKind.u8 (catBit (List.getD l s8 (0 : Int)))) ∧ ((0 : Int) ≤ IntKind.wrap IntKind.i64 (Int.tdiv (List.getD l s8 (0 : Int)) (8 : Int)) ∧ IntKind.wrap IntKind.i64 (Int.tdiv (List.getD l s8 (0 : Int)) (8 : Int)) < (30 : Int)) ∧ nat_lit 0 + Int.toNat (IntKind.wrap IntKind.i64 (Int.tdiv (List.getD l s8 (0 : Int)) (8 : Int))) * nat_lit 1 + nat_lit 1 ≤ nat_lit 30 ∧ ∃ (i8' : Nat), ∃ (s8' : Nat), i8' < i8 ∧ i8' + s8' = List.length l ∧ Value.int IntKind.i64 (IntKind.wrap IntKind.i64 ((↑s8 : Int) + (1 : Int))) = Value.int IntKind.i64 (↑s8' : Int) ∧ (some (Blk.cells [Value.int IntKind.u8 (0 : Int), Value.int IntKind.u8 (0 : Int), Value.int IntKind.u8 (0 : Int), Value.int IntKind.u8 (0 : Int), Value.int IntKind.u8 (0 : Int), Value.int IntKind.u8 (0 : Int), Value.int IntKind.u8 (0 : Int), Value.int IntKind.u8 (0 : Int), Value.int IntKind.u8 (0 : Int), Value.int IntKind.u8 (0 : Int), Value.int IntKind.u8 (0 : Int), Value.int IntKind.u8 (0 : Int), Value.int IntKind.u8 (0 : Int), Value.int IntKind.u8 (0 : Int), Value.int IntKind.u8 (0 : Int), Value.int IntKind.u8 (0 : Int), Value.int IntKind.u8 (0 : Int), Value.int IntKind.u8 (0 : Int), Value.int IntKind.u8 (0 : Int), Value.int IntKind.u8 (0 : Int), Value.int IntKind.u8 (0 : Int), Value.int IntKind.u8 (0 : Int), Value.int IntKind.u8 (0 : Int), Value.int IntKind.u8 (0 : Int), Value.int IntKind.u8 (0 : Int), Value.int IntKind.u8 (0 : Int), Value.int IntKind.u8 (0 : Int), Value.int IntKind.u8 (0 : Int), Value.int IntKind.u8 (0 : Int), Value.int IntKind.u8 (0 : Int)] (nat_lit 23) Mode.fix) = some (Blk.cells [Value.int IntKind.u8 (0 : Int), Value.int IntKind.u8 (0 : Int), Value.int IntKind.u8 (0 : Int), Value.int IntKind.u8 (0 : Int), Value.int IntKind.u8 (0 : Int), Value.int IntKind.u8 (0 : Int), Value.int IntKind.u8 (0 : Int), Value.int IntKind.u8 (0 : Int), Value.int IntKind.u8 (0 : Int), Value.int IntKind.u8 (0 : Int), Value.int IntKind.u8 (0 : Int), Value.int IntKind.u8 (0 : Int), Value.int IntKind.u8 (0 : Int), Value.int IntKind.u8 (0 : Int), Value.int IntKind.u8 (0 : Int), Value.int IntKind.u8 (0 : Int), Value.int IntKind.u8 (0 : Int), Value.int IntKind.u8 (0 : Int), Value.int IntKind.u8 (0 : Int), Value.int IntKind.u8 (0 : Int), Value.int IntKind.u8 (0 : Int), Value.int IntKind.u8 (0 : Int), Value.int IntKind.u8 (0 : Int), Value.int IntKind.u8 (0 : Int), Value.int IntKind.u8 (0 : Int), Value.int IntKind.u8 (0 : Int), Value.int IntKind.u8 (0 : Int), Value.int IntKind.u8 (0 : Int), Value.int IntKind.u8 (0 : Int), Value.int IntKind.u8 (0 : Int)] (nat_lit 23) Mode.fix) ∧ some (Blk.cells (splice (catsL (withoutC c (List.take s8 l))) (nat_lit 0 + Int.toNat (IntKind.wrap IntKind.i64 (Int.tdiv (List.getD l s8 (0 : Int)) (8 : Int))) * nat_lit 1) (Value.cellList (Value.int IntKind.u8 (IntKind.wrap IntKind.u8 (↑(BitVec.toNat (BitVec.ofInt (IntKind.bits IntKind.u8) (List.getD (withoutC c (List.take s8 l)) (Int.toNat (IntKind.wrap IntKind.i64 (Int.tdiv (List.getD l s8 (0 : Int)) (8 : Int)))) (0 : Int)) &&& ~~~BitVec.ofInt (IntKind.bits IntKind.u8) (catBit (List.getD l s8 (0 : Int))))) : Int))))) (nat_lit 23) Mode.fix) = some (Blk.cells (catsL (withoutC c (List.take s8' l))) (nat_lit 23) Mode.fix) ∧ True) ∧ true = true ∧ true = true ∧ true = true ∧ True) ∧ (rightI (List.getD l s8 (0 : Int)) = false → ∃ (i8' : Nat), ∃ (s8' : Nat), i8' < i8 ∧ i8' + s8' = List.length l ∧ Value.int IntKind.i64 (IntKind.wrap IntKind.i64 ((↑s8 : Int) + (1 : Int))) = Value.int IntKind.i64 (↑s8' : Int) ∧ (some (Blk.cells [Value.int IntKind.u8 (0 : Int), Value.int IntKind.u8 (0 : Int), Value.int IntKind.u8 (0 : Int), Value.int IntKind.u8 (0 : Int), Value.int IntKind.u8 (0 : Int), Value.int IntKind.u8 (0 : Int), Value.int IntKind.u8 (0 : Int), Value.int IntKind.u8 (0 : Int), Value.int IntKind.u8 (0 : Int), Value.int IntKind.u8 (0 : Int), Value.int IntKind.u8 (0 : Int), Value.int IntKind.u8 (0 : Int), Value.int IntKind.u8 (0 : Int), Value.int IntKind.u8 (0 : Int), Value.int IntKind.u8 (0 : Int), Value.int IntKind.u8 (0 : Int), Value.int IntKind.u8 (0 : Int), Value.int IntKind.u8 (0 : Int), Value.int IntKind.u8 (0 : Int), Value.int IntKind.u8 (0 : Int), Value.int IntKind.u8 (0 : Int), Value.int IntKind.u8 (0 : Int), Value.int IntKind.u8 (0 : Int), Value.int IntKind.u8 (0 : Int), Value.int IntKind.u8 (0 : Int), Value.int IntKind.u8 (0 : Int), Value.int IntKind.u8 (0 : Int), Value.int IntKind.u8 (0 : Int), Value.int IntKind.u8 (0 : Int), Value.int IntKind.u8 (0 : Int)] (nat_lit 23) Mode.fix) = some (Blk.cells [Value.int IntKind.u8 (0 : Int), Value.int IntKind.u8 (0 : Int), Value.int IntKind.u8 (0 : Int), Value.int IntKind.u8 (0 : Int), Value.int IntKind.u8 (0 : Int), Value.int IntKind.u8 (0 : Int), Value.int IntKind.u8 (0 : Int), Value.int IntKind.u8 (0 : Int), Value.int IntKind.u8 (0 : Int), Value.int IntKind.u8 (0 : Int), Value.int IntKind.u8 (0 : Int), Value.int IntKind.u8 (0 : Int), Value.int IntKind.u8 (0 : Int), Value.int IntKind.u8 (0 : Int), Value.int IntKind.u8 (0 : Int), Value.int IntKind.u8 (0 : Int), Value.int IntKind.u8 (0 : Int), Value.int IntKind.u8 (0 : Int), Value.int IntKind.u8 (0 : Int), Value.int IntKind.u8 (0 : Int), Value.int IntKind.u8 (0 : Int), Value.int IntKind.u8 (0 : Int), Value.int IntKind.u8 (0 : Int), Value.int IntKind.u8 (0 : Int), Value.int IntKind.u8 (0 : Int), Value.int IntKind.u8 (0 : Int), Value.int IntKind.u8 (0 : Int), Value.int IntKind.u8 (0 : Int), Value.int IntKind.u8 (0 : Int), Value.int IntKind.u8 (0 : Int)] (nat_lit 23) Mode.fix) ∧ some (Blk.cells (catsL (withoutC c (List.take s8 l))) (nat_lit 23) Mode.fix) = some (Blk.cells (catsL (withoutC c (List.take s8' l))) (nat_lit 23) Mode.fix) ∧ True) ∧ true = true ∧ true = true ∧ true = true ∧ True)) ∧ (decide ((↑s8 : Int) < (↑(List.length l) : Int)) = false → Value.agg (Array.mk (catsL (withoutC c (List.take s8 l)))) = catsV (withoutC c l))) (by kernel_rfl) (by
    refine ⟨⟨by omega, rfl, rfl⟩, fun i k j q1 => ⟨fun h1 => ?_, fun h1 => ?_⟩⟩
    · have hk : k < l.length := by have := of_decide_eq_true h1; omega
      have hs : withoutC c (l.take (k + 1)) = sub1 (withoutC c (l.take k)) (l.getD k 0) := take_add hk
      refine ⟨⟨by omega, by omega⟩, iz_part hk rfl, right54_w _, fun h2 => ?_, fun h2 => ?_⟩
      · obtain ⟨e1, e2, e3, e4⟩ := q8 h2
        rw [e1]
        refine ⟨⟨e2, e3⟩, catsL_part _ _ e4, bit55_w _ (rightI_iff.1 h2).1, ⟨e2, e3⟩, nle30 e4, i - 1, k + 1, by omega, by omega, wrap_next k (by omega), ⟨rfl, ?_, trivial⟩, rfl, rfl, rfl, trivial⟩
        rw [splice_set _ e4, hs]
        unfold sub1
        rw [h2]
        rfl
      · refine ⟨i - 1, k + 1, by omega, by omega, wrap_next k (by omega), ⟨rfl, ?_, trivial⟩, rfl, rfl, rfl, trivial⟩
        rw [hs]
        unfold sub1
        rw [h2]
    · have hk : k = l.length := by have := of_decide_eq_false h1; omega
      subst hk
      rw [List.take_length]
      rfl)
theorem list_w (c : List Int) (hc : CatsOK c) : CallK Tryd.prog 23 [catsV c] (izV (listC c)) := CallK.coe progOK (pfs []) [3] 100 (Adv.weak (8 : Nat) [(nat_lit 3, Value.iface (nat_lit 1000003) (Value.tuple (Array.mk [Value.int IntKind.i64 (9 : Int), Value.int IntKind.i64 (1 : Int), Value.int IntKind.i64 (0 : Int), Value.agg (Array.mk [])])))] (Heap.mk (nat_lit 10) (Trie.node none (Trie.node none Trie.leaf (Trie.node none (Trie.node (some (Blk.own (nat_lit 0) (nat_lit 3))) Trie.leaf Trie.leaf) Trie.leaf)) (Trie.node none (Trie.node none (Trie.node (some (Blk.cells (catsL c) (nat_lit 23) Mode.fix)) Trie.leaf Trie.leaf) Trie.leaf) Trie.leaf))) (Adv.loop (9 : Nat) (fun (k : Nat) => [((5 : Nat), Value.int IntKind.i64 (↑k : Int)), ((3 : Nat), osl (9 : Nat) (1 : Nat) (↑(List.length (listN c k)) : Int) (List.toArray (izL (listN c k))))]) ((fun (h : Heap) (k : Nat) => Heap.set h (9 : Nat) (Blk.own (List.length (listN c k)) (3 : TypeId))) (Heap.mk (nat_lit 10) (Trie.node none (Trie.node none Trie.leaf (Trie.node none (Trie.node (some (Blk.own (nat_lit 0) (nat_lit 3))) Trie.leaf Trie.leaf) Trie.leaf)) (Trie.node none (Trie.node none (Trie.node (some (Blk.cells (catsL c) (nat_lit 23) Mode.fix)) Trie.leaf Trie.leaf) Trie.leaf) Trie.leaf)))) (fun (i k : Nat) => i + k = (240 : Nat)) (240 : Nat) (0 : Nat) fun (i9 s9 : Nat) (j9 : Nat → Value) => Adv.split (11 : Nat) (Adv.purs (21 : Nat) (hasC c (↑s9 : Int)) (Adv.chk (26 : Nat) none Adv.nil) Adv.nil) Adv.nil)) (by kernel_rfl) (by kernel_rfl) (p := Weak Tryd.prog [Value.agg (Array.mk (catsL c)), Value.pointer (some (Addr.mk (nat_lit 8) (nat_lit 0) none)), Value.slice none (nat_lit 0) (nat_lit 0), Value.slice none (nat_lit 0) (nat_lit 0), Value.tuple (Array.mk []), Value.int IntKind.i64 (0 : Int), Value.tuple (Array.mk []), Value.tuple (Array.mk []), Value.tuple (Array.mk []), Value.tuple (Array.mk []), Value.tuple (Array.mk []), Value.tuple (Array.mk []), Value.tuple (Array.mk []), Value.tuple (Array.mk []), Value.tuple (Array.mk []), Value.tuple (Array.mk []), Value.tuple (Array.mk [])] (Heap.mk (nat_lit 9) (Trie.node none Trie.leaf (Trie.node none (Trie.node none (Trie.node (some (Blk.cells (catsL c) (nat_lit 23) Mode.fix)) Trie.leaf Trie.leaf) Trie.leaf) Trie.leaf))) [Value.agg (Array.mk (catsL c)), Value.pointer (some (Addr.mk (nat_lit 8) (nat_lit 0) none)), Value.slice none (nat_lit 0) (nat_lit 0), Value.iface (nat_lit 1000003) (Value.tuple (Array.mk [Value.int IntKind.i64 (9 : Int), Value.int IntKind.i64 (1 : Int), Value.int IntKind.i64 (0 : Int), Value.agg (Array.mk [])])), Value.tuple (Array.mk []), Value.int IntKind.i64 (0 : Int), Value.tuple (Array.mk []), Value.tuple (Array.mk []), Value.tuple (Array.mk []), Value.tuple (Array.mk []), Value.tuple (Array.mk []), Value.tuple (Array.mk []), Value.tuple (Array.mk []), Value.tuple (Array.mk []), Value.tuple (Array.mk []), Value.tuple (Array.mk []), Value.tuple (Array.mk [])] (Heap.mk (nat_lit 10) (Trie.node none (Trie.node none Trie.leaf (Trie.node none (Trie.node (some (Blk.own (nat_lit 0) (nat_lit 3))) Trie.leaf Trie.leaf) Trie.leaf)) (Trie.node none (Trie.node none (Trie.node (some (Blk.cells (catsL c) (nat_lit 23) Mode.fix)) Trie.leaf Trie.leaf) Trie.leaf) Trie.leaf))) ∧ ((240 : Nat) + (0 : Nat) = (240 : Nat) ∧ (Value.int IntKind.i64 (0 : Int) = Value.int IntKind.i64 (0 : Int) ∧ Value.iface (nat_lit 1000003) (Value.tuple (Array.mk [Value.int IntKind.i64 (9 : Int), Value.int IntKind.i64 (1 : Int), Value.int IntKind.i64 (0 : Int), Value.agg (Array.mk [])])) = Value.iface (nat_lit 1000003) (Value.tuple (Array.mk [Value.int IntKind.i64 (9 : Int), Value.int IntKind.i64 (1 : Int), Value.int IntKind.i64 (0 : Int), Value.agg (Array.mk [])]))) ∧ Heap.mk (nat_lit 10) (Trie.node none (Trie.node none Trie.leaf (Trie.node none (Trie.node (some (Blk.own (nat_lit 0) (nat_lit 3))) Trie.leaf Trie.leaf) Trie.leaf)) (Trie.node none (Trie.node none (Trie.node (some (Blk.cells (catsL c) (nat_lit 23) Mode.fix)) Trie.leaf Trie.leaf) Trie.leaf) Trie.leaf)) = Heap.mk (nat_lit 10) (Trie.node none (Trie.node none Trie.leaf (Trie.node none (Trie.node (some (Blk.own (nat_lit 0) (nat_lit 3))) Trie.leaf Trie.leaf) Trie.leaf)) (Trie.node none (Trie.node none (Trie.node (some (Blk.cells (catsL c) (nat_lit 23) Mode.fix)) Trie.leaf Trie.leaf) Trie.leaf) Trie.leaf))) ∧ ∀ (i9 s9 : Nat) (j9 : Nat → Value), i9 + s9 = (240 : Nat) → (decide ((↑s9 : Int) < (240 : Int)) = true → CallK Tryd.prog (nat_lit 20) [Value.agg (Array.mk (catsL c)), Value.int IntKind.i64 (↑s9 : Int)] (Value.bool (hasC c (↑s9 : Int))) ∧ (hasC c (↑s9 : Int) = true → (List.length (Array.toList (Array.mk (izL (listN c s9)))) = List.length (listN c s9) ∧ ((↑(List.length (listN c s9)) : Int) + (↑(nat_lit 1) : Int)) * ((↑(TypeInfo.bytes (Tables.types (Program.toTables Tryd.prog))[(3 : Nat)]) : Int) + (1 : Int)) ≤ (1099511627776 : Int)) ∧ ∃ (i9' : Nat), ∃ (s9' : Nat), i9' < i9 ∧ i9' + s9' = (240 : Nat) ∧ (Value.int IntKind.i64 (IntKind.wrap IntKind.i64 ((↑s9 : Int) + (1 : Int))) = Value.int IntKind.i64 (↑s9' : Int) ∧ Value.iface (nat_lit 1000003) (Value.tuple (Array.mk [Value.int IntKind.i64 (9 : Int), Value.int IntKind.i64 (1 : Int), Value.int IntKind.i64 ((↑(List.length (listN c s9)) : Int) + (↑(nat_lit 1) : Int)), Value.agg (Array.mk (Array.toList (Array.mk (izL (listN c s9))) ++ List.take (nat_lit 1 * Int.toNat (1 : Int)) (List.drop (nat_lit 0) [Value.int IntKind.i64 (↑s9 : Int)])))])) = Value.iface (nat_lit 1000003) (Value.tuple (Array.mk [Value.int IntKind.i64 (9 : Int), Value.int IntKind.i64 (1 : Int), Value.int IntKind.i64 (↑(List.length (listN c s9')) : Int), Value.agg (Array.mk (izL (listN c s9')))]))) ∧ (some (Blk.own (List.length (listN c s9) + List.length (List.take (nat_lit 1 * Int.toNat (1 : Int)) (List.drop (nat_lit 0) [Value.int IntKind.i64 (↑s9 : Int)]))) (nat_lit 3)) = some (Blk.own (List.length (listN c s9')) (nat_lit 3)) ∧ some (Blk.cells (catsL c) (nat_lit 23) Mode.fix) = some (Blk.cells (catsL c) (nat_lit 23) Mode.fix) ∧ True) ∧ true = true ∧ true = true ∧ True) ∧ (hasC c (↑s9 : Int) = false → ∃ (i9' : Nat), ∃ (s9' : Nat), i9' < i9 ∧ i9' + s9' = (240 : Nat) ∧ (Value.int IntKind.i64 (IntKind.wrap IntKind.i64 ((↑s9 : Int) + (1 : Int))) = Value.int IntKind.i64 (↑s9' : Int) ∧ Value.iface (nat_lit 1000003) (Value.tuple (Array.mk [Value.int IntKind.i64 (9 : Int), Value.int IntKind.i64 (1 : Int), Value.int IntKind.i64 (↑(List.length (listN c s9)) : Int), Value.agg (Array.mk (izL (listN c s9)))])) = Value.iface (nat_lit 1000003) (Value.tuple (Array.mk [Value.int IntKind.i64 (9 : Int), Value.int IntKind.i64 (1 : Int), Value.int IntKind.i64 (↑(List.length (listN c s9')) : Int), Value.agg (Array.mk (izL (listN c s9')))]))) ∧ (some (Blk.own (List.length (listN c s9)) (nat_lit 3)) = some (Blk.own (List.length (listN c s9')) (nat_lit 3)) ∧ some (Blk.cells (catsL c) (nat_lit 23) Mode.fix) = some (Blk.cells (catsL c) (nat_lit 23) Mode.fix) ∧ True) ∧ true = true ∧ true = true ∧ True)) ∧ (decide ((↑s9 : Int) < (240 : Int)) = false → Ideal.Coe (Value.iface (nat_lit 1000003) (Value.tuple (Array.mk [Value.int IntKind.i64 (9 : Int), Value.int IntKind.i64 (1 : Int), Value.int IntKind.i64 (↑(List.length (listN c s9)) : Int), Value.agg (Array.mk (izL (listN c s9)))]))) (izV (listC c)))) (by kernel_rfl) (by
    refine ⟨Weak.own' 3 1 3 (by rfl) (by rfl) (by rfl), ⟨by omega, ⟨rfl, rfl⟩, rfl⟩, fun i k j q1 => ⟨fun h1 => ?_, fun h1 => ?_⟩⟩
    · have hk : k < 240 := by have := of_decide_eq_true h1; omega
      refine ⟨hasp_w _ _ hc, fun h2 => ⟨⟨izL_length _, ?_⟩, i - 1, k + 1, by omega, by omega, ⟨wrap_next k (by omega), (isl_yes h2).1⟩, ⟨(isl_yes (tok := 9) h2).2, rfl, trivial⟩, rfl, rfl, trivial⟩, fun h2 => ⟨i - 1, k + 1, by omega, by omega, ⟨wrap_next k (by omega), by rw [isl_no h2]⟩, ⟨by rw [isl_no h2], rfl, trivial⟩, rfl, rfl, trivial⟩⟩
      exact mul_room 1001 1000 (show ((listN c k).length : Int) + 1 ≤ 1001 by have := listN_length c k; omega) (by have := i64_bytes; omega) (by have := i64_bytes; omega) (by decide) (by decide)
    · have hk : k = 240 := by have := of_decide_eq_false h1; omega
      subst hk
      exact Coe.os 9 1 _ _)
theorem refList_w (c : List Int) : CallK Tryd.prog 17 [catsV c] (izV (listC c)) := CallK.coe progOK (pfs []) [3] 100 (Adv.weak (8 : Nat) [(nat_lit 3, Value.iface (nat_lit 1000003) (Value.tuple (Array.mk [Value.int IntKind.i64 (9 : Int), Value.int IntKind.i64 (1 : Int), Value.int IntKind.i64 (0 : Int), Value.agg (Array.mk [])])))] (Heap.mk (nat_lit 10) (Trie.node none (Trie.node none Trie.leaf (Trie.node none (Trie.node (some (Blk.own (nat_lit 0) (nat_lit 3))) Trie.leaf Trie.leaf) Trie.leaf)) (Trie.node none (Trie.node none (Trie.node (some (Blk.cells (catsL c) (nat_lit 23) Mode.fix)) Trie.leaf Trie.leaf) Trie.leaf) Trie.leaf))) (Adv.loop (9 : Nat) (fun (k : Nat) => [((4 : Nat), Value.int IntKind.i64 (↑k : Int)), ((3 : Nat), osl (9 : Nat) (1 : Nat) (↑(List.length (listN c k)) : Int) (List.toArray (izL (listN c k))))]) ((fun (h : Heap) (k : Nat) => Heap.set h (9 : Nat) (Blk.own (List.length (listN c k)) (3 : TypeId))) (Heap.mk (nat_lit 10) (Trie.node none (Trie.node none Trie.leaf (Trie.node none (Trie.node (some (Blk.own (nat_lit 0) (nat_lit 3))) Trie.leaf Trie.leaf) Trie.leaf)) (Trie.node none (Trie.node none (Trie.node (some (Blk.cells (catsL c) (nat_lit 23) Mode.fix)) Trie.leaf Trie.leaf) Trie.leaf) Trie.leaf)))) (fun (i k : Nat) => i + k = (240 : Nat)) (240 : Nat) (0 : Nat) fun (i9 s9 : Nat) (j9 : Nat → Value) => Adv.split (13 : Nat) (Adv.purs (19 : Nat) (hasC c (↑s9 : Int)) (Adv.chk (24 : Nat) none Adv.nil) Adv.nil) Adv.nil)) (by kernel_rfl) (by kernel_rfl) (p := Weak Tryd.prog [Value.agg (Array.mk (catsL c)), Value.pointer (some (Addr.mk (nat_lit 8) (nat_lit 0) none)), Value.slice none (nat_lit 0) (nat_lit 0), Value.slice none (nat_lit 0) (nat_lit 0), Value.int IntKind.i64 (0 : Int), Value.tuple (Array.mk []), Value.tuple (Array.mk []), Value.tuple (Array.mk []), Value.tuple (Array.mk []), Value.tuple (Array.mk []), Value.tuple (Array.mk []), Value.tuple (Array.mk []), Value.tuple (Array.mk []), Value.tuple (Array.mk []), Value.tuple (Array.mk []), Value.tuple (Array.mk []), Value.tuple (Array.mk [])] (Heap.mk (nat_lit 9) (Trie.node none Trie.leaf (Trie.node none (Trie.node none (Trie.node (some (Blk.cells (catsL c) (nat_lit 23) Mode.fix)) Trie.leaf Trie.leaf) Trie.leaf) Trie.leaf))) [Value.agg (Array.mk (catsL c)), Value.pointer (some (Addr.mk (nat_lit 8) (nat_lit 0) none)), Value.slice none (nat_lit 0) (nat_lit 0), Value.iface (nat_lit 1000003) (Value.tuple (Array.mk [Value.int IntKind.i64 (9 : Int), Value.int IntKind.i64 (1 : Int), Value.int IntKind.i64 (0 : Int), Value.agg (Array.mk [])])), Value.int IntKind.i64 (0 : Int), Value.tuple (Array.mk []), Value.tuple (Array.mk []), Value.tuple (Array.mk []), Value.tuple (Array.mk []), Value.tuple (Array.mk []), Value.tuple (Array.mk []), Value.tuple (Array.mk []), Value.tuple (Array.mk []), Value.tuple (Array.mk []), Value.tuple (Array.mk []), Value.tuple (Array.mk []), Value.tuple (Array.mk [])] (Heap.mk (nat_lit 10) (Trie.node none (Trie.node none Trie.leaf (Trie.node none (Trie.node (some (Blk.own (nat_lit 0) (nat_lit 3))) Trie.leaf Trie.leaf) Trie.leaf)) (Trie.node none (Trie.node none (Trie.node (some (Blk.cells (catsL c) (nat_lit 23) Mode.fix)) Trie.leaf Trie.leaf) Trie.leaf) Trie.leaf))) ∧ ((240 : Nat) + (0 : Nat) = (240 : Nat) ∧ (Value.int IntKind.i64 (0 : Int) = Value.int IntKind.i64 (0 : Int) ∧ Value.iface (nat_lit 1000003) (Value.tuple (Array.mk [Value.int IntKind.i64 (9 : Int), Value.int IntKind.i64 (1 : Int), Value.int IntKind.i64 (0 : Int), Value.agg (Array.mk [])])) = Value.iface (nat_lit 1000003) (Value.tuple (Array.mk [Value.int IntKind.i64 (9 : Int), Value.int IntKind.i64 (1 : Int), Value.int IntKind.i64 (0 : Int), Value.agg (Array.mk [])]))) ∧ Heap.mk (nat_lit 10) (Trie.node none (Trie.node none Trie.leaf (Trie.node none (Trie.node (some (Blk.own (nat_lit 0) (nat_lit 3))) Trie.leaf Trie.leaf) Trie.leaf)) (Trie.node none (Trie.node none (Trie.node (some (Blk.cells (catsL c) (nat_lit 23) Mode.fix)) Trie.leaf Trie.leaf) Trie.leaf) Trie.leaf)) = Heap.mk (nat_lit 10) (Trie.node none (Trie.node none Trie.leaf (Trie.node none (Trie.node (some (Blk.own (nat_lit 0) (nat_lit 3))) Trie.leaf Trie.leaf) Trie.leaf)) (Trie.node none (Trie.node none (Trie.node (some (Blk.cells (catsL c) (nat_lit 23) Mode.fix)) Trie.leaf Trie.leaf) Trie.leaf) Trie.leaf))) ∧ ∀ (i9 s9 : Nat) (j9 : Nat → Value), i9 + s9 = (240 : Nat) → (decide ((↑s9 : Int) < (240 : Int)) = true → CallK Tryd.prog (nat_lit 21) [Value.agg (Array.mk (catsL c)), Value.int IntKind.i64 (↑s9 : Int)] (Value.bool (hasC c (↑s9 : Int))) ∧ (hasC c (↑s9 : Int) = true → (List.length (Array.toList (Array.mk (izL (listN c s9)))) = List.length (listN c s9) ∧ ((↑(List.length (listN c s9)) : Int) + (↑(nat_lit 1) : Int)) * ((↑(TypeInfo.bytes (Tables.types (Program.toTables Tryd.prog))[(3 : Nat)]) : Int) + (1 : Int)) ≤ (1099511627776 : Int)) ∧ ∃ (i9' : Nat), ∃ (s9' : Nat), i9' < i9 ∧ i9' + s9' = (240 : Nat) ∧ (Value.int IntKind.i64 (IntKind.wrap IntKind.i64 ((↑s9 : Int) + (1 : Int))) = Value.int IntKind.i64 (↑s9' : Int) ∧ Value.iface (nat_lit 1000003) (Value.tuple (Array.mk [Value.int IntKind.i64 (9 : Int), Value.int IntKind.i64 (1 : Int), Value.int IntKind.i64 ((↑(List.length (listN c s9)) : Int) + (↑(nat_lit 1) : Int)), Value.agg (Array.mk (Array.toList (Array.mk (izL (listN c s9))) ++ List.take (nat_lit 1 * Int.toNat (1 : Int)) (List.drop (nat_lit 0) [Value.int IntKind.i64 (↑s9 : Int)])))])) = Value.iface (nat_lit 1000003) (Value.tuple (Array.mk [Value.int IntKind.i64 (9 : Int), Value.int IntKind.i64 (1 : Int), Value.int IntKind.i64 (↑(List.length (listN c s9')) : Int), Value.agg (Array.mk (izL (listN c s9')))]))) ∧ (some (Blk.own (List.length (listN c s9) + List.length (List.take (nat_lit 1 * Int.toNat (1 : Int)) (List.drop (nat_lit 0) [Value.int IntKind.i64 (↑s9 : Int)]))) (nat_lit 3)) = some (Blk.own (List.length (listN c s9')) (nat_lit 3)) ∧ some (Blk.cells (catsL c) (nat_lit 23) Mode.fix) = some (Blk.cells (catsL c) (nat_lit 23) Mode.fix) ∧ True) ∧ true = true ∧ true = true ∧ True) ∧ (hasC c (↑s9 : Int) = false → ∃ (i9' : Nat), ∃ (s9' : Nat), i9' < i9 ∧ i9' + s9' = (240 : Nat) ∧ (Value.int IntKind.i64 (IntKind.wrap IntKind.i64 ((↑s9 : Int) + (1 : Int))) = Value.int IntKind.i64 (↑s9' : Int) ∧ Value.iface (nat_lit 1000003) (Value.tuple (Array.mk [Value.int IntKind.i64 (9 : Int), Value.int IntKind.i64 (1 : Int), Value.int IntKind.i64 (↑(List.length (listN c s9)) : Int), Value.agg (Array.mk (izL (listN c s9)))])) = Value.iface (nat_lit 1000003) (Value.tuple (Array.mk [Value.int IntKind.i64 (9 : Int), Value.int IntKind.i64 (1 : Int), Value.int IntKind.i64 (↑(List.length (listN c s9')) : Int), Value.agg (Array.mk (izL (listN c s9')))]))) ∧ (some (Blk.own (List.length (listN c s9)) (nat_lit 3)) = some (Blk.own (List.length (listN c s9')) (nat_lit 3)) ∧ some (Blk.cells (catsL c) (nat_lit 23) Mode.fix) = some (Blk.cells (catsL c) (nat_lit 23) Mode.fix) ∧ True) ∧ true = true ∧ true = true ∧ True)) ∧ (decide ((↑s9 : Int) < (240 : Int)) = false → Ideal.Coe (Value.iface (nat_lit 1000003) (Value.tuple (Array.mk [Value.int IntKind.i64 (9 : Int), Value.int IntKind.i64 (1 : Int), Value.int IntKind.i64 (↑(List.length (listN c s9)) : Int), Value.agg (Array.mk (izL (listN c s9)))]))) (izV (listC c)))) (by kernel_rfl) (by
    refine ⟨Weak.own' 3 1 3 (by rfl) (by rfl) (by rfl), ⟨by omega, ⟨rfl, rfl⟩, rfl⟩, fun i k j q1 => ⟨fun h1 => ?_, fun h1 => ?_⟩⟩
    · have hk : k < 240 := by have := of_decide_eq_true h1; omega
      refine ⟨has_w _ _, fun h2 => ⟨⟨izL_length _, ?_⟩, i - 1, k + 1, by omega, by omega, ⟨wrap_next k (by omega), (isl_yes h2).1⟩, ⟨(isl_yes (tok := 9) h2).2, rfl, trivial⟩, rfl, rfl, trivial⟩, fun h2 => ⟨i - 1, k + 1, by omega, by omega, ⟨wrap_next k (by omega), by rw [isl_no h2]⟩, ⟨by rw [isl_no h2], rfl, trivial⟩, rfl, rfl, trivial⟩⟩
      exact mul_room 1001 1000 (show ((listN c k).length : Int) + 1 ≤ 1001 by have := listN_length c k; omega) (by have := i64_bytes; omega) (by have := i64_bytes; omega) (by decide) (by decide)
    · have hk : k = 240 := by have := of_decide_eq_false h1; omega
      subst hk
      exact Coe.os 9 1 _ _)
end Go.Proofs.YtidlganponfccaaDoor

end
section
/- What the functions of sets answer: how many, the greatest, of some; two of them in all, in common; the document's. -/
set_option linter.unusedVariables false
set_option linter.unusedSimpArgs false
set_option maxRecDepth 100000
namespace Go.Proofs.YtidlganponfccaaDoor
open Go Go.Ideal
set_option maxRecDepth 100000
noncomputable def onesOK (x : Nat) : Bool := match (callF Tryd.prog (execF Tryd.prog 20) 56 [Value.int .u8 (x : Nat)] (Heap.empty Tryd.prog.globals.size)).map (·.1) with
  | some (Value.int .i64 n) => decide (n = ((popN x : Nat) : Int))
  | _ => false
theorem ones_all : (List.range 256).all onesOK = true := by kernel_rfl
theorem ones_w (x : Int) (h0 : 0 ≤ x) (h1 : x < 256) : CallK Tryd.prog 56 [.int .u8 x] (.int .i64 (popN x.toNat : Nat)) := by
  obtain ⟨n, rfl⟩ := Int.eq_ofNat_of_zero_le h0
  refine CallK.runF progOK 20 rfl rfl rfl ?_
  have := List.all_eq_true.1 ones_all n (List.mem_range.2 (by omega))
  unfold onesOK at this
  split at this
  · rename_i v hv
    rw [hv, of_decide_eq_true this]
    rfl
  · cases this
theorem cats_partv (c : List Int) (i : Nat) (h : i < 30) : (Ask.partv 5 (catsL c) (i * 1) (.int .u8 (c.getD i 0))).holds Tryd.prog := by
  have e1 : isAggI Tryd.prog 5 = some false := by kernel_rfl
  have e2 : sizeI Tryd.prog 5 = some 1 := by kernel_rfl
  show partI Tryd.prog 5 (catsL c) (i * 1) = _
  unfold partI
  rw [e1, e2, Nat.mul_one, catsL_map]
  simp [h]
theorem part_all (d : List Int) : (Ask.part (catsL d) 0 30 (catsL d)).holds Tryd.prog := ⟨Nat.le_refl 30, rfl⟩
theorem add1_no {c : List Int} {k : Int} (h : rightI k = false) : add1 c k = c := by unfold add1; rw [h]
theorem sub1_no {c : List Int} {k : Int} (h : rightI k = false) : sub1 c k = c := by unfold sub1; rw [h]
theorem add1_has {c : List Int} {k : Int} (hc : CatsOK c) (h : hasC c k = true) : add1 c k = c := cats_ext (add1_ok hc k) hc fun j j0 j1 => by
  rw [has_add1 hc k j0 j1]
  by_cases e : j = k
  · subst e; rw [h]; rfl
  · rw [show (j == k) = false from beq_eq_false_iff_ne.2 e, Bool.or_false]
theorem sub1_has {c : List Int} {k : Int} (hc : CatsOK c) (h : hasC c k = false) : sub1 c k = c := cats_ext (sub1_ok hc k) hc fun j j0 j1 => by
  rw [has_sub1 hc k j0 j1]
  by_cases e : j = k
  · subst e; rw [h]; rfl
  · rw [show (j == k) = false from beq_eq_false_iff_ne.2 e, Bool.not_false, Bool.and_true]
theorem put_add : ∀ (X : Fin 256) (m : Fin 8), X.val.testBit m.val = false → IntKind.wrap .u8 ((X.val : Int) + IntKind.wrap .u8 (1 * 2 ^ m.val)) = orC X.val ((2 ^ m.val : Nat) : Int) := by decide +kernel
theorem put_sub : ∀ (X : Fin 256) (m : Fin 8), X.val.testBit m.val = true → IntKind.wrap .u8 ((X.val : Int) - IntKind.wrap .u8 (1 * 2 ^ m.val)) = offI X.val ((2 ^ m.val : Nat) : Int) := by decide +kernel
theorem count_w (c : List Int) (hc : CatsOK c) : CallK Tryd.prog 24 [catsV c] (.int .i64 (countC c : Nat)) := CallK.via progOK (pfs []) [] 100 (Adv.loop (9 : Nat) (fun (k : Nat) => [((7 : Nat), Value.int IntKind.i64 (↑k : Int)), ((3 : Nat), Value.int IntKind.i64 (↑(cntN c k) : Int))]) ((fun (h : Heap) (x : Nat) => h) (Heap.mk (nat_lit 9) (Trie.node none Trie.leaf (Trie.node none (Trie.node none (Trie.node (some (Blk.cells (catsL c) (nat_lit 23) Mode.fix)) Trie.leaf Trie.leaf) Trie.leaf) Trie.leaf)))) (fun (i k : Nat) => i + k = (30 : Nat)) (30 : Nat) (0 : Nat) fun (i9 s9 : Nat) (j9 : Nat → Value) => Adv.split (11 : Nat) (Adv.chk (16 : Nat) (some (Value.int IntKind.u8 (List.getD c s9 (0 : Int)))) (Adv.pur (20 : Nat) (Value.int IntKind.i64 (↑(popN (Int.toNat (List.getD c s9 (0 : Int)))) : Int)) Adv.nil)) Adv.nil) (by kernel_rfl) (by kernel_rfl) (p := ((30 : Nat) + (0 : Nat) = (30 : Nat) ∧ (Value.int IntKind.i64 (0 : Int) = Value.int IntKind.i64 (0 : Int) ∧ Value.int IntKind.i64 (0 : Int) = Value.int IntKind.i64 (0 : Int)) ∧ Heap.mk (nat_lit 9) (Trie.node none Trie.leaf (Trie.node none (Trie.node none (Trie.node (some (Blk.cells (catsL c) (nat_lit 23) Mode.fix)) Trie.leaf Trie.leaf) Trie.leaf) Trie.leaf)) = Heap.mk (nat_lit 9) (Trie.node none Trie.leaf (Trie.node none (Trie.node none (Trie.node (some (Blk.cells (catsL c) (nat_lit 23) Mode.fix)) Trie.leaf Trie.leaf) Trie.leaf) Trie.leaf))) ∧ ∀ (i9 s9 : Nat) (j9 : Nat → Value), i9 + s9 = (30 : Nat) → (decide ((↑s9 : Int) < (30 : Int)) = true → ((0 : Int) ≤ (↑s9 : Int) ∧ (↑s9 : Int) < (30 : Int) ∧ Ask.holds Tryd.prog (Ask.partv (nat_lit 5) (catsL c) (Int.toNat (↑s9 : Int) * nat_lit 1) (Value.int IntKind.u8 (List.getD c s9 (0 : Int))))) ∧ CallK Tryd.prog (nat_lit 56) [Value.int IntKind.u8 (List.getD c s9 (0 : Int))] (Value.int IntKind.i64 (↑(popN (Int.toNat (List.getD c s9 (0 : Int)))) : Int)) ∧ ∃ (i9' : Nat), ∃ (s9' : Nat), i9' < i9 ∧ i9' + s9' = (30 : Nat) ∧ (Value.int IntKind.i64 (IntKind.wrap IntKind.i64 ((↑s9 : Int) + (1 : Int))) = Value.int IntKind.i64 (↑s9' : Int) ∧ Value.int IntKind.i64 (IntKind.wrap IntKind.i64 ((↑(cntN c s9) : Int) + (↑(popN (Int.toNat (List.getD c s9 (0 : Int)))) : Int))) = Value.int IntKind.i64 (↑(cntN c s9') : Int)) ∧ (some (Blk.cells (catsL c) (nat_lit 23) Mode.fix) = some (Blk.cells (catsL c) (nat_lit 23) Mode.fix) ∧ True) ∧ true = true ∧ true = true ∧ True) ∧ (decide ((↑s9 : Int) < (30 : Int)) = false → Value.int IntKind.i64 (↑(cntN c s9) : Int) = Value.int IntKind.i64 (↑(countC c) : Int))) (by kernel_rfl) (by
    refine ⟨⟨by omega, ⟨rfl, rfl⟩, rfl⟩, fun i k j q1 => ⟨fun h1 => ?_, fun h1 => ?_⟩⟩
    · have hk : k < 30 := by have := of_decide_eq_true h1; omega
      obtain ⟨X, e, hX⟩ := hc.get k
      have hp := popN_le (c.getD k 0).toNat
      have hn := cntN_le c k
      refine ⟨⟨by omega, by omega, cats_partv c k hk⟩, ones_w _ (by omega) (by omega), i - 1, k + 1, by omega, by omega, ⟨wrap_next k (by omega), ?_⟩, ⟨rfl, trivial⟩, rfl, rfl, trivial⟩
      rw [wrap_in (by omega) (by omega)]
      rfl
    · have hk : k = 30 := by have := of_decide_eq_false h1; omega
      subst hk
      rfl)
def mostN (c : List Int) : Nat → Int
  | 0 => -1
  | n + 1 => if hasC c n = true then n else mostN c n
theorem most_w (c : List Int) (hc : CatsOK c) : CallK Tryd.prog 25 [catsV c] (.int .i64 (mostN c 240)) := CallK.via progOK (pfs []) [] 100 (Adv.loop (6 : Nat) (fun (n : Nat) => [((3 : Nat), Value.int IntKind.i64 ((↑n : Int) - (1 : Int)))]) ((fun (h : Heap) (x : Nat) => h) (Heap.mk (nat_lit 9) (Trie.node none Trie.leaf (Trie.node none (Trie.node none (Trie.node (some (Blk.cells (catsL c) (nat_lit 23) Mode.fix)) Trie.leaf Trie.leaf) Trie.leaf) Trie.leaf)))) (fun (i n : Nat) => i = n ∧ n ≤ (240 : Nat) ∧ mostN c n = mostN c (240 : Nat)) (240 : Nat) (240 : Nat) fun (i6 s6 : Nat) (j6 : Nat → Value) => Adv.split (10 : Nat) (Adv.purs (16 : Nat) (hasC c ((↑s6 : Int) - (1 : Int))) Adv.nil Adv.nil) Adv.nil) (by kernel_rfl) (by kernel_rfl) (p := (((240 : Nat) = (240 : Nat) ∧ (240 : Nat) ≤ (240 : Nat) ∧ mostN c (240 : Nat) = mostN c (240 : Nat)) ∧ Value.int IntKind.i64 (239 : Int) = Value.int IntKind.i64 (239 : Int) ∧ Heap.mk (nat_lit 9) (Trie.node none Trie.leaf (Trie.node none (Trie.node none (Trie.node (some (Blk.cells (catsL c) (nat_lit 23) Mode.fix)) Trie.leaf Trie.leaf) Trie.leaf) Trie.leaf)) = Heap.mk (nat_lit 9) (Trie.node none Trie.leaf (Trie.node none (Trie.node none (Trie.node (some (Blk.cells (catsL c) (nat_lit 23) Mode.fix)) Trie.leaf Trie.leaf) Trie.leaf) Trie.leaf))) ∧ ∀ (i6 s6 : Nat) (j6 : Nat → Value), i6 = s6 ∧ s6 ≤ (240 : Nat) ∧ mostN c s6 = mostN c (240 : Nat) → (decide ((↑s6 : Int) - (1 : Int) ≥ (0 : Int)) = true → CallK Tryd.prog (nat_lit 20) [Value.agg (Array.mk (catsL c)), Value.int IntKind.i64 ((↑s6 : Int) - (1 : Int))] (Value.bool (hasC c ((↑s6 : Int) - (1 : Int)))) ∧ (hasC c ((↑s6 : Int) - (1 : Int)) = true → Value.int IntKind.i64 ((↑s6 : Int) - (1 : Int)) = Value.int IntKind.i64 (mostN c (240 : Nat))) ∧ (hasC c ((↑s6 : Int) - (1 : Int)) = false → ∃ (i6' : Nat), ∃ (s6' : Nat), i6' < i6 ∧ (i6' = s6' ∧ s6' ≤ (240 : Nat) ∧ mostN c s6' = mostN c (240 : Nat)) ∧ Value.int IntKind.i64 (IntKind.wrap IntKind.i64 ((↑s6 : Int) - (1 : Int) - (1 : Int))) = Value.int IntKind.i64 ((↑s6' : Int) - (1 : Int)) ∧ (some (Blk.cells (catsL c) (nat_lit 23) Mode.fix) = some (Blk.cells (catsL c) (nat_lit 23) Mode.fix) ∧ True) ∧ true = true ∧ true = true ∧ True)) ∧ (decide ((↑s6 : Int) - (1 : Int) ≥ (0 : Int)) = false → Value.int IntKind.i64 (-1 : Int) = Value.int IntKind.i64 (mostN c (240 : Nat)))) (by kernel_rfl) (by
    refine ⟨⟨⟨rfl, Nat.le_refl _, rfl⟩, rfl, rfl⟩, fun i s j ⟨q1, q2, q3⟩ => ⟨fun h1 => ?_, fun h1 => ?_⟩⟩
    · have := of_decide_eq_true h1
      obtain ⟨m, rfl⟩ : ∃ m, s = m + 1 := ⟨s - 1, by omega⟩
      have e : (((m + 1 : Nat) : Int) - 1) = (m : Int) := by omega
      rw [e]
      refine ⟨hasp_w _ _ hc, fun h2 => ?_, fun h2 => ⟨i - 1, m, by omega, ⟨by omega, by omega, ?_⟩, congrArg _ (wrap_in (by omega) (by omega)), ⟨rfl, trivial⟩, rfl, rfl, trivial⟩⟩
      · rw [← q3, mostN, if_pos h2]
      · rw [← q3, mostN, if_neg (by rw [h2]; decide)]
    · have := of_decide_eq_false h1
      obtain rfl : s = 0 := by omega
      rw [← q3]
      rfl)
def zeroC : List Int := List.replicate 30 0
def zeroV : Value := .agg (catsL zeroC).toArray
theorem with0_w (l : List Int) (hl : l.length ≤ 1000) : CallK Tryd.prog 18 [.agg (Array.mk [.int .u8 0, .int .u8 0, .int .u8 0, .int .u8 0, .int .u8 0, .int .u8 0, .int .u8 0, .int .u8 0, .int .u8 0, .int .u8 0, .int .u8 0, .int .u8 0, .int .u8 0, .int .u8 0, .int .u8 0, .int .u8 0, .int .u8 0, .int .u8 0, .int .u8 0, .int .u8 0, .int .u8 0, .int .u8 0, .int .u8 0, .int .u8 0, .int .u8 0, .int .u8 0, .int .u8 0, .int .u8 0, .int .u8 0, .int .u8 0]), izV l] (catsV (withC zeroC l)) := with_w zeroC l hl
def ofC (l : List Int) : List Int := if l.all rightI = true then withC zeroC l else zeroC
theorem of_w (l : List Int) (hl : l.length ≤ 1000) : CallK Tryd.prog 16 [izV l] (.tuple (Array.mk [catsV (ofC l), .bool (l.all rightI)])) := CallK.via progOK (pfs [54, 18]) [] 100 (Adv.loop (8 : Nat) (fun (k : Nat) => [((8 : Nat), Value.int IntKind.i64 (↑k : Int))]) ((fun (h : Heap) (x : Nat) => h) (Heap.mk (nat_lit 9) (Trie.node none Trie.leaf (Trie.node none (Trie.node none (Trie.node (some (Blk.cells [Value.int IntKind.u8 (0 : Int), Value.int IntKind.u8 (0 : Int), Value.int IntKind.u8 (0 : Int), Value.int IntKind.u8 (0 : Int), Value.int IntKind.u8 (0 : Int), Value.int IntKind.u8 (0 : Int), Value.int IntKind.u8 (0 : Int), Value.int IntKind.u8 (0 : Int), Value.int IntKind.u8 (0 : Int), Value.int IntKind.u8 (0 : Int), Value.int IntKind.u8 (0 : Int), Value.int IntKind.u8 (0 : Int), Value.int IntKind.u8 (0 : Int), Value.int IntKind.u8 (0 : Int), Value.int IntKind.u8 (0 : Int), Value.int IntKind.u8 (0 : Int), Value.int IntKind.u8 (0 : Int), Value.int IntKind.u8 (0 : Int), Value.int IntKind.u8 (0 : Int), Value.int IntKind.u8 (0 : Int), Value.int IntKind.u8 (0 : Int), Value.int IntKind.u8 (0 : Int), Value.int IntKind.u8 (0 : Int), Value.int IntKind.u8 (0 : Int), Value.int IntKind.u8 (0 : Int), Value.int IntKind.u8 (0 : Int), Value.int IntKind.u8 (0 : Int), Value.int IntKind.u8 (0 : Int), Value.int IntKind.u8 (0 : Int), Value.int IntKind.u8 (0 : Int)] (nat_lit 23) Mode.fix)) Trie.leaf Trie.leaf) Trie.leaf) Trie.leaf)))) (fun (i k : Nat) => i + k = List.length l ∧ ∀ (j : Nat), j < k → rightI (List.getD l j (0 : Int)) = true) (List.length l) (0 : Nat) fun (i8 s8 : Nat) (j8 : Nat → Value) => Adv.split (10 : Nat) (Adv.chk (15 : Nat) none (Adv.chk (16 : Nat) (some (Value.int IntKind.i64 (List.getD l s8 (0 : Int)))) (Adv.purs (20 : Nat) (rightI (List.getD l s8 (0 : Int))) Adv.nil Adv.nil))) (Adv.pur (16 : Nat) (Value.agg (Array.mk (catsL (withC zeroC l)))) Adv.nil)) (by kernel_rfl) (by kernel_rfl) (p := ((List.length l + (0 : Nat) = List.length l ∧ ∀ (j : Nat), j < (0 : Nat) → rightI (List.getD l j (0 : Int)) = true) ∧ Value.int IntKind.i64 (0 : Int) = Value.int IntKind.i64 (0 : Int) ∧ Heap.mk (nat_lit 9) (Trie.node none Trie.leaf (Trie.node none (Trie.node none (Trie.node (some (Blk.cells [Value.int IntKind.u8 (0 : Int), Value.int IntKind.u8 (0 : Int), Value.int IntKind.u8 (0 : Int), Value.int IntKind.u8 (0 : Int), Value.int IntKind.u8 (0 : Int), Value.int IntKind.u8 (0 : Int), Value.int IntKind.u8 (0 : Int), Value.int IntKind.u8 (0 : Int), Value.int IntKind.u8 (0 : Int), Value.int IntKind.u8 (0 : Int), Value.int IntKind.u8 (0 : Int), Value.int IntKind.u8 (0 : Int), Value.int IntKind.u8 (0 : Int), Value.int IntKind.u8 (0 : Int), Value.int IntKind.u8 (0 : Int), Value.int IntKind.u8 (0 : Int), Value.int IntKind.u8 (0 : Int), Value.int IntKind.u8 (0 : Int), Value.int IntKind.u8 (0 : Int), Value.int IntKind.u8 (0 : Int), Value.int IntKind.u8 (0 : Int), Value.int IntKind.u8 (0 : Int), Value.int IntKind.u8 (0 : Int), Value.int IntKind.u8 (0 : Int), Value.int IntKind.u8 (0 : Int), Value.int IntKind.u8 (0 : Int), Value.int IntKind.u8 (0 : Int), Value.int IntKind.u8 (0 : Int), Value.int IntKind.u8 (0 : Int), Value.int IntKind.u8 (0 : Int)] (nat_lit 23) Mode.fix)) Trie.leaf Trie.leaf) Trie.leaf) Trie.leaf)) = Heap.mk (nat_lit 9) (Trie.node none Trie.leaf (Trie.node none (Trie.node none (Trie.node (some (Blk.cells [Value.int IntKind.u8 (0 : Int), Value.int IntKind.u8 (0 : Int), Value.int IntKind.u8 (0 : Int), Value.int IntKind.u8 (0 : Int), Value.int IntKind.u8 (0 : Int), Value.int IntKind.u8 (0 : Int), Value.int IntKind.u8 (0 : Int), Value.int IntKind.u8 (0 : Int), Value.int IntKind.u8 (0 : Int), Value.int IntKind.u8 (0 : Int), Value.int IntKind.u8 (0 : Int), Value.int IntKind.u8 (0 : Int), Value.int IntKind.u8 (0 : Int), Value.int IntKind.u8 (0 : Int), Value.int IntKind.u8 (0 : Int), Value.int IntKind.u8 (0 : Int), Value.int IntKind.u8 (0 : Int), Value.int IntKind.u8 (0 : Int), Value.int IntKind.u8 (0 : Int), Value.int IntKind.u8 (0 : Int), Value.int IntKind.u8 (0 : Int), Value.int IntKind.u8 (0 : Int), Value.int IntKind.u8 (0 : Int), Value.int IntKind.u8 (0 : Int), Value.int IntKind.u8 (0 : Int), Value.int IntKind.u8 (0 : Int), Value.int IntKind.u8 (0 : Int), Value.int IntKind.u8 (0 : Int), Value.int IntKind.u8 (0 : Int), Value.int IntKind.u8 (0 : Int)] (nat_lit 23) Mode.fix)) Trie.leaf Trie.leaf) Trie.leaf) Trie.leaf))) ∧ ∀ (i8 s8 : Nat) (j8 : Nat → Value), (i8 + s8 = List.length l ∧ ∀ (j : Nat), j < s8 → rightI (List.getD l j (0 : Int)) = true) → (decide ((↑s8 : Int) < (↑(List.length l) : Int)) = true → ((0 : Int) ≤ (↑s8 : Int) ∧ (↑s8 : Int) < (↑(List.length l) : Int)) ∧ Ask.holds Tryd.prog (Ask.part (Array.toList (Array.mk (izL l))) (Int.toNat (↑(Int.toNat (↑s8 : Int) * nat_lit 1) : Int)) (nat_lit 1) [Value.int IntKind.i64 (List.getD l s8 (0 : Int))]) ∧ CallK Tryd.prog (nat_lit 54) [Value.int IntKind.i64 (List.getD l s8 (0 : Int))] (Value.bool (rightI (List.getD l s8 (0 : Int)))) ∧ (rightI (List.getD l s8 (0 : Int)) = true → ∃ (i8' : Nat), ∃ (s8' : Nat), i8' < i8 ∧ (i8' + s8' = List.length l ∧ ∀ (j : Nat), j < s8' → rightI (List.getD l j (0 : Int)) = true) ∧ Value.int IntKind.i64 (IntKind.wrap IntKind.i64 ((↑s8 : Int) + (1 : Int))) = Value.int IntKind.i64 (↑s8' : Int) ∧ (some (Blk.cells [Value.int IntKind.u8 (0 : Int), Value.int IntKind.u8 (0 : Int), Value.int IntKind.u8 (0 : Int), Value.int IntKind.u8 (0 : Int), Value.int IntKind.u8 (0 : Int), Value.int IntKind.u8 (0 : Int), Value.int IntKind.u8 (0 : Int), Value.int IntKind.u8 (0 : Int), Value.int IntKind.u8 (0 : Int), Value.int IntKind.u8 (0 : Int), Value.int IntKind.u8 (0 : Int), Value.int IntKind.u8 (0 : Int), Value.int IntKind.u8 (0 : Int), Value.int IntKind.u8 (0 : Int), Value.int IntKind.u8 (0 : Int), Value.int IntKind.u8 (0 : Int), Value.int IntKind.u8 (0 : Int), Value.int IntKind.u8 (0 : Int), Value.int IntKind.u8 (0 : Int), Value.int IntKind.u8 (0 : Int), Value.int IntKind.u8 (0 : Int), Value.int IntKind.u8 (0 : Int), Value.int IntKind.u8 (0 : Int), Value.int IntKind.u8 (0 : Int), Value.int IntKind.u8 (0 : Int), Value.int IntKind.u8 (0 : Int), Value.int IntKind.u8 (0 : Int), Value.int IntKind.u8 (0 : Int), Value.int IntKind.u8 (0 : Int), Value.int IntKind.u8 (0 : Int)] (nat_lit 23) Mode.fix) = some (Blk.cells [Value.int IntKind.u8 (0 : Int), Value.int IntKind.u8 (0 : Int), Value.int IntKind.u8 (0 : Int), Value.int IntKind.u8 (0 : Int), Value.int IntKind.u8 (0 : Int), Value.int IntKind.u8 (0 : Int), Value.int IntKind.u8 (0 : Int), Value.int IntKind.u8 (0 : Int), Value.int IntKind.u8 (0 : Int), Value.int IntKind.u8 (0 : Int), Value.int IntKind.u8 (0 : Int), Value.int IntKind.u8 (0 : Int), Value.int IntKind.u8 (0 : Int), Value.int IntKind.u8 (0 : Int), Value.int IntKind.u8 (0 : Int), Value.int IntKind.u8 (0 : Int), Value.int IntKind.u8 (0 : Int), Value.int IntKind.u8 (0 : Int), Value.int IntKind.u8 (0 : Int), Value.int IntKind.u8 (0 : Int), Value.int IntKind.u8 (0 : Int), Value.int IntKind.u8 (0 : Int), Value.int IntKind.u8 (0 : Int), Value.int IntKind.u8 (0 : Int), Value.int IntKind.u8 (0 : Int), Value.int IntKind.u8 (0 : Int), Value.int IntKind.u8 (0 : Int), Value.int IntKind.u8 (0 : Int), Value.int IntKind.u8 (0 : Int), Value.int IntKind.u8 (0 : Int)] (nat_lit 23) Mode.fix) ∧ True) ∧ true = true ∧ true = true ∧ True) ∧ (rightI (List.getD l s8 (0 : Int)) = false → Value.tuple (Array.mk [Value.agg (Array.mk [Value.int IntKind.u8 (0 : Int), Value.int IntKind.u8 (0 : Int), Value.int IntKind.u8 (0 : Int), Value.int IntKind.u8 (0 : Int), Value.int IntKind.u8 (0 : Int), Value.int IntKind.u8 (0 : Int), Value.int IntKind.u8 (0 : Int), Value.int IntKind.u8 (0 : Int), Value.int IntKind.u8 (0 : Int), Value.int IntKind.u8 (0 : Int), Value.int IntKind.u8 (0 : Int), Value.int IntKind.u8 (0 : Int), Value.int IntKind.u8 (0 : Int), Value.int IntKind.u8 (0 : Int), Value.int IntKind.u8 (0 : Int), Value.int IntKind.u8 (0 : Int), Value.int IntKind.u8 (0 : Int), Value.int IntKind.u8 (0 : Int), Value.int IntKind.u8 (0 : Int), Value.int IntKind.u8 (0 : Int), Value.int IntKind.u8 (0 : Int), Value.int IntKind.u8 (0 : Int), Value.int IntKind.u8 (0 : Int), Value.int IntKind.u8 (0 : Int), Value.int IntKind.u8 (0 : Int), Value.int IntKind.u8 (0 : Int), Value.int IntKind.u8 (0 : Int), Value.int IntKind.u8 (0 : Int), Value.int IntKind.u8 (0 : Int), Value.int IntKind.u8 (0 : Int)]), Value.bool false]) = Value.tuple (Array.mk [catsV (ofC l), Value.bool (List.all l rightI)]))) ∧ (decide ((↑s8 : Int) < (↑(List.length l) : Int)) = false → CallK Tryd.prog (nat_lit 18) [Value.agg (Array.mk [Value.int IntKind.u8 (0 : Int), Value.int IntKind.u8 (0 : Int), Value.int IntKind.u8 (0 : Int), Value.int IntKind.u8 (0 : Int), Value.int IntKind.u8 (0 : Int), Value.int IntKind.u8 (0 : Int), Value.int IntKind.u8 (0 : Int), Value.int IntKind.u8 (0 : Int), Value.int IntKind.u8 (0 : Int), Value.int IntKind.u8 (0 : Int), Value.int IntKind.u8 (0 : Int), Value.int IntKind.u8 (0 : Int), Value.int IntKind.u8 (0 : Int), Value.int IntKind.u8 (0 : Int), Value.int IntKind.u8 (0 : Int), Value.int IntKind.u8 (0 : Int), Value.int IntKind.u8 (0 : Int), Value.int IntKind.u8 (0 : Int), Value.int IntKind.u8 (0 : Int), Value.int IntKind.u8 (0 : Int), Value.int IntKind.u8 (0 : Int), Value.int IntKind.u8 (0 : Int), Value.int IntKind.u8 (0 : Int), Value.int IntKind.u8 (0 : Int), Value.int IntKind.u8 (0 : Int), Value.int IntKind.u8 (0 : Int), Value.int IntKind.u8 (0 : Int), Value.int IntKind.u8 (0 : Int), Value.int IntKind.u8 (0 : Int), Value.int IntKind.u8 (0 : Int)]), Value.iface (nat_lit 1000000) (Value.tuple (Array.mk [Value.int IntKind.i64 (↑(List.length l) : Int), Value.agg (Array.mk (izL l))]))] (Value.agg (Array.mk (catsL (withC zeroC l)))) ∧ Value.tuple (Array.mk [Value.agg (Array.mk (catsL (withC zeroC l))), Value.bool true]) = Value.tuple (Array.mk [catsV (ofC l), Value.bool (List.all l rightI)]))) (by kernel_rfl) (by
    refine ⟨⟨⟨by omega, fun j hj => by omega⟩, rfl, rfl⟩, fun i k j ⟨q1, q2⟩ => ⟨fun h1 => ?_, fun h1 => ?_⟩⟩
    · have hk : k < l.length := by have := of_decide_eq_true h1; omega
      refine ⟨⟨by omega, by omega⟩, iz_part hk rfl, right54_w _, fun h2 => ⟨i - 1, k + 1, by omega, ⟨by omega, fun j hj => ?_⟩, wrap_next k (by omega), ⟨rfl, trivial⟩, rfl, rfl, trivial⟩, fun h2 => ?_⟩
      · rcases Nat.lt_or_ge j k with h | h
        · exact q2 j h
        · obtain rfl : j = k := by omega
          exact h2
      · have e : l.all rightI = false := List.all_eq_false.2 ⟨l.getD k 0, getD_mem hk, by rw [h2]; decide⟩
        unfold ofC
        rw [e]
        rfl
    · have hk : k = l.length := by have := of_decide_eq_false h1; omega
      have e : l.all rightI = true := List.all_eq_true.2 fun x hx => by
        obtain ⟨n, hn, rfl⟩ := List.getElem_of_mem hx
        have := q2 n (by omega)
        rwa [List.getD, List.getElem?_eq_getElem hn, Option.getD_some] at this
      refine ⟨with0_w l hl, ?_⟩
      unfold ofC
      rw [e]
      rfl)
theorem put1_w (c : List Int) (k : Int) (hc : CatsOK c) : CallK Tryd.prog 15 [catsV c, .int .i64 k, .bool true] (catsV (add1 c k)) := CallK.via progOK (pfs [21]) [] 100 (Adv.split (6 : Nat) Adv.nil (Adv.split (9 : Nat) Adv.nil (Adv.purs (14 : Nat) (hasC c k) Adv.nil (Adv.chk (27 : Nat) none (Adv.chk (28 : Nat) (some (Value.int IntKind.u8 (List.getD c (Int.toNat (IntKind.wrap IntKind.i64 (Int.tdiv k (8 : Int)))) (0 : Int)))) (Adv.chk (32 : Nat) none (Adv.chk (34 : Nat) none (Adv.chk (35 : Nat) none (Adv.chk (37 : Nat) (some (Value.agg (Array.mk (catsL (setC c (Int.toNat (IntKind.wrap IntKind.i64 (Int.tdiv k (8 : Int)))) (IntKind.wrap IntKind.u8 (List.getD c (Int.toNat (IntKind.wrap IntKind.i64 (Int.tdiv k (8 : Int)))) (0 : Int) + IntKind.wrap IntKind.u8 ((1 : Int) * (2 : Int) ^ min (Int.toNat (IntKind.wrap IntKind.i64 ((7 : Int) - Int.tmod k (8 : Int)))) (IntKind.bits IntKind.u8))))))))) Adv.nil))))))))) (by kernel_rfl) (by kernel_rfl) (p := (decide (k < (0 : Int)) = true → Value.agg (Array.mk (catsL c)) = catsV (add1 c k)) ∧ (decide (k < (0 : Int)) = false → (decide (k > (239 : Int)) = true → Value.agg (Array.mk (catsL c)) = catsV (add1 c k)) ∧ (decide (k > (239 : Int)) = false → CallK Tryd.prog (nat_lit 21) [Value.agg (Array.mk (catsL c)), Value.int IntKind.i64 k] (Value.bool (hasC c k)) ∧ (hasC c k = true → Value.agg (Array.mk (catsL c)) = catsV (add1 c k)) ∧ (hasC c k = false → ((0 : Int) ≤ IntKind.wrap IntKind.i64 (Int.tdiv k (8 : Int)) ∧ IntKind.wrap IntKind.i64 (Int.tdiv k (8 : Int)) < (30 : Int)) ∧ Ask.holds Tryd.prog (Ask.part (catsL c) (nat_lit 0 + Int.toNat (IntKind.wrap IntKind.i64 (Int.tdiv k (8 : Int))) * nat_lit 1) (nat_lit 1) [Value.int IntKind.u8 (List.getD c (Int.toNat (IntKind.wrap IntKind.i64 (Int.tdiv k (8 : Int)))) (0 : Int))]) ∧ (0 : Int) ≤ IntKind.wrap IntKind.i64 ((7 : Int) - Int.tmod k (8 : Int)) ∧ ((0 : Int) ≤ IntKind.wrap IntKind.i64 (Int.tdiv k (8 : Int)) ∧ IntKind.wrap IntKind.i64 (Int.tdiv k (8 : Int)) < (30 : Int)) ∧ nat_lit 0 + Int.toNat (IntKind.wrap IntKind.i64 (Int.tdiv k (8 : Int))) * nat_lit 1 + nat_lit 1 ≤ nat_lit 30 ∧ Ask.holds Tryd.prog (Ask.part (splice (catsL c) (nat_lit 0 + Int.toNat (IntKind.wrap IntKind.i64 (Int.tdiv k (8 : Int))) * nat_lit 1) (Value.cellList (Value.int IntKind.u8 (IntKind.wrap IntKind.u8 (List.getD c (Int.toNat (IntKind.wrap IntKind.i64 (Int.tdiv k (8 : Int)))) (0 : Int) + IntKind.wrap IntKind.u8 ((1 : Int) * (2 : Int) ^ min (Int.toNat (IntKind.wrap IntKind.i64 ((7 : Int) - Int.tmod k (8 : Int)))) (IntKind.bits IntKind.u8))))))) (nat_lit 0) (nat_lit 30) (catsL (setC c (Int.toNat (IntKind.wrap IntKind.i64 (Int.tdiv k (8 : Int)))) (IntKind.wrap IntKind.u8 (List.getD c (Int.toNat (IntKind.wrap IntKind.i64 (Int.tdiv k (8 : Int)))) (0 : Int) + IntKind.wrap IntKind.u8 ((1 : Int) * (2 : Int) ^ min (Int.toNat (IntKind.wrap IntKind.i64 ((7 : Int) - Int.tmod k (8 : Int)))) (IntKind.bits IntKind.u8))))))) ∧ Value.agg (Array.mk (catsL (setC c (Int.toNat (IntKind.wrap IntKind.i64 (Int.tdiv k (8 : Int)))) (IntKind.wrap IntKind.u8 (List.getD c (Int.toNat (IntKind.wrap IntKind.i64 (Int.tdiv k (8 : Int)))) (0 : Int) + IntKind.wrap IntKind.u8 ((1 : Int) * (2 : Int) ^ min (Int.toNat (IntKind.wrap IntKind.i64 ((7 : Int) - Int.tmod k (8 : Int)))) (IntKind.bits IntKind.u8))))))) = catsV (add1 c k))))) (by kernel_rfl) (by
    refine ⟨fun h1 => ?_, fun h1 => ⟨fun h2 => ?_, fun h2 => ⟨has_w c k, fun h3 => by rw [add1_has hc h3]; rfl, fun h3 => ?_⟩⟩⟩
    · have := of_decide_eq_true h1
      rw [add1_no (Bool.eq_false_iff.2 fun e => by have := rightI_iff.1 e; omega)]
      rfl
    · have := of_decide_eq_true h2
      rw [add1_no (Bool.eq_false_iff.2 fun e => by have := rightI_iff.1 e; omega)]
      rfl
    · have h1 := of_decide_eq_false h1
      have h2 := of_decide_eq_false h2
      have hr : rightI k = true := rightI_iff.2 ⟨by omega, by omega⟩
      obtain ⟨e1, e2, e3, e4⟩ := q8 hr
      obtain ⟨X, eX, hX, hb⟩ := hasC_bit hc (k := k) (by omega) (by omega)
      have e5 : IntKind.i64.wrap (7 - k.tmod 8) = 7 - k % 8 := by rw [Int.tmod_eq_emod_of_nonneg (by omega), wrap_in (by omega) (by omega)]
      have e6 : min (7 - k % 8).toNat IntKind.u8.bits = (7 - k % 8).toNat := Nat.min_eq_left (by show _ ≤ 8; omega)
      have key := put_add ⟨X, hX⟩ ⟨(7 - k % 8).toNat, by omega⟩ (by rw [← hb]; exact h3)
      simp only at key
      rw [e1, e5, e6, eX, key]
      refine ⟨⟨e2, e3⟩, by rw [← eX]; exact catsL_part c _ e4, by omega, ⟨e2, e3⟩, nle30 e4, ?_, ?_⟩
      · rw [splice_set _ e4]
        exact part_all _
      · unfold add1
        rw [hr, eX, catBitN (by omega)]
        rfl)
theorem put0_w (c : List Int) (k : Int) (hc : CatsOK c) : CallK Tryd.prog 15 [catsV c, .int .i64 k, .bool false] (catsV (sub1 c k)) := CallK.via progOK (pfs [21]) [] 100 (Adv.split (6 : Nat) Adv.nil (Adv.split (9 : Nat) Adv.nil (Adv.purs (14 : Nat) (hasC c k) (Adv.chk (27 : Nat) none (Adv.chk (28 : Nat) (some (Value.int IntKind.u8 (List.getD c (Int.toNat (IntKind.wrap IntKind.i64 (Int.tdiv k (8 : Int)))) (0 : Int)))) (Adv.chk (32 : Nat) none (Adv.chk (34 : Nat) none (Adv.chk (35 : Nat) none (Adv.chk (37 : Nat) (some (Value.agg (Array.mk (catsL (setC c (Int.toNat (IntKind.wrap IntKind.i64 (Int.tdiv k (8 : Int)))) (IntKind.wrap IntKind.u8 (List.getD c (Int.toNat (IntKind.wrap IntKind.i64 (Int.tdiv k (8 : Int)))) (0 : Int) - IntKind.wrap IntKind.u8 ((1 : Int) * (2 : Int) ^ min (Int.toNat (IntKind.wrap IntKind.i64 ((7 : Int) - Int.tmod k (8 : Int)))) (IntKind.bits IntKind.u8))))))))) Adv.nil)))))) Adv.nil))) (by kernel_rfl) (by kernel_rfl) (p := (decide (k < (0 : Int)) = true → Value.agg (Array.mk (catsL c)) = catsV (sub1 c k)) ∧ (decide (k < (0 : Int)) = false → (decide (k > (239 : Int)) = true → Value.agg (Array.mk (catsL c)) = catsV (sub1 c k)) ∧ (decide (k > (239 : Int)) = false → CallK Tryd.prog (nat_lit 21) [Value.agg (Array.mk (catsL c)), Value.int IntKind.i64 k] (Value.bool (hasC c k)) ∧ (hasC c k = true → ((0 : Int) ≤ IntKind.wrap IntKind.i64 (Int.tdiv k (8 : Int)) ∧ IntKind.wrap IntKind.i64 (Int.tdiv k (8 : Int)) < (30 : Int)) ∧ Ask.holds Tryd.prog (Ask.part (catsL c) (nat_lit 0 + Int.toNat (IntKind.wrap IntKind.i64 (Int.tdiv k (8 : Int))) * nat_lit 1) (nat_lit 1) [Value.int IntKind.u8 (List.getD c (Int.toNat (IntKind.wrap IntKind.i64 (Int.tdiv k (8 : Int)))) (0 : Int))]) ∧ (0 : Int) ≤ IntKind.wrap IntKind.i64 ((7 : Int) - Int.tmod k (8 : Int)) ∧ ((0 : Int) ≤ IntKind.wrap IntKind.i64 (Int.tdiv k (8 : Int)) ∧ IntKind.wrap IntKind.i64 (Int.tdiv k (8 : Int)) < (30 : Int)) ∧ nat_lit 0 + Int.toNat (IntKind.wrap IntKind.i64 (Int.tdiv k (8 : Int))) * nat_lit 1 + nat_lit 1 ≤ nat_lit 30 ∧ Ask.holds Tryd.prog (Ask.part (splice (catsL c) (nat_lit 0 + Int.toNat (IntKind.wrap IntKind.i64 (Int.tdiv k (8 : Int))) * nat_lit 1) (Value.cellList (Value.int IntKind.u8 (IntKind.wrap IntKind.u8 (List.getD c (Int.toNat (IntKind.wrap IntKind.i64 (Int.tdiv k (8 : Int)))) (0 : Int) - IntKind.wrap IntKind.u8 ((1 : Int) * (2 : Int) ^ min (Int.toNat (IntKind.wrap IntKind.i64 ((7 : Int) - Int.tmod k (8 : Int)))) (IntKind.bits IntKind.u8))))))) (nat_lit 0) (nat_lit 30) (catsL (setC c (Int.toNat (IntKind.wrap IntKind.i64 (Int.tdiv k (8 : Int)))) (IntKind.wrap IntKind.u8 (List.getD c (Int.toNat (IntKind.wrap IntKind.i64 (Int.tdiv k (8 : Int)))) (0 : Int) - IntKind.wrap IntKind.u8 ((1 : Int) * (2 : Int) ^ min (Int.toNat (IntKind.wrap IntKind.i64 ((7 : Int) - Int.tmod k (8 : Int)))) (IntKind.bits IntKind.u8))))))) ∧ Value.agg (Array.mk (catsL (setC c (Int.toNat (IntKind.wrap IntKind.i64 (Int.tdiv k (8 : Int)))) (IntKind.wrap IntKind.u8 (List.getD c (Int.toNat (IntKind.wrap IntKind.i64 (Int.tdiv k (8 : Int)))) (0 : Int) - IntKind.wrap IntKind.u8 ((1 : Int) * (2 : Int) ^ min (Int.toNat (IntKind.wrap IntKind.i64 ((7 : Int) - Int.tmod k (8 : Int)))) (IntKind.bits IntKind.u8))))))) = catsV (sub1 c k)) ∧ (hasC c k = false → Value.agg (Array.mk (catsL c)) = catsV (sub1 c k))))) (by kernel_rfl) (by
    refine ⟨fun h1 => ?_, fun h1 => ⟨fun h2 => ?_, fun h2 => ⟨has_w c k, fun h3 => ?_, fun h3 => by rw [sub1_has hc h3]; rfl⟩⟩⟩
    · have := of_decide_eq_true h1
      rw [sub1_no (Bool.eq_false_iff.2 fun e => by have := rightI_iff.1 e; omega)]
      rfl
    · have := of_decide_eq_true h2
      rw [sub1_no (Bool.eq_false_iff.2 fun e => by have := rightI_iff.1 e; omega)]
      rfl
    · have h1 := of_decide_eq_false h1
      have h2 := of_decide_eq_false h2
      have hr : rightI k = true := rightI_iff.2 ⟨by omega, by omega⟩
      obtain ⟨e1, e2, e3, e4⟩ := q8 hr
      obtain ⟨X, eX, hX, hb⟩ := hasC_bit hc (k := k) (by omega) (by omega)
      have e5 : IntKind.i64.wrap (7 - k.tmod 8) = 7 - k % 8 := by rw [Int.tmod_eq_emod_of_nonneg (by omega), wrap_in (by omega) (by omega)]
      have e6 : min (7 - k % 8).toNat IntKind.u8.bits = (7 - k % 8).toNat := Nat.min_eq_left (by show _ ≤ 8; omega)
      have key := put_sub ⟨X, hX⟩ ⟨(7 - k % 8).toNat, by omega⟩ (by rw [← hb]; exact h3)
      simp only at key
      rw [e1, e5, e6, eX, key]
      refine ⟨⟨e2, e3⟩, by rw [← eX]; exact catsL_part c _ e4, by omega, ⟨e2, e3⟩, nle30 e4, ?_, ?_⟩
      · rw [splice_set _ e4]
        exact part_all _
      · unfold sub1
        rw [hr, eX, catBitN (by omega)]
        rfl)
theorem ints_w (l : List Int) (hl : l.length ≤ 1000) : CallK Tryd.prog 22 [izV l, izV l] (.bool true) := CallK.via progOK (pfs []) [] 100 (Adv.split (8 : Nat) Adv.nil (Adv.loop (13 : Nat) (fun (k : Nat) => [((5 : Nat), Value.int IntKind.i64 (↑k : Int))]) ((fun (h : Heap) (x : Nat) => h) (Heap.mk (nat_lit 8) Trie.leaf)) (fun (i k : Nat) => i + k = List.length l) (List.length l) (0 : Nat) fun (i13 s13 : Nat) (j13 : Nat → Value) => Adv.split (19 : Nat) (Adv.chk (25 : Nat) none (Adv.chk (26 : Nat) (some (Value.int IntKind.i64 (List.getD l s13 (0 : Int)))) (Adv.chk (29 : Nat) none (Adv.chk (30 : Nat) (some (Value.int IntKind.i64 (List.getD l s13 (0 : Int)))) (Adv.split (31 : Nat) Adv.nil Adv.nil))))) Adv.nil)) (by kernel_rfl) (by kernel_rfl) (p := (((↑(List.length l) : Int) != (↑(List.length l) : Int)) = true → Value.bool false = Value.bool true) ∧ (((↑(List.length l) : Int) != (↑(List.length l) : Int)) = false → (List.length l + (0 : Nat) = List.length l ∧ Value.int IntKind.i64 (0 : Int) = Value.int IntKind.i64 (0 : Int) ∧ Heap.mk (nat_lit 8) Trie.leaf = Heap.mk (nat_lit 8) Trie.leaf) ∧ ∀ (i13 s13 : Nat) (j13 : Nat → Value), i13 + s13 = List.length l → (decide ((↑s13 : Int) < (↑(List.length l) : Int)) = true → ((0 : Int) ≤ (↑s13 : Int) ∧ (↑s13 : Int) < (↑(List.length l) : Int)) ∧ Ask.holds Tryd.prog (Ask.part (Array.toList (Array.mk (izL l))) (Int.toNat (↑(Int.toNat (↑s13 : Int) * nat_lit 1) : Int)) (nat_lit 1) [Value.int IntKind.i64 (List.getD l s13 (0 : Int))]) ∧ ((0 : Int) ≤ (↑s13 : Int) ∧ (↑s13 : Int) < (↑(List.length l) : Int)) ∧ Ask.holds Tryd.prog (Ask.part (Array.toList (Array.mk (izL l))) (Int.toNat (↑(Int.toNat (↑s13 : Int) * nat_lit 1) : Int)) (nat_lit 1) [Value.int IntKind.i64 (List.getD l s13 (0 : Int))]) ∧ ((List.getD l s13 (0 : Int) != List.getD l s13 (0 : Int)) = true → Value.bool false = Value.bool true) ∧ ((List.getD l s13 (0 : Int) != List.getD l s13 (0 : Int)) = false → ∃ (i13' : Nat), ∃ (s13' : Nat), i13' < i13 ∧ i13' + s13' = List.length l ∧ Value.int IntKind.i64 (IntKind.wrap IntKind.i64 ((↑s13 : Int) + (1 : Int))) = Value.int IntKind.i64 (↑s13' : Int) ∧ True ∧ true = true ∧ True)) ∧ (decide ((↑s13 : Int) < (↑(List.length l) : Int)) = false → Value.bool true = Value.bool true))) (by kernel_rfl) (by
    refine ⟨fun h => by simp at h, fun _ => ⟨⟨by omega, rfl, rfl⟩, fun i k j q1 => ⟨fun h1 => ?_, fun _ => rfl⟩⟩⟩
    have hk : k < l.length := by have := of_decide_eq_true h1; omega
    exact ⟨⟨by omega, by omega⟩, iz_part hk rfl, ⟨by omega, by omega⟩, iz_part hk rfl, fun h => by simp at h, fun _ => ⟨i - 1, k + 1, by omega, by omega, wrap_next k (by omega), trivial, rfl, trivial⟩⟩)
end Go.Proofs.YtidlganponfccaaDoor

end
