/- Texts packed together: CTextLaw3 CCats5 CText CNum CStr. -/
import Derived.Lib.Strings
import Derived.Test.YtidlganponfccaaDoorZ23
section
/- Sets told: between the walk and the plain law. -/
set_option linter.unusedVariables false
set_option linter.unusedSimpArgs false
namespace Go.Proofs.YtidlganponfccaaDoor
open Go Go.Ideal
theorem bs_app (a b : Bs) (c : UInt8) : bs a ++ ByteArray.mk #[c] ++ bs b = bs (a ++ c :: b) := by
  apply ByteArray.ext
  simp [bs, ByteArray.data_append]
theorem bs_app1 (a b : Bs) : bs a ++ bs b = bs (a ++ b) := by
  apply ByteArray.ext
  simp [bs, ByteArray.data_append]
theorem bs_append_size (a b : ByteArray) : (a ++ b).size = a.size + b.size := by simp
theorem itoa_all : (List.range 1001).all (fun n => decide ((Lib.itoa ((n : Nat) : Int)).length ≤ 4)) = true := by decide +kernel
theorem itoa_len {n : Int} (h0 : 0 ≤ n) (h1 : n ≤ 1000) : (Lib.itoa n).length ≤ 4 := by
  obtain ⟨m, rfl⟩ := Int.eq_ofNat_of_zero_le h0
  exact of_decide_eq_true (List.all_eq_true.1 itoa_all m (List.mem_range.2 (by omega)))
def runZ (lo hi : Int) : Bs := if hi - lo = 0 then Lib.itoa lo else if hi - lo = 1 then Lib.itoa lo ++ 44 :: Lib.itoa hi else Lib.itoa lo ++ 45 :: Lib.itoa hi
theorem runZ_nat {lo hi : Nat} (h : lo ≤ hi) : runZ (lo : Int) (hi : Int) = runT lo hi := by
  unfold runZ runT dig
  by_cases e : hi = lo
  · rw [if_pos (by omega), if_pos e]
  · rw [if_neg (by omega), if_neg e]
    by_cases e1 : hi = lo + 1
    · rw [if_pos (by omega), if_pos e1]
    · rw [if_neg (by omega), if_neg e1]
def catsN (c : List Int) : List Nat := filt (hasC c) 0 240
theorem filt_map (p : Int → Bool) : ∀ (n k : Nat), filt p k n = ((List.range n).map (k + ·)).filter (fun (j : Nat) => p j)
  | 0, _ => rfl
  | n + 1, k => by
    rw [List.range_succ_eq_map, List.map_cons, List.filter_cons, filt, filt_map p n (k + 1), List.map_map]
    have : ((fun x => k + x) ∘ Nat.succ) = (fun x => k + 1 + x) := by funext x; simp; omega
    rw [this]
    rfl
theorem listN_nat (c : List Int) (n : Nat) : listN c n = (filt (hasC c) 0 n).map (fun (k : Nat) => (k : Int)) := by
  unfold listN
  rw [filt_map]
  congr 2
  simp
theorem listC_nat (c : List Int) : listC c = (catsN c).map (fun (k : Nat) => (k : Int)) := listN_nat c 240
theorem catsN_lt (c : List Int) : ∀ y ∈ catsN c, y < 240 := fun y hy => by have := filt_ge (hasC c) _ _ y hy; omega
theorem filt_length (p : Int → Bool) : ∀ (n k : Nat), (filt p k n).length ≤ n
  | 0, _ => Nat.le_refl 0
  | n + 1, k => by
    have := filt_length p n (k + 1)
    unfold filt
    split <;> simp <;> omega
theorem catsN_length (c : List Int) : (catsN c).length ≤ 240 := filt_length _ _ _
theorem listC_at (c : List Int) {k : Nat} (h : k < (catsN c).length) : (listC c).getD k 0 = ((catsN c)[k] : Nat) := by
  rw [listC_nat, getD_at _ _ _ (by simpa using h)]; simp
theorem listC_len (c : List Int) : (listC c).length = (catsN c).length := by rw [listC_nat, List.length_map]
def textC (c : List Int) : ByteArray := bs (textN (catsN c))
theorem textsL_len : ∀ l, (textsL l).length ≤ l.length := strong (by rw [textsL_nil]; simp) fun x r ih => by
  rw [textsL_cons, List.length_cons, List.length_cons]
  rw [List.length_drop] at ih
  omega
theorem runT_len {lo hi : Nat} (h0 : lo < 240) (h1 : hi < 240) : (runT lo hi).length ≤ 9 := by
  have a := itoa_len (n := (lo : Int)) (by omega) (by omega)
  have b := itoa_len (n := (hi : Int)) (by omega) (by omega)
  unfold runT dig
  split
  · omega
  · split <;> simp <;> omega
theorem texts_short : ∀ l, (∀ y ∈ l, y < 240) → ∀ t ∈ textsL l, t.length ≤ 9 := strong (by rw [textsL_nil]; simp) fun x r ih h t ht => by
  rw [textsL_cons] at ht
  rcases List.mem_cons.1 ht with rfl | ht
  · exact runT_len (h x (by simp)) (run_lt h)
  · exact ih (fun y hy => h y (List.mem_cons_of_mem _ (mem_drop' hy))) t ht
theorem joinL_len (c : UInt8) : ∀ (l : List Bs), (∀ t ∈ l, t.length ≤ 9) → (gumL c l).length ≤ 10 * l.length
  | [], _ => by simp [gumL]
  | p :: ps, h => by
    have ih := joinL_len c ps (fun t ht => h t (List.mem_cons_of_mem _ ht))
    have hp := h p (by simp)
    by_cases e : ps = []
    · subst e; simp [gumL]; omega
    · rw [joinL_cons c p e]; simp; omega
theorem join_short (c : List Int) : (gumL 44 (textsL (catsN c))).length ≤ 2400 := by
  have h1 := joinL_len 44 (textsL (catsN c)) (texts_short _ (catsN_lt c))
  have h2 := textsL_len (catsN c)
  have h3 := catsN_length c
  omega
theorem textC_size (c : List Int) : (textC c).size ≤ 2400 := by
  unfold textC
  rw [bs_size]
  unfold textN
  split
  · decide
  · exact join_short c
/-! ### the loops of Text -/
structure OutInv (L : List Nat) (m : Nat) (s : Nat × List Bs) : Prop where
  n : m + s.1 = L.length
  e : s.2 ++ textsL (L.drop s.1) = textsL L
structure RunInv (L : List Nat) (i : Nat) (m k : Nat) : Prop where
  n : m + k + 1 = L.length
  g : i ≤ k
  v : L.getD k 0 = L.getD i 0 + (k - i)
  r : runEnd (L.getD i 0) (L.drop (i + 1)) = (k - i) + runEnd (L.getD k 0) (L.drop (k + 1))
theorem OutInv.start (L : List Nat) : OutInv L L.length (0, []) := ⟨rfl, by simp⟩
theorem RunInv.start {L : List Nat} {i : Nat} (h : i < L.length) : RunInv L i (L.length - 1 - i) i := ⟨by omega, Nat.le_refl i, by omega, by omega⟩
theorem RunInv.next {L : List Nat} {i m k : Nat} (h : RunInv L i m k) (hk : k + 1 < L.length) (e : L.getD (k + 1) 0 = L.getD k 0 + 1) : RunInv L i (m - 1) (k + 1) := by
  have h1 := h.n
  have hg := h.g
  refine ⟨by omega, by omega, by rw [e, h.v]; omega, ?_⟩
  rw [h.r, List.drop_eq_getElem_cons hk, runEnd]
  rw [getD_at L (k + 1) 0 hk] at e ⊢
  rw [if_pos e]
  omega
theorem RunInv.end {L : List Nat} {i m k : Nat} (h : RunInv L i m k) (he : k + 1 < L.length → L.getD (k + 1) 0 ≠ L.getD k 0 + 1) : runEnd (L.getD i 0) (L.drop (i + 1)) = k - i := by
  rw [h.r]
  by_cases hk : k + 1 < L.length
  · have e := he hk
    rw [List.drop_eq_getElem_cons hk, runEnd]
    rw [getD_at L (k + 1) 0 hk] at e
    rw [if_neg e]; omega
  · rw [List.drop_eq_nil_of_le (by omega)]; simp [runEnd]
theorem OutInv.next {L : List Nat} {m m2 k : Nat} {s : Nat × List Bs} (h : OutInv L m s) (hi : s.1 < L.length) (r : RunInv L s.1 m2 k) (he : k + 1 < L.length → L.getD (k + 1) 0 ≠ L.getD k 0 + 1) : OutInv L (L.length - (k + 1)) (k + 1, s.2 ++ [runT (L.getD s.1 0) (L.getD k 0)]) := by
  have hn := r.n
  have hg := r.g
  have e := r.end he
  refine ⟨by simp only; omega, ?_⟩
  rw [← h.e, List.drop_eq_getElem_cons hi, textsL_cons]
  rw [getD_at L s.1 0 hi] at e
  have hv := r.v
  rw [getD_at L s.1 0 hi] at hv
  rw [e, hv, getD_at L s.1 0 hi, List.drop_drop, List.append_assoc, List.singleton_append]
  simp only
  rw [show s.1 + 1 + (k - s.1) = k + 1 from by omega]
theorem OutInv.end {L : List Nat} {m : Nat} {s : Nat × List Bs} (h : OutInv L m s) (hi : ¬ s.1 < L.length) : s.2 = textsL L := by
  have := h.e
  rwa [List.drop_eq_nil_of_le (by omega), textsL_nil, List.append_nil] at this
theorem OutInv.len {L : List Nat} {m : Nat} {s : Nat × List Bs} (h : OutInv L m s) : s.2.length ≤ L.length := by
  have := congrArg List.length h.e
  have h2 := textsL_len L
  simp at this
  omega
/-! ### the document's text, step by step -/
def refAt (p : Int → Bool) : Nat → Bs
  | 0 => []
  | k + 1 => numStep p (refAt p k) k
theorem refF_at (p : Int → Bool) : ∀ (n k : Nat), refF p n k (refAt p k) = refAt p (k + n)
  | 0, k => rfl
  | n + 1, k => by
    rw [refF, show k + (n + 1) = (k + 1) + n from by omega, ← refF_at p n (k + 1)]
    rfl
theorem refAt_len (p : Int → Bool) : ∀ k, k ≤ 240 → (refAt p k).length ≤ 5 * k
  | 0, _ => Nat.le_refl 0
  | k + 1, h => by
    have ih := refAt_len p k (by omega)
    have hd := itoa_len (n := (k : Int)) (by omega) (by omega)
    unfold refAt numStep dig
    split
    · omega
    · split
      · omega
      · split <;> simp <;> omega
theorem hasC_far (c : List Int) {k : Int} (h : 240 ≤ k) : hasC c k = false := by
  unfold hasC
  rw [decide_eq_false (by omega : ¬ k < 240)]
  simp
theorem hasC_neg (c : List Int) {k : Int} (h : k < 0) : hasC c k = false := by
  unfold hasC
  rw [decide_eq_false (by omega : ¬ 0 ≤ k)]
  simp
theorem ref_text (c : List Int) : textC c = bs (if refAt (hasC c) 240 = [] then [45] else refAt (hasC c) 240) := by
  unfold textC catsN
  rw [← refText_eq (hasC c) (fun k h => hasC_far c h) (hasC_neg c (by decide))]
  unfold refTextN
  have := refF_at (hasC c) 240 0
  rw [show refAt (hasC c) 0 = [] from rfl, Nat.zero_add] at this
  rw [this]
theorem bs_nil_iff (l : Bs) : ((ByteArray.mk #[]).toList == (bs l).toList) = decide (l = []) := by
  rw [Bool.eq_iff_iff, beq_iff_eq, decide_eq_true_iff, Lib.toList_data, Lib.toList_data, bs_list]
  exact ⟨fun h => h.symm, fun h => h.symm⟩
end Go.Proofs.YtidlganponfccaaDoor

end
section
/- What the functions of sets answer: with and without some, how many, which. -/
set_option linter.unusedVariables false
set_option linter.unusedSimpArgs false
set_option maxRecDepth 100000
namespace Go.Proofs.YtidlganponfccaaDoor
open Go Go.Ideal
def iz1 (n : Int) : List Value := [.int .i64 n]
theorem iz1_length (n : Int) : (iz1 n).length = 1 := rfl
def izL (l : List Int) : List Value := cellsOf iz1 l
def izV (l : List Int) : Value := vsl l.length (izL l).toArray
theorem izL_length (l : List Int) : (izL l).length = l.length := (cellsOf_length iz1_length l).trans (Nat.mul_one _)
theorem izL_snoc (l : List Int) (k : Int) : izL (l ++ [k]) = izL l ++ [.int .i64 k] := cellsOf_snoc _ _ _
theorem iz_part {l : List Int} {k : Nat} (hk : k < l.length) {o : Nat} (ho : o = k * 1 + 0) : (Ask.part (izL l) o 1 [.int .i64 (l.getD k 0)]).holds Tryd.prog := by
  subst ho; exact cellsOf_part (P := Tryd.prog) (f := iz1) iz1_length 0 hk 0 1 (by omega) _ rfl
theorem take_add {l : List Int} {k : Nat} (hk : k < l.length) {f : List Int → Int → List Int} {c : List Int} : (l.take (k + 1)).foldl f c = f ((l.take k).foldl f c) (l.getD k 0) := by
  rw [List.take_succ_eq_append_getElem hk, List.foldl_append]
  simp only [List.foldl_cons, List.foldl_nil, List.getD, List.getElem?_eq_getElem hk, Option.getD_some]
theorem i64_bytes : (Tryd.prog.types[(3 : Nat)]).bytes = 8 := by decide +kernel
theorem isl_yes {tok : Nat} {c : List Int} {k : Nat} (h : hasC c k = true) : osl tok 1 (((listN c k).length : Int) + 1) ⟨izL (listN c k) ++ [.int .i64 k]⟩ = osl tok 1 ((listN c (k + 1)).length : Nat) (izL (listN c (k + 1))).toArray ∧
    some (Blk.own ((listN c k).length + 1) 3) = some (Blk.own (listN c (k + 1)).length 3) := by
  rw [listN_succ, if_pos h, izL_snoc, List.length_append]; exact ⟨rfl, rfl⟩
theorem isl_no {c : List Int} {k : Nat} (h : hasC c k = false) : listN c (k + 1) = listN c k := by
  rw [listN_succ, h, if_neg (by decide), List.append_nil]
theorem right54_w (k : Int) : CallK Tryd.prog 54 [.int .i64 k] (.bool (rightI k)) := CallK.via progOK (pfs []) [] 100 (Adv.split (4 : Nat) (Adv.split (7 : Nat) Adv.nil Adv.nil) Adv.nil) (by kernel_rfl) (by kernel_rfl) (p := (decide (k ≥ (0 : Int)) = true → (decide (k ≤ (239 : Int)) = true → Value.bool true = Value.bool (rightI k)) ∧ (decide (k ≤ (239 : Int)) = false → Value.bool false = Value.bool (rightI k))) ∧ (decide (k ≥ (0 : Int)) = false → Value.bool false = Value.bool (rightI k))) (by kernel_rfl) (by
    unfold rightI
    refine ⟨fun h => ⟨fun h2 => ?_, fun h2 => ?_⟩, fun h => ?_⟩
    · rw [h, h2]; rfl
    · rw [h, h2]; rfl
    · rw [h]; rfl)
theorem bit55_w (k : Int) (h0 : 0 ≤ k) : CallK Tryd.prog 55 [.int .i64 k] (.int .u8 (catBit k)) := CallK.via progOK (pfs []) [] 100 (Adv.chk (5 : Nat) none Adv.nil) (by kernel_rfl) (by kernel_rfl) (p := (0 : Int) ≤ Int.tmod k (8 : Int) ∧ Value.int IntKind.u8 (Int.fdiv (128 : Int) ((2 : Int) ^ min (Int.toNat (Int.tmod k (8 : Int))) (IntKind.bits IntKind.u8))) = Value.int IntKind.u8 (catBit k)) (by kernel_rfl) (by
    rw [Int.tmod_eq_emod_of_nonneg h0]
    refine ⟨Int.emod_nonneg _ (by decide), ?_⟩
    have : (k % 8).toNat ≤ 8 := by have := Int.emod_lt_of_pos k (show (0 : Int) < 8 by decide); omega
    rw [show min (k % 8).toNat IntKind.u8.bits = (k % 8).toNat from Nat.min_eq_left this]
    rfl)
theorem and_pow (X m : Nat) : X &&& 2 ^ m = if X.testBit m = true then 2 ^ m else 0 := by
  apply Nat.eq_of_testBit_eq
  intro n
  rw [Nat.testBit_and, Nat.testBit_two_pow]
  by_cases e : m = n
  · subst e
    cases h : X.testBit m <;> simp
  · cases h : X.testBit m <;> simp [e, Nat.testBit_two_pow]
theorem nle30 {i : Nat} (h : i < 30) : 0 + i * 1 + 1 ≤ 30 := by omega
theorem bit_ne {X : Nat} (hX : X < 256) {m : Nat} (hm : m < 8) : (and8 (X : Nat) ((2 ^ m : Nat) : Int) != 0) = X.testBit m := by
  rw [and8N hX (pow_lt hm), and_pow]
  have : 0 < 2 ^ m := Nat.pow_pos (by decide)
  cases X.testBit m with
  | true =>
    rw [if_pos rfl, bne_iff_ne]
    omega
  | false => rfl
theorem hasp_w (c : List Int) (k : Int) (hc : CatsOK c) : CallK Tryd.prog 20 [catsV c, .int .i64 k] (.bool (hasC c k)) := CallK.via progOK (pfs [54, 55]) [] 100 (Adv.purs (5 : Nat) (rightI k) (Adv.chk (9 : Nat) none (Adv.chk (10 : Nat) (some (Value.int IntKind.u8 (List.getD c (Int.toNat (IntKind.wrap IntKind.i64 (Int.tdiv k (8 : Int)))) (0 : Int)))) (Adv.pur (12 : Nat) (Value.int IntKind.u8 (catBit k)) (Adv.split (14 : Nat) Adv.nil Adv.nil)))) Adv.nil) (by kernel_rfl) (by kernel_rfl) (p := CallK Tryd.prog (nat_lit 54) [Value.int IntKind.i64 k] (Value.bool (rightI k)) ∧ (rightI k = true → ((0 : Int) ≤ IntKind.wrap IntKind.i64 (Int.tdiv k (8 : Int)) ∧ IntKind.wrap IntKind.i64 (Int.tdiv k (8 : Int)) < (30 : Int)) ∧ Ask.holds Tryd.prog (Ask.part (catsL c) (nat_lit 0 + Int.toNat (IntKind.wrap IntKind.i64 (Int.tdiv k (8 : Int))) * nat_lit 1) (nat_lit 1) [Value.int IntKind.u8 (List.getD c (Int.toNat (IntKind.wrap IntKind.i64 (Int.tdiv k (8 : Int)))) (0 : Int))]) ∧ CallK Tryd.prog (nat_lit 55) [Value.int IntKind.i64 k] (Value.int IntKind.u8 (catBit k)) ∧ ((IntKind.wrap IntKind.u8 (↑(BitVec.toNat (BitVec.ofInt (IntKind.bits IntKind.u8) (List.getD c (Int.toNat (IntKind.wrap IntKind.i64 (Int.tdiv k (8 : Int)))) (0 : Int)) &&& BitVec.ofInt (IntKind.bits IntKind.u8) (catBit k))) : Int) != (0 : Int)) = true → Value.bool true = Value.bool (hasC c k)) ∧ ((IntKind.wrap IntKind.u8 (↑(BitVec.toNat (BitVec.ofInt (IntKind.bits IntKind.u8) (List.getD c (Int.toNat (IntKind.wrap IntKind.i64 (Int.tdiv k (8 : Int)))) (0 : Int)) &&& BitVec.ofInt (IntKind.bits IntKind.u8) (catBit k))) : Int) != (0 : Int)) = false → Value.bool false = Value.bool (hasC c k))) ∧ (rightI k = false → Value.bool false = Value.bool (hasC c k))) (by kernel_rfl) (by
    refine ⟨right54_w k, fun h => ?_, fun h => ?_⟩
    · obtain ⟨e1, e2, e3, e4⟩ := q8 h
      obtain ⟨h0, h1⟩ := rightI_iff.1 h
      rw [e1]
      obtain ⟨X, eX, hX, hb⟩ := hasC_bit hc h0 (by omega)
      have key : (IntKind.u8.wrap (BitVec.ofInt IntKind.u8.bits (c.getD (k / 8).toNat 0) &&& BitVec.ofInt IntKind.u8.bits (catBit k)).toNat != 0) = hasC c k := by
        rw [hb, eX, catBitN h0]
        exact bit_ne hX (by omega)
      refine ⟨⟨e2, e3⟩, catsL_part c _ e4, bit55_w k h0, fun h2 => ?_, fun h2 => ?_⟩
      · rw [← key]; exact congrArg Value.bool h2.symm
      · rw [← key]; exact congrArg Value.bool h2.symm
    · refine congrArg Value.bool ?_
      unfold hasC
      have : ¬ (0 ≤ k ∧ k ≤ 239) := fun e => by rw [rightI_iff.2 e] at h; cases h
      by_cases h0 : 0 ≤ k
      · rw [decide_eq_false (p := k < 240) (by omega), Bool.and_false, Bool.false_and]
      · rw [decide_eq_false h0, Bool.false_and, Bool.false_and])
theorem with_w (c : List Int) (l : List Int) (hl : l.length ≤ 1000) : CallK Tryd.prog 18 [catsV c, izV l] (catsV (withC c l)) := CallK.via progOK (pfs [54, 55]) [] 100 (Adv.loop (8 : Nat) (fun (k : Nat) => [((9 : Nat), Value.int IntKind.i64 (↑k : Int))]) ((fun (h : Heap) (k : Nat) => Heap.set h (8 : Nat) (Blk.cells (catsL (withC c (List.take k l))) (23 : TypeId) Mode.fix)) (Heap.mk (nat_lit 10) (Trie.node none (Trie.node none Trie.leaf (Trie.node none (Trie.node (some (Blk.cells [Value.int IntKind.u8 (0 : Int), Value.int IntKind.u8 (0 : Int), Value.int IntKind.u8 (0 : Int), Value.int IntKind.u8 (0 : Int), Value.int IntKind.u8 (0 : Int), Value.int IntKind.u8 (0 : Int), Value.int IntKind.u8 (0 : Int), Value.int IntKind.u8 (0 : Int), Value.int IntKind.u8 (0 : Int), Value.int IntKind.u8 (0 : Int), Value.int IntKind.u8 (0 : Int), Value.int IntKind.u8 (0 : Int), Value.int IntKind.u8 (0 : Int), Value.int IntKind.u8 (0 : Int), Value.int IntKind.u8 (0 : Int), Value.int IntKind.u8 (0 : Int), Value.int IntKind.u8 (0 : Int), Value.int IntKind.u8 (0 : Int), Value.int IntKind.u8 (0 : Int), Value.int IntKind.u8 (0 : Int), Value.int IntKind.u8 (0 : Int), Value.int IntKind.u8 (0 : Int), Value.int IntKind.u8 (0 : Int), Value.int IntKind.u8 (0 : Int), Value.int IntKind.u8 (0 : Int), Value.int IntKind.u8 (0 : Int), Value.int IntKind.u8 (0 : Int), Value.int IntKind.u8 (0 : Int), Value.int IntKind.u8 (0 : Int), Value.int IntKind.u8 (0 : Int)] (nat_lit 23) Mode.fix)) Trie.leaf Trie.leaf) Trie.leaf)) (Trie.node none (Trie.node none (Trie.node (some (Blk.cells (catsL c) (nat_lit 23) Mode.fix)) Trie.leaf Trie.leaf) Trie.leaf) Trie.leaf)))) (fun (i k : Nat) => i + k = List.length l) (List.length l) (0 : Nat) fun (i8 s8 : Nat) (j8 : Nat → Value) => Adv.split (10 : Nat) (Adv.chk (15 : Nat) none (Adv.chk (16 : Nat) (some (Value.int IntKind.i64 (List.getD l s8 (0 : Int)))) (Adv.purs (20 : Nat) (rightI (List.getD l s8 (0 : Int))) (Adv.chk (24 : Nat) none (Adv.chk (25 : Nat) (some (Value.int IntKind.u8 (List.getD (withC c (List.take s8 l)) (Int.toNat (IntKind.wrap IntKind.i64 (Int.tdiv (List.getD l s8 (0 : Int)) (8 : Int)))) (0 : Int)))) (Adv.pur (27 : Nat) (Value.int IntKind.u8 (catBit (List.getD l s8 (0 : Int)))) (Adv.chk (29 : Nat) none (Adv.chk (30 : Nat) none Adv.nil))))) Adv.nil))) Adv.nil) (by kernel_rfl) (by kernel_rfl) (p := (List.length l + (0 : Nat) = List.length l ∧ Value.int IntKind.i64 (0 : Int) = Value.int IntKind.i64 (0 : Int) ∧ Heap.mk (nat_lit 10) (Trie.node none (Trie.node none Trie.leaf (Trie.node none (Trie.node (some (Blk.cells [Value.int IntKind.u8 (0 : Int), Value.int IntKind.u8 (0 : Int), Value.int IntKind.u8 (0 : Int), Value.int IntKind.u8 (0 : Int), Value.int IntKind.u8 (0 : Int), Value.int IntKind.u8 (0 : Int), Value.int IntKind.u8 (0 : Int), Value.int IntKind.u8 (0 : Int), Value.int IntKind.u8 (0 : Int), Value.int IntKind.u8 (0 : Int), Value.int IntKind.u8 (0 : Int), Value.int IntKind.u8 (0 : Int), Value.int IntKind.u8 (0 : Int), Value.int IntKind.u8 (0 : Int), Value.int IntKind.u8 (0 : Int), Value.int IntKind.u8 (0 : Int), Value.int IntKind.u8 (0 : Int), Value.int IntKind.u8 (0 : Int), Value.int IntKind.u8 (0 : Int), Value.int IntKind.u8 (0 : Int), Value.int IntKind.u8 (0 : Int), Value.int IntKind.u8 (0 : Int), Value.int IntKind.u8 (0 : Int), Value.int IntKind.u8 (0 : Int), Value.int IntKind.u8 (0 : Int), Value.int IntKind.u8 (0 : Int), Value.int IntKind.u8 (0 : Int), Value.int IntKind.u8 (0 : Int), Value.int IntKind.u8 (0 : Int), Value.int IntKind.u8 (0 : Int)] (nat_lit 23) Mode.fix)) Trie.leaf Trie.leaf) Trie.leaf)) (Trie.node none (Trie.node none (Trie.node (some (Blk.cells (catsL c) (nat_lit 23) Mode.fix)) Trie.leaf Trie.leaf) Trie.leaf) Trie.leaf)) = Heap.mk (nat_lit 10) (Trie.node none (Trie.node none Trie.leaf (Trie.node none (Trie.node (some (Blk.cells [Value.int IntKind.u8 (0 : Int), Value.int IntKind.u8 (0 : Int), Value.int IntKind.u8 (0 : Int), Value.int IntKind.u8 (0 : Int), Value.int IntKind.u8 (0 : Int), Value.int IntKind.u8 (0 : Int), Value.int IntKind.u8 (0 : Int), Value.int IntKind.u8 (0 : Int), Value.int IntKind.u8 (0 : Int), Value.int IntKind.u8 (0 : Int), Value.int IntKind.u8 (0 : Int), Value.int IntKind.u8 (0 : Int), Value.int IntKind.u8 (0 : Int), Value.int IntKind.u8 (0 : Int), Value.int IntKind.u8 (0 : Int), Value.int IntKind.u8 (0 : Int), Value.int IntKind.u8 (0 : Int), Value.int IntKind.u8 (0 : Int), Value.int IntKind.u8 (0 : Int), Value.int IntKind.u8 (0 : Int), Value.int IntKind.u8 (0 : Int), Value.int IntKind.u8 (0 : Int), Value.int IntKind.u8 (0 : Int), Value.int IntKind.u8 (0 : Int), Value.int IntKind.u8 (0 : Int), Value.int IntKind.u8 (0 : Int), Value.int IntKind.u8 (0 : Int), Value.int IntKind.u8 (0 : Int), Value.int IntKind.u8 (0 : Int), Value.int IntKind.u8 (0 : Int)] (nat_lit 23) Mode.fix)) Trie.leaf Trie.leaf) Trie.leaf)) (Trie.node none (Trie.node none (Trie.node (some (Blk.cells (catsL (withC c (List.take (0 : Nat) l))) (nat_lit 23) Mode.fix)) Trie.leaf Trie.leaf) Trie.leaf) Trie.leaf))) ∧ ∀ (i8 s8 : Nat) (j8 : Nat → Value), i8 + s8 = List.length l → (decide ((↑s8 : Int) < (↑(List.length l) : Int)) = true → ((0 : Int) ≤ (↑s8 : Int) ∧ (↑s8 : Int) < (↑(List.length l) : Int)) ∧ Ask.holds Tryd.prog (Ask.part (Array.toList (Array.mk (izL l))) (Int.toNat (↑(Int.toNat (↑s8 : Int) * nat_lit 1) : Int)) (nat_lit 1) [Value.int IntKind.i64 (List.getD l s8 (0 : Int))]) ∧ CallK Tryd.prog (nat_lit 54) [Value.int IntKind.i64 (List.getD l s8 (0 : Int))] (Value.bool (rightI (List.getD l s8 (0 : Int)))) ∧ (rightI (List.getD l s8 (0 : Int)) = true → ((0 : Int) ≤ IntKind.wrap IntKind.i64 (Int.tdiv (List.getD l s8 (0 : Int)) (8 : Int)) ∧ IntKind.wrap IntKind.i64 (Int.tdiv (List.getD l s8 (0 : Int)) (8 : Int)) < (30 : Int)) ∧ Ask.holds Tryd.prog (Ask.part (catsL (withC c (List.take s8 l))) (nat_lit 0 + Int.toNat (IntKind.wrap IntKind.i64 (Int.tdiv (List.getD l s8 (0 : Int)) (8 : Int))) * nat_lit 1) (nat_lit 1) [Value.int IntKind.u8 (List.getD (withC c (List.take s8 l)) (Int.toNat (IntKind.wrap IntKind.i64 (Int.tdiv (List.getD l s8 (0 : Int)) (8 : Int)))) (0 : Int))]) ∧ CallK Tryd.prog (nat_lit 55) [Value.int IntKind.i64 (List.getD l s8 (0 : Int))] (Value.int IntKind.u8 (catBit (List.getD l s8 (0 : Int)))) ∧ ((0 : Int) ≤ IntKind.wrap IntKind.i64 (Int.tdiv (List.getD l s8 (0 : Int)) (8 : Int)) ∧ IntKind.wrap IntKind.i64 (Int.tdiv (List.getD l s8 (0 : Int)) (8 : Int)) < (30 : Int)) ∧ nat_lit 0 + Int.toNat (IntKind.wrap IntKind.i64 (Int.tdiv (List.getD l s8 (0 : Int)) (8 : Int))) * nat_lit 1 + nat_lit 1 ≤ nat_lit 30 ∧ ∃ (i8' : Nat), ∃ (s8' : Nat), i8' < i8 ∧ i8' + s8' = List.length l ∧ Value.int IntKind.i64 (IntKind.wrap IntKind.i64 ((↑s8 : Int) + (1 : Int))) = Value.int IntKind.i64 (↑s8' : Int) ∧ (some (Blk.cells [Value.int IntKind.u8 (0 : Int), Value.int IntKind.u8 (0 : Int), Value.int IntKind.u8 (0 : Int), Value.int IntKind.u8 (0 : Int), Value.int IntKind.u8 (0 : Int), Value.int IntKind.u8 (0 : Int), Value.int IntKind.u8 (0 : Int), Value.int IntKind.u8 (0 : Int), Value.int IntKind.u8 (0 : Int), Value.int IntKind.u8 (0 : Int), Value.int IntKind.u8 (0 : Int), Value.int IntKind.u8 (0 : Int), Value.int IntKind.u8 (0 : Int), Value.int IntKind.u8 (0 : Int), Value.int IntKind.u8 (0 : Int), Value.int IntKind.u8 (0 : Int), Value.int IntKind.u8 (0 : Int), Value.int IntKind.u8 (0 : Int), Value.int IntKind.u8 (0 : Int), Value.int IntKind.u8 (0 : Int), Value.int IntKind.u8 (0 : Int), Value.int IntKind.u8 (0 : Int), Value.int IntKind.u8 (0 : Int), Value.int IntKind.u8 (0 : Int), Value.int IntKind.u8 (0 : Int), Value.int IntKind.u8 (0 : Int), Value.int IntKind.u8 (0 : Int), Value.int IntKind.u8 (0 : Int), Value.int IntKind.u8 (0 : Int), Value.int IntKind.u8 (0 : Int)] (nat_lit 23) Mode.fix) = some (Blk.cells [Value.int IntKind.u8 (0 : Int), Value.int IntKind.u8 (0 : Int), Value.int IntKind.u8 (0 : Int), Value.int IntKind.u8 (0 : Int), Value.int IntKind.u8 (0 : Int), Value.int IntKind.u8 (0 : Int), Value.int IntKind.u8 (0 : Int), Value.int IntKind.u8 (0 : Int), Value.int IntKind.u8 (0 : Int), Value.int IntKind.u8 (0 : Int), Value.int IntKind.u8 (0 : Int), Value.int IntKind.u8 (0 : Int), Value.int IntKind.u8 (0 : Int), Value.int IntKind.u8 (0 : Int), Value.int IntKind.u8 (0 : Int), Value.int IntKind.u8 (0 : Int), Value.int IntKind.u8 (0 : Int), Value.int IntKind.u8 (0 : Int), Value.int IntKind.u8 (0 : Int), Value.int IntKind.u8 (0 : Int), Value.int IntKind.u8 (0 : Int), Value.int IntKind.u8 (0 : Int), Value.int IntKind.u8 (0 : Int), Value.int IntKind.u8 (0 : Int), Value.int IntKind.u8 (0 : Int), Value.int IntKind.u8 (0 : Int), Value.int IntKind.u8 (0 : Int), Value.int IntKind.u8 (0 : Int), Value.int IntKind.u8 (0 : Int), Value.int IntKind.u8 (0 : Int)] (nat_lit 23) Mode.fix) ∧ some (Blk.cells (splice (catsL (withC c (List.take s8 l))) (nat_lit 0 + Int.toNat (IntKind.wrap IntKind.i64 (Int.tdiv (List.getD l s8 (0 : Int)) (8 : Int))) * nat_lit 1) (Value.cellList (Value.int IntKind.u8 (IntKind.wrap IntKind.u8 (↑(BitVec.toNat (BitVec.ofInt (IntKind.bits IntKind.u8) (List.getD (withC c (List.take s8 l)) (Int.toNat (IntKind.wrap IntKind.i64 (Int.tdiv (List.getD l s8 (0 : Int)) (8 : Int)))) (0 : Int)) ||| BitVec.ofInt (IntKind.bits IntKind.u8) (catBit (List.getD l s8 (0 : Int))))) : Int))))) (nat_lit 23) Mode.fix) = some (Blk.cells (catsL (withC c (List.take s8' l))) (nat_lit 23) Mode.fix) ∧ True) ∧ true = true ∧ true = true ∧ true = true ∧ True) ∧ (rightI (List.getD l s8 (0 : Int)) = false → ∃ (i8' : Nat), ∃ (s8' : Nat), i8' < i8 ∧ i8' + s8' = List.length l ∧ Value.int IntKind.i64 (IntKind.wrap IntKind.i64 ((↑s8 : Int) + (1 : Int))) = Value.int IntKind.i64 (↑s8' : Int) ∧ (some (Blk.cells [Value.int IntKind.u8 (0 : Int), Value.int IntKind.u8 (0 : Int), Value.int IntKind.u8 (0 : Int), Value.int IntKind.u8 (0 : Int), Value.int IntKind.u8 (0 : Int), Value.int IntKind.u8 (0 : Int), Value.int IntKind.u8 (0 : Int), Value.int IntKind.u8 (0 : Int), Value.int IntKind.u8 (0 : Int), Value.int IntKind.u8 (0 : Int), Value.int IntKind.u8 (0 : Int), Value.int IntKind.u8 (0 : Int), Value.int IntKind.u8 (0 : Int), Value.int IntKind.u8 (0 : Int), Value.int IntKind.u8 (0 : Int), Value.int IntKind.u8 (0 : Int), Value.int IntKind.u8 (0 : Int), Value.int IntKind.u8 (0 : Int), Value.int IntKind.u8 (0 : Int), Value.int IntKind.u8 (0 : Int), Value.int IntKind.u8 (0 : Int), Value.int IntKind.u8 (0 : Int), Value.int IntKind.u8 (0 : Int), Value.int IntKind.u8 (0 : Int), Value.int IntKind.u8 (0 : Int), Value.int IntKind.u8 (0 : Int), Value.int IntKind.u8 (0 : Int), Value.int IntKind.u8 (0 : Int), Value.int IntKind.u8 (0 : Int), Value.int IntKind.u8 (0 : Int)] (nat_lit 23) Mode.fix) = some (Blk.cells [Value.int IntKind.u8 (0 : Int), Value.int IntKind.u8 (0 : Int), Value.int IntKind.u8 (0 : Int), Value.int IntKind.u8 (0 : Int), Value.int IntKind.u8 (0 : Int), Value.int IntKind.u8 (0 : Int), Value.int IntKind.u8 (0 : Int), Value.int IntKind.u8 (0 : Int), Value.int IntKind.u8 (0 : Int), Value.int IntKind.u8 (0 : Int), Value.int IntKind.u8 (0 : Int), Value.int IntKind.u8 (0 : Int), Value.int IntKind.u8 (0 : Int), Value.int IntKind.u8 (0 : Int), Value.int IntKind.u8 (0 : Int), Value.int IntKind.u8 (0 : Int), Value.int IntKind.u8 (0 : Int), Value.int IntKind.u8 (0 : Int), Value.int IntKind.u8 (0 : Int), Value.int IntKind.u8 (0 : Int), Value.int IntKind.u8 (0 : Int), Value.int IntKind.u8 (0 : Int), Value.int IntKind.u8 (0 : Int), Value.int IntKind.u8 (0 : Int), Value.int IntKind.u8 (0 : Int), Value.int IntKind.u8 (0 : Int), Value.int IntKind.u8 (0 : Int), Value.int IntKind.u8 (0 : Int), Value.int IntKind.u8 (0 : Int), Value.int IntKind.u8 (0 : Int)] (nat_lit 23) Mode.fix) ∧ some (Blk.cells (catsL (withC c (List.take s8 l))) (nat_lit 23) Mode.fix) = some (Blk.cells (catsL (withC c (List.take s8' l))) (nat_lit 23) Mode.fix) ∧ True) ∧ true = true ∧ true = true ∧ true = true ∧ True)) ∧ (decide ((↑s8 : Int) < (↑(List.length l) : Int)) = false → Value.agg (Array.mk (catsL (withC c (List.take s8 l)))) = catsV (withC c l))) (by kernel_rfl) (by
    refine ⟨⟨by omega, rfl, rfl⟩, fun i k j q1 => ⟨fun h1 => ?_, fun h1 => ?_⟩⟩
    · have hk : k < l.length := by have := of_decide_eq_true h1; omega
      have hs : withC c (l.take (k + 1)) = add1 (withC c (l.take k)) (l.getD k 0) := take_add hk
      refine ⟨⟨by omega, by omega⟩, iz_part hk rfl, right54_w _, fun h2 => ?_, fun h2 => ?_⟩
      · obtain ⟨e1, e2, e3, e4⟩ := q8 h2
        rw [e1]
        refine ⟨⟨e2, e3⟩, catsL_part _ _ e4, bit55_w _ (rightI_iff.1 h2).1, ⟨e2, e3⟩, nle30 e4, i - 1, k + 1, by omega, by omega, wrap_next k (by omega), ⟨rfl, ?_, trivial⟩, rfl, rfl, rfl, trivial⟩
        rw [splice_set _ e4, hs]
        unfold add1
        rw [h2]
        rfl
      · refine ⟨i - 1, k + 1, by omega, by omega, wrap_next k (by omega), ⟨rfl, ?_, trivial⟩, rfl, rfl, rfl, trivial⟩
        rw [hs]
        unfold add1
        rw [h2]
    · have hk : k = l.length := by have := of_decide_eq_false h1; omega
      subst hk
      rw [List.take_length]
      rfl)
theorem without_w (c : List Int) (l : List Int) (hl : l.length ≤ 1000) : CallK Tryd.prog 19 [catsV c, izV l] (catsV (withoutC c l)) := CallK.via progOK (pfs [54, 55]) [] 100 (Adv.loop (8 : Nat) (fun (k : Nat) => [((9 : Nat), Value.int IntKind.i64 (↑k : Int))]) ((fun (h : Heap) (k : Nat) => Heap.set h (8 : Nat) (Blk.cells (catsL (withoutC c (List.take k l))) (23 : TypeId) Mode.fix)) (Heap.mk (nat_lit 10) (Trie.node none (Trie.node none Trie.leaf (Trie.node none (Trie.node (some (Blk.cells [Value.int IntKind.u8 (0 : Int), Value.int IntKind.u8 (0 : Int), Value.int IntKind.u8 (0 : Int), Value.int IntKind.u8 (0 : Int), Value.int IntKind.u8 (0 : Int), Value.int IntKind.u8 (0 : Int), Value.int IntKind.u8 (0 : Int), Value.int IntKind.u8 (0 : Int), Value.int IntKind.u8 (0 : Int), Value.int IntKind.u8 (0 : Int), Value.int IntKind.u8 (0 : Int), Value.int IntKind.u8 (0 : Int), Value.int IntKind.u8 (0 : Int), Value.int IntKind.u8 (0 : Int), Value.int IntKind.u8 (0 : Int), Value.int IntKind.u8 (0 : Int), Value.int IntKind.u8 (0 : Int), Value.int IntKind.u8 (0 : Int), Value.int IntKind.u8 (0 : Int), Value.int IntKind.u8 (0 : Int), Value.int IntKind.u8 (0 : Int), Value.int IntKind.u8 (0 : Int), Value.int IntKind.u8 (0 : Int), Value.int IntKind.u8 (0 : Int), Value.int IntKind.u8 (0 : Int), Value.int IntKind.u8 (0 : Int), Value.int IntKind.u8 (0 : Int), Value.int IntKind.u8 (0 : Int), Value.int IntKind.u8 (0 : Int), Value.int IntKind.u8 (0 : Int)] (nat_lit 23) Mode.fix)) Trie.leaf Trie.leaf) Trie.leaf)) (Trie.node none (Trie.node none (Trie.node (some (Blk.cells (catsL c) (nat_lit 23) Mode.fix)) Trie.leaf Trie.leaf) Trie.leaf) Trie.leaf)))) (fun (i k : Nat) => i + k = List.length l) (List.length l) (0 : Nat) fun (i8 s8 : Nat) (j8 : Nat → Value) => Adv.split (10 : Nat) (Adv.chk (15 : Nat) none (Adv.chk (16 : Nat) (some (Value.int IntKind.i64 (List.getD l s8 (0 : Int)))) (Adv.purs (20 : Nat) (rightI (List.getD l s8 (0 : Int))) (Adv.chk (24 : Nat) none (Adv.chk (25 : Nat) (some (Value.int IntKind.u8 (List.getD (withoutC c (List.take s8 l)) (Int.toNat (IntKind.wrap IntKind.i64 (Int.tdiv (List.getD l s8 (0 : Int)) (8 : Int)))) (0 : Int)))) (Adv.pur (27 : Nat) (Value.int IntKind.u8 (catBit (List.getD l s8 (0 : Int)))) (Adv.chk (29 : Nat) none (Adv.chk (30 : Nat) none Adv.nil))))) Adv.nil))) Adv.nil) (by kernel_rfl) (by kernel_rfl) (p := (List.length l + (0 : Nat) = List.length l ∧ Value.int IntKind.i64 (0 : Int) = Value.int IntKind.i64 (0 : Int) ∧ Heap.mk (nat_lit 10) (Trie.node none (Trie.node none Trie.leaf (Trie.node none (Trie.node (some (Blk.cells [Value.int IntKind.u8 (0 : Int), Value.int IntKind.u8 (0 : Int), Value.int IntKind.u8 (0 : Int), Value.int IntKind.u8 (0 : Int), Value.int IntKind.u8 (0 : Int), Value.int IntKind.u8 (0 : Int), Value.int IntKind.u8 (0 : Int), Value.int IntKind.u8 (0 : Int), Value.int IntKind.u8 (0 : Int), Value.int IntKind.u8 (0 : Int), Value.int IntKind.u8 (0 : Int), Value.int IntKind.u8 (0 : Int), Value.int IntKind.u8 (0 : Int), Value.int IntKind.u8 (0 : Int), Value.int IntKind.u8 (0 : Int), Value.int IntKind.u8 (0 : Int), Value.int IntKind.u8 (0 : Int), Value.int IntKind.u8 (0 : Int), Value.int IntKind.u8 (0 : Int), Value.int IntKind.u8 (0 : Int), Value.int IntKind.u8 (0 : Int), Value.int IntKind.u8 (0 : Int), Value.int IntKind.u8 (0 : Int), Value.int IntKind.u8 (0 : Int), Value.int IntKind.u8 (0 : Int), Value.int IntKind.u8 (0 : Int), Value.int IntKind.u8 (0 : Int), Value.int IntKind.u8 (0 : Int), Value.int IntKind.u8 (0 : Int), Value.int IntKind.u8 (0 : Int)] (nat_lit 23) Mode.fix)) Trie.leaf Trie.leaf) Trie.leaf)) (Trie.node none (Trie.node none (Trie.node (some (Blk.cells (catsL c) (nat_lit 23) Mode.fix)) Trie.leaf Trie.leaf) Trie.leaf) Trie.leaf)) = Heap.mk (nat_lit 10) (Trie.node none (Trie.node none Trie.leaf (Trie.node none (Trie.node (some (Blk.cells [Value.int IntKind.u8 (0 : Int), Value.int IntKind.u8 (0 : Int), Value.int IntKind.u8 (0 : Int), Value.int IntKind.u8 (0 : Int), Value.int IntKind.u8 (0 : Int), Value.int IntKind.u8 (0 : Int), Value.int IntKind.u8 (0 : Int), Value.int IntKind.u8 (0 : Int), Value.int IntKind.u8 (0 : Int), Value.int IntKind.u8 (0 : Int), Value.int IntKind.u8 (0 : Int), Value.int IntKind.u8 (0 : Int), Value.int IntKind.u8 (0 : Int), Value.int IntKind.u8 (0 : Int), Value.int IntKind.u8 (0 : Int), Value.int IntKind.u8 (0 : Int), Value.int IntKind.u8 (0 : Int), Value.int IntKind.u8 (0 : Int), Value.int IntKind.u8 (0 : Int), Value.int IntKind.u8 (0 : Int), Value.int IntKind.u8 (0 : Int), Value.int IntKind.u8 (0 : Int), Value.int IntKind.u8 (0 : Int), Value.int IntKind.u8 (0 : Int), Value.int IntKind.u8 (0 : Int), Value.int IntKind.u8 (0 : Int), Value.int IntKind.u8 (0 : Int), Value.int IntKind.u8 (0 : Int), Value.int IntKind.u8 (0 : Int), Value.int IntKind.u8 (0 : Int)] (nat_lit 23) Mode.fix)) Trie.leaf Trie.leaf) Trie.leaf)) (Trie.node none (Trie.node none (Trie.node (some (Blk.cells (catsL (withoutC c (List.take (0 : Nat) l))) (nat_lit 23) Mode.fix)) Trie.leaf Trie.leaf) Trie.leaf) Trie.leaf))) ∧ ∀ (i8 s8 : Nat) (j8 : Nat → Value), i8 + s8 = List.length l → (decide ((↑s8 : Int) < (↑(List.length l) : Int)) = true → ((0 : Int) ≤ (↑s8 : Int) ∧ (↑s8 : Int) < (↑(List.length l) : Int)) ∧ Ask.holds Tryd.prog (Ask.part (Array.toList (Array.mk (izL l))) (Int.toNat (↑(Int.toNat (↑s8 : Int) * nat_lit 1) : Int)) (nat_lit 1) [Value.int IntKind.i64 (List.getD l s8 (0 : Int))]) ∧ CallK Tryd.prog (nat_lit 54) [Value.int IntKind.i64 (List.getD l s8 (0 : Int))] (Value.bool (rightI (List.getD l s8 (0 : Int)))) ∧ (rightI (List.getD l s8 (0 : Int)) = true → ((0 : Int) ≤ IntKind.wrap IntKind.i64 (Int.tdiv (List.getD l s8 (0 : Int)) (8 : Int)) ∧ IntKind.wrap IntKind.i64 (Int.tdiv (List.getD l s8 (0 : Int)) (8 : Int)) < (30 : Int)) ∧ Ask.holds Tryd.prog (Ask.part (catsL (withoutC c (List.take s8 l))) (nat_lit 0 + Int.toNat (IntKind.wrap IntKind.i64 (Int.tdiv (List.getD l s8 (0 : Int)) (8 : Int))) * nat_lit 1) (nat_lit 1) [Value.int IntKind.u8 (List.getD (withoutC c (List.take s8 l)) (Int.toNat (IntKind.wrap IntKind.i64 (Int.tdiv (List.getD l s8 (0 : Int)) (8 : Int)))) (0 : Int))]) ∧ CallK Tryd.prog (nat_lit 55) [Value.int IntKind.i64 (List.getD l s8 (0 : Int))] (Value.int IntKind.u8 (catBit (List.getD l s8 (0 : Int)))) ∧ ((0 : Int) ≤ IntKind.wrap IntKind.i64 (Int.tdiv (List.getD l s8 (0 : Int)) (8 : Int)) ∧ IntKind.wrap IntKind.i64 (Int.tdiv (List.getD l s8 (0 : Int)) (8 : Int)) < (30 : Int)) ∧ nat_lit 0 + Int.toNat (IntKind.wrap IntKind.i64 (Int.tdiv (List.getD l s8 (0 : Int)) (8 : Int))) * nat_lit 1 + nat_lit 1 ≤ nat_lit 30 ∧ ∃ (i8' : Nat), ∃ (s8' : Nat), i8' < i8 ∧ i8' + s8' = List.length l ∧ Value.int IntKind.i64 (IntKind.wrap IntKind.i64 ((↑s8 : Int) + (1 : Int))) = Value.int IntKind.i64 (↑s8' : Int) ∧ (some (Blk.cells [Value.int IntKind.u8 (0 : Int), Value.int IntKind.u8 (0 : Int), Value.int IntKind.u8 (0 : Int), Value.int IntKind.u8 (0 : Int), Value.int IntKind.u8 (0 : Int), Value.int IntKind.u8 (0 : Int), Value.int IntKind.u8 (0 : Int), Value.int IntKind.u8 (0 : Int), Value.int IntKind.u8 (0 : Int), Value.int IntKind.u8 (0 : Int), Value.int IntKind.u8 (0 : Int), Value.int IntKind.u8 (0 : Int), Value.int IntKind.u8 (0 : Int), Value.int IntKind.u8 (0 : Int), Value.int IntKind.u8 (0 : Int), Value.int IntKind.u8 (0 : Int), Value.int IntKind.u8 (0 : Int), Value.int IntKind.u8 (0 : Int), Value.int IntKind.u8 (0 : Int), Value.int IntKind.u8 (0 : Int), Value.int IntKind.u8 (0 : Int), Value.int IntKind.u8 (0 : Int), Value.int IntKind.u8 (0 : Int), Value.int IntKind.u8 (0 : Int), Value.int IntKind.u8 (0 : Int), Value.int IntKind.u8 (0 : Int), Value.int IntKind.u8 (0 : Int), Value.int IntKind.u8 (0 : Int), Value.int IntKind.u8 (0 : Int), Value.int IntKind.u8 (0 : Int)] (nat_lit 23) Mode.fix) = some (Blk.cells [Value.int IntKind.u8 (0 : Int), Value.int IntKind.u8 (0 : Int), Value.int IntKind.u8 (0 : Int), Value.int IntKind.u8 (0 : Int), Value.int IntKind.u8 (0 : Int), Value.int IntKind.u8 (0 : Int), Value.int IntKind.u8 (0 : Int), Value.int IntKind.u8 (0 : Int), Value.int IntKind.u8 (0 : Int), Value.int IntKind.u8 (0 : Int), Value.int IntKind.u8 (0 : Int), Value.int IntKind.u8 (0 : Int), Value.int IntKind.u8 (0 : Int), Value.int IntKind.u8 (0 : Int), Value.int IntKind.u8 (0 : Int), Value.int IntKind.u8 (0 : Int), Value.int IntKind.u8 (0 : Int), Value.int IntKind.u8 (0 : Int), Value.int IntKind.u8 (0 : Int), Value.int IntKind.u8 (0 : Int), Value.int IntKind.u8 (0 : Int), Value.int IntKind.u8 (0 : Int), Value.int IntKind.u8 (0 : Int), Value.int IntKind.u8 (0 : Int), Value.int IntKind.u8 (0 : Int), Value.int IntKind.u8 (0 : Int), Value.int IntKind.u8 (0 : Int), Value.int IntKind.u8 (0 : Int), Value.int IntKind.u8 (0 : Int), Value.int IntKind.u8 (0 : Int)] (nat_lit 23) Mode.fix) ∧ some (Blk.cells (splice (catsL (withoutC c (List.take s8 l))) (nat_lit 0 + Int.toNat (IntKind.wrap IntKind.i64 (Int.tdiv (List.getD l s8 (0 : Int)) (8 : Int))) * nat_lit 1) (Value.cellList (Value.int IntKind.u8 (IntKind.wrap IntKind.u8 (↑(BitVec.toNat (BitVec.ofInt (IntKind.bits IntKind.u8) (List.getD (withoutC c (List.take s8 l)) (Int.toNat (IntKind.wrap IntKind.i64 (Int.tdiv (List.getD l s8 (0 : Int)) (8 : Int)))) (0 : Int)) &&& ~~~BitVec.ofInt (IntKind.bits IntKind.u8) (catBit (List.getD l s8 (0 : Int))))) : Int))))) (nat_lit 23) Mode.fix) = some (Blk.cells (catsL (withoutC c (List.take s8' l))) (nat_lit 23) Mode.fix) ∧ True) ∧ true = true ∧ true = true ∧ true = true ∧ True) ∧ (rightI (List.getD l s8 (0 : Int)) = false → ∃ (i8' : Nat), ∃ (s8' : Nat), i8' < i8 ∧ i8' + s8' = List.length l ∧ Value.int IntKind.i64 (IntKind.wrap IntKind.i64 ((↑s8 : Int) + (1 : Int))) = Value.int IntKind.i64 (↑s8' : Int) ∧ (some (Blk.cells [Value.int IntKind.u8 (0 : Int), Value.int IntKind.u8 (0 : Int), Value.int IntKind.u8 (0 : Int), Value.int IntKind.u8 (0 : Int), Value.int IntKind.u8 (0 : Int), Value.int IntKind.u8 (0 : Int), Value.int IntKind.u8 (0 : Int), Value.int IntKind.u8 (0 : Int), Value.int IntKind.u8 (0 : Int), Value.int IntKind.u8 (0 : Int), Value.int IntKind.u8 (0 : Int), Value.int IntKind.u8 (0 : Int), Value.int IntKind.u8 (0 : Int), Value.int IntKind.u8 (0 : Int), Value.int IntKind.u8 (0 : Int), Value.int IntKind.u8 (0 : Int), Value.int IntKind.u8 (0 : Int), Value.int IntKind.u8 (0 : Int), Value.int IntKind.u8 (0 : Int), Value.int IntKind.u8 (0 : Int), Value.int IntKind.u8 (0 : Int), Value.int IntKind.u8 (0 : Int), Value.int IntKind.u8 (0 : Int), Value.int IntKind.u8 (0 : Int), Value.int IntKind.u8 (0 : Int), Value.int IntKind.u8 (0 : Int), Value.int IntKind.u8 (0 : Int), Value.int IntKind.u8 (0 : Int), Value.int IntKind.u8 (0 : Int), Value.int IntKind.u8 (0 : Int)] (nat_lit 23) Mode.fix) = some (Blk.cells [Value.int IntKind.u8 (0 : Int), Value.int IntKind.u8 (0 : Int), Value.int IntKind.u8 (0 : Int), Value.int IntKind.u8 (0 : Int), Value.int IntKind.u8 (0 : Int), Value.int IntKind.u8 (0 : Int), Value.int IntKind.u8 (0 : Int), Value.int IntKind.u8 (0 : Int), Value.int IntKind.u8 (0 : Int), Value.int IntKind.u8 (0 : Int), Value.int IntKind.u8 (0 : Int), Value.int IntKind.u8 (0 : Int), Value.int IntKind.u8 (0 : Int), Value.int IntKind.u8 (0 : Int), Value.int IntKind.u8 (0 : Int), Value.int IntKind.u8 (0 : Int), Value.int IntKind.u8 (0 : Int), Value.int IntKind.u8 (0 : Int), Value.int IntKind.u8 (0 : Int), Value.int IntKind.u8 (0 : Int), Value.int IntKind.u8 (0 : Int), Value.int IntKind.u8 (0 : Int), Value.int IntKind.u8 (0 : Int), Value.int IntKind.u8 (0 : Int), Value.int IntKind.u8 (0 : Int), Value.int IntKind.u8 (0 : Int), Value.int IntKind.u8 (0 : Int), Value.int IntKind.u8 (0 : Int), Value.int IntKind.u8 (0 : Int), Value.int IntKind.u8 (0 : Int)] (nat_lit 23) Mode.fix) ∧ some (Blk.cells (catsL (withoutC c (List.take s8 l))) (nat_lit 23) Mode.fix) = some (Blk.cells (catsL (withoutC c (List.take s8' l))) (nat_lit 23) Mode.fix) ∧ True) ∧ true = true ∧ true = true ∧ true = true ∧ True)) ∧ (decide ((↑s8 : Int) < (↑(List.length l) : Int)) = false → Value.agg (Array.mk (catsL (withoutC c (List.take s8 l)))) = catsV (withoutC c l))) (by kernel_rfl) (by
    refine ⟨⟨by omega, rfl, rfl⟩, fun i k j q1 => ⟨fun h1 => ?_, fun h1 => ?_⟩⟩
    · have hk : k < l.length := by have := of_decide_eq_true h1; omega
      have hs : withoutC c (l.take (k + 1)) = sub1 (withoutC c (l.take k)) (l.getD k 0) := take_add hk
      refine ⟨⟨by omega, by omega⟩, iz_part hk rfl, right54_w _, fun h2 => ?_, fun h2 => ?_⟩
      · obtain ⟨e1, e2, e3, e4⟩ := q8 h2
        rw [e1]
        refine ⟨⟨e2, e3⟩, catsL_part _ _ e4, bit55_w _ (rightI_iff.1 h2).1, ⟨e2, e3⟩, nle30 e4, i - 1, k + 1, by omega, by omega, wrap_next k (by omega), ⟨rfl, ?_, trivial⟩, rfl, rfl, rfl, trivial⟩
        rw [splice_set _ e4, hs]
        unfold sub1
        rw [h2]
        rfl
      · refine ⟨i - 1, k + 1, by omega, by omega, wrap_next k (by omega), ⟨rfl, ?_, trivial⟩, rfl, rfl, rfl, trivial⟩
        rw [hs]
        unfold sub1
        rw [h2]
    · have hk : k = l.length := by have := of_decide_eq_false h1; omega
      subst hk
      rw [List.take_length]
      rfl)
theorem list_w (c : List Int) (hc : CatsOK c) : CallK Tryd.prog 23 [catsV c] (izV (listC c)) := CallK.coe progOK (pfs []) [3] 100 (Adv.weak (8 : Nat) [(nat_lit 3, Value.iface (nat_lit 1000003) (Value.tuple (Array.mk [Value.int IntKind.i64 (9 : Int), Value.int IntKind.i64 (1 : Int), Value.int IntKind.i64 (0 : Int), Value.agg (Array.mk [])])))] (Heap.mk (nat_lit 10) (Trie.node none (Trie.node none Trie.leaf (Trie.node none (Trie.node (some (Blk.own (nat_lit 0) (nat_lit 3))) Trie.leaf Trie.leaf) Trie.leaf)) (Trie.node none (Trie.node none (Trie.node (some (Blk.cells (catsL c) (nat_lit 23) Mode.fix)) Trie.leaf Trie.leaf) Trie.leaf) Trie.leaf))) (Adv.loop (9 : Nat) (fun (k : Nat) => [((5 : Nat), Value.int IntKind.i64 (↑k : Int)), ((3 : Nat), osl (9 : Nat) (1 : Nat) (↑(List.length (listN c k)) : Int) (List.toArray (izL (listN c k))))]) ((fun (h : Heap) (k : Nat) => Heap.set h (9 : Nat) (Blk.own (List.length (listN c k)) (3 : TypeId))) (Heap.mk (nat_lit 10) (Trie.node none (Trie.node none Trie.leaf (Trie.node none (Trie.node (some (Blk.own (nat_lit 0) (nat_lit 3))) Trie.leaf Trie.leaf) Trie.leaf)) (Trie.node none (Trie.node none (Trie.node (some (Blk.cells (catsL c) (nat_lit 23) Mode.fix)) Trie.leaf Trie.leaf) Trie.leaf) Trie.leaf)))) (fun (i k : Nat) => i + k = (240 : Nat)) (240 : Nat) (0 : Nat) fun (i9 s9 : Nat) (j9 : Nat → Value) => Adv.split (11 : Nat) (Adv.purs (21 : Nat) (hasC c (↑s9 : Int)) (Adv.chk (26 : Nat) none Adv.nil) Adv.nil) Adv.nil)) (by kernel_rfl) (by kernel_rfl) (p := Weak Tryd.prog [Value.agg (Array.mk (catsL c)), Value.pointer (some (Addr.mk (nat_lit 8) (nat_lit 0) none)), Value.slice none (nat_lit 0) (nat_lit 0), Value.slice none (nat_lit 0) (nat_lit 0), Value.tuple (Array.mk []), Value.int IntKind.i64 (0 : Int), Value.tuple (Array.mk []), Value.tuple (Array.mk []), Value.tuple (Array.mk []), Value.tuple (Array.mk []), Value.tuple (Array.mk []), Value.tuple (Array.mk []), Value.tuple (Array.mk []), Value.tuple (Array.mk []), Value.tuple (Array.mk []), Value.tuple (Array.mk []), Value.tuple (Array.mk [])] (Heap.mk (nat_lit 9) (Trie.node none Trie.leaf (Trie.node none (Trie.node none (Trie.node (some (Blk.cells (catsL c) (nat_lit 23) Mode.fix)) Trie.leaf Trie.leaf) Trie.leaf) Trie.leaf))) [Value.agg (Array.mk (catsL c)), Value.pointer (some (Addr.mk (nat_lit 8) (nat_lit 0) none)), Value.slice none (nat_lit 0) (nat_lit 0), Value.iface (nat_lit 1000003) (Value.tuple (Array.mk [Value.int IntKind.i64 (9 : Int), Value.int IntKind.i64 (1 : Int), Value.int IntKind.i64 (0 : Int), Value.agg (Array.mk [])])), Value.tuple (Array.mk []), Value.int IntKind.i64 (0 : Int), Value.tuple (Array.mk []), Value.tuple (Array.mk []), Value.tuple (Array.mk []), Value.tuple (Array.mk []), Value.tuple (Array.mk []), Value.tuple (Array.mk []), Value.tuple (Array.mk []), Value.tuple (Array.mk []), Value.tuple (Array.mk []), Value.tuple (Array.mk []), Value.tuple (Array.mk [])] (Heap.mk (nat_lit 10) (Trie.node none (Trie.node none Trie.leaf (Trie.node none (Trie.node (some (Blk.own (nat_lit 0) (nat_lit 3))) Trie.leaf Trie.leaf) Trie.leaf)) (Trie.node none (Trie.node none (Trie.node (some (Blk.cells (catsL c) (nat_lit 23) Mode.fix)) Trie.leaf Trie.leaf) Trie.leaf) Trie.leaf))) ∧ ((240 : Nat) + (0 : Nat) = (240 : Nat) ∧ (Value.int IntKind.i64 (0 : Int) = Value.int IntKind.i64 (0 : Int) ∧ Value.iface (nat_lit 1000003) (Value.tuple (Array.mk [Value.int IntKind.i64 (9 : Int), Value.int IntKind.i64 (1 : Int), Value.int IntKind.i64 (0 : Int), Value.agg (Array.mk [])])) = Value.iface (nat_lit 1000003) (Value.tuple (Array.mk [Value.int IntKind.i64 (9 : Int), Value.int IntKind.i64 (1 : Int), Value.int IntKind.i64 (0 : Int), Value.agg (Array.mk [])]))) ∧ Heap.mk (nat_lit 10) (Trie.node none (Trie.node none Trie.leaf (Trie.node none (Trie.node (some (Blk.own (nat_lit 0) (nat_lit 3))) Trie.leaf Trie.leaf) Trie.leaf)) (Trie.node none (Trie.node none (Trie.node (some (Blk.cells (catsL c) (nat_lit 23) Mode.fix)) Trie.leaf Trie.leaf) Trie.leaf) Trie.leaf)) = Heap.mk (nat_lit 10) (Trie.node none (Trie.node none Trie.leaf (Trie.node none (Trie.node (some (Blk.own (nat_lit 0) (nat_lit 3))) Trie.leaf Trie.leaf) Trie.leaf)) (Trie.node none (Trie.node none (Trie.node (some (Blk.cells (catsL c) (nat_lit 23) Mode.fix)) Trie.leaf Trie.leaf) Trie.leaf) Trie.leaf))) ∧ ∀ (i9 s9 : Nat) (j9 : Nat → Value), i9 + s9 = (240 : Nat) → (decide ((↑s9 : Int) < (240 : Int)) = true → CallK Tryd.prog (nat_lit 20) [Value.agg (Array.mk (catsL c)), Value.int IntKind.i64 (↑s9 : Int)] (Value.bool (hasC c (↑s9 : Int))) ∧ (hasC c (↑s9 : Int) = true → (List.length (Array.toList (Array.mk (izL (listN c s9)))) = List.length (listN c s9) ∧ ((↑(List.length (listN c s9)) : Int) + (↑(nat_lit 1) : Int)) * ((↑(TypeInfo.bytes (Tables.types (Program.toTables Tryd.prog))[(3 : Nat)]) : Int) + (1 : Int)) ≤ (1099511627776 : Int)) ∧ ∃ (i9' : Nat), ∃ (s9' : Nat), i9' < i9 ∧ i9' + s9' = (240 : Nat) ∧ (Value.int IntKind.i64 (IntKind.wrap IntKind.i64 ((↑s9 : Int) + (1 : Int))) = Value.int IntKind.i64 (↑s9' : Int) ∧ Value.iface (nat_lit 1000003) (Value.tuple (Array.mk [Value.int IntKind.i64 (9 : Int), Value.int IntKind.i64 (1 : Int), Value.int IntKind.i64 ((↑(List.length (listN c s9)) : Int) + (↑(nat_lit 1) : Int)), Value.agg (Array.mk (Array.toList (Array.mk (izL (listN c s9))) ++ List.take (nat_lit 1 * Int.toNat (1 : Int)) (List.drop (nat_lit 0) [Value.int IntKind.i64 (↑s9 : Int)])))])) = Value.iface (nat_lit 1000003) (Value.tuple (Array.mk [Value.int IntKind.i64 (9 : Int), Value.int IntKind.i64 (1 : Int), Value.int IntKind.i64 (↑(List.length (listN c s9')) : Int), Value.agg (Array.mk (izL (listN c s9')))]))) ∧ (some (Blk.own (List.length (listN c s9) + List.length (List.take (nat_lit 1 * Int.toNat (1 : Int)) (List.drop (nat_lit 0) [Value.int IntKind.i64 (↑s9 : Int)]))) (nat_lit 3)) = some (Blk.own (List.length (listN c s9')) (nat_lit 3)) ∧ some (Blk.cells (catsL c) (nat_lit 23) Mode.fix) = some (Blk.cells (catsL c) (nat_lit 23) Mode.fix) ∧ True) ∧ true = true ∧ true = true ∧ True) ∧ (hasC c (↑s9 : Int) = false → ∃ (i9' : Nat), ∃ (s9' : Nat), i9' < i9 ∧ i9' + s9' = (240 : Nat) ∧ (Value.int IntKind.i64 (IntKind.wrap IntKind.i64 ((↑s9 : Int) + (1 : Int))) = Value.int IntKind.i64 (↑s9' : Int) ∧ Value.iface (nat_lit 1000003) (Value.tuple (Array.mk [Value.int IntKind.i64 (9 : Int), Value.int IntKind.i64 (1 : Int), Value.int IntKind.i64 (↑(List.length (listN c s9)) : Int), Value.agg (Array.mk (izL (listN c s9)))])) = Value.iface (nat_lit 1000003) (Value.tuple (Array.mk [Value.int IntKind.i64 (9 : Int), Value.int IntKind.i64 (1 : Int), Value.int IntKind.i64 (↑(List.length (listN c s9')) : Int), Value.agg (Array.mk (izL (listN c s9')))]))) ∧ (some (Blk.own (List.length (listN c s9)) (nat_lit 3)) = some (Blk.own (List.length (listN c s9')) (nat_lit 3)) ∧ some (Blk.cells (catsL c) (nat_lit 23) Mode.fix) = some (Blk.cells (catsL c) (nat_lit 23) Mode.fix) ∧ True) ∧ true = true ∧ true = true ∧ True)) ∧ (decide ((↑s9 : Int) < (240 : Int)) = false → Ideal.Coe (Value.iface (nat_lit 1000003) (Value.tuple (Array.mk [Value.int IntKind.i64 (9 : Int), Value.int IntKind.i64 (1 : Int), Value.int IntKind.i64 (↑(List.length (listN c s9)) : Int), Value.agg (Array.mk (izL (listN c s9)))]))) (izV (listC c)))) (by kernel_rfl) (by
    refine ⟨Weak.own' 3 1 3 (by rfl) (by rfl) (by rfl), ⟨by omega, ⟨rfl, rfl⟩, rfl⟩, fun i k j q1 => ⟨fun h1 => ?_, fun h1 => ?_⟩⟩
    · have hk : k < 240 := by have := of_decide_eq_true h1; omega
      refine ⟨hasp_w _ _ hc, fun h2 => ⟨⟨izL_length _, ?_⟩, i - 1, k + 1, by omega, by omega, ⟨wrap_next k (by omega), (isl_yes h2).1⟩, ⟨(isl_yes (tok := 9) h2).2, rfl, trivial⟩, rfl, rfl, trivial⟩, fun h2 => ⟨i - 1, k + 1, by omega, by omega, ⟨wrap_next k (by omega), by rw [isl_no h2]⟩, ⟨by rw [isl_no h2], rfl, trivial⟩, rfl, rfl, trivial⟩⟩
      exact mul_room 1001 1000 (show ((listN c k).length : Int) + 1 ≤ 1001 by have := listN_length c k; omega) (by have := i64_bytes; omega) (by have := i64_bytes; omega) (by decide) (by decide)
    · have hk : k = 240 := by have := of_decide_eq_false h1; omega
      subst hk
      exact Coe.os 9 1 _ _)
theorem refList_w (c : List Int) : CallK Tryd.prog 17 [catsV c] (izV (listC c)) := CallK.coe progOK (pfs []) [3] 100 (Adv.weak (8 : Nat) [(nat_lit 3, Value.iface (nat_lit 1000003) (Value.tuple (Array.mk [Value.int IntKind.i64 (9 : Int), Value.int IntKind.i64 (1 : Int), Value.int IntKind.i64 (0 : Int), Value.agg (Array.mk [])])))] (Heap.mk (nat_lit 10) (Trie.node none (Trie.node none Trie.leaf (Trie.node none (Trie.node (some (Blk.own (nat_lit 0) (nat_lit 3))) Trie.leaf Trie.leaf) Trie.leaf)) (Trie.node none (Trie.node none (Trie.node (some (Blk.cells (catsL c) (nat_lit 23) Mode.fix)) Trie.leaf Trie.leaf) Trie.leaf) Trie.leaf))) (Adv.loop (9 : Nat) (fun (k : Nat) => [((4 : Nat), Value.int IntKind.i64 (↑k : Int)), ((3 : Nat), osl (9 : Nat) (1 : Nat) (↑(List.length (listN c k)) : Int) (List.toArray (izL (listN c k))))]) ((fun (h : Heap) (k : Nat) => Heap.set h (9 : Nat) (Blk.own (List.length (listN c k)) (3 : TypeId))) (Heap.mk (nat_lit 10) (Trie.node none (Trie.node none Trie.leaf (Trie.node none (Trie.node (some (Blk.own (nat_lit 0) (nat_lit 3))) Trie.leaf Trie.leaf) Trie.leaf)) (Trie.node none (Trie.node none (Trie.node (some (Blk.cells (catsL c) (nat_lit 23) Mode.fix)) Trie.leaf Trie.leaf) Trie.leaf) Trie.leaf)))) (fun (i k : Nat) => i + k = (240 : Nat)) (240 : Nat) (0 : Nat) fun (i9 s9 : Nat) (j9 : Nat → Value) => Adv.split (13 : Nat) (Adv.purs (19 : Nat) (hasC c (↑s9 : Int)) (Adv.chk (24 : Nat) none Adv.nil) Adv.nil) Adv.nil)) (by kernel_rfl) (by kernel_rfl) (p := Weak Tryd.prog [Value.agg (Array.mk (catsL c)), Value.pointer (some (Addr.mk (nat_lit 8) (nat_lit 0) none)), Value.slice none (nat_lit 0) (nat_lit 0), Value.slice none (nat_lit 0) (nat_lit 0), Value.int IntKind.i64 (0 : Int), Value.tuple (Array.mk []), Value.tuple (Array.mk []), Value.tuple (Array.mk []), Value.tuple (Array.mk []), Value.tuple (Array.mk []), Value.tuple (Array.mk []), Value.tuple (Array.mk []), Value.tuple (Array.mk []), Value.tuple (Array.mk []), Value.tuple (Array.mk []), Value.tuple (Array.mk []), Value.tuple (Array.mk [])] (Heap.mk (nat_lit 9) (Trie.node none Trie.leaf (Trie.node none (Trie.node none (Trie.node (some (Blk.cells (catsL c) (nat_lit 23) Mode.fix)) Trie.leaf Trie.leaf) Trie.leaf) Trie.leaf))) [Value.agg (Array.mk (catsL c)), Value.pointer (some (Addr.mk (nat_lit 8) (nat_lit 0) none)), Value.slice none (nat_lit 0) (nat_lit 0), Value.iface (nat_lit 1000003) (Value.tuple (Array.mk [Value.int IntKind.i64 (9 : Int), Value.int IntKind.i64 (1 : Int), Value.int IntKind.i64 (0 : Int), Value.agg (Array.mk [])])), Value.int IntKind.i64 (0 : Int), Value.tuple (Array.mk []), Value.tuple (Array.mk []), Value.tuple (Array.mk []), Value.tuple (Array.mk []), Value.tuple (Array.mk []), Value.tuple (Array.mk []), Value.tuple (Array.mk []), Value.tuple (Array.mk []), Value.tuple (Array.mk []), Value.tuple (Array.mk []), Value.tuple (Array.mk []), Value.tuple (Array.mk [])] (Heap.mk (nat_lit 10) (Trie.node none (Trie.node none Trie.leaf (Trie.node none (Trie.node (some (Blk.own (nat_lit 0) (nat_lit 3))) Trie.leaf Trie.leaf) Trie.leaf)) (Trie.node none (Trie.node none (Trie.node (some (Blk.cells (catsL c) (nat_lit 23) Mode.fix)) Trie.leaf Trie.leaf) Trie.leaf) Trie.leaf))) ∧ ((240 : Nat) + (0 : Nat) = (240 : Nat) ∧ (Value.int IntKind.i64 (0 : Int) = Value.int IntKind.i64 (0 : Int) ∧ Value.iface (nat_lit 1000003) (Value.tuple (Array.mk [Value.int IntKind.i64 (9 : Int), Value.int IntKind.i64 (1 : Int), Value.int IntKind.i64 (0 : Int), Value.agg (Array.mk [])])) = Value.iface (nat_lit 1000003) (Value.tuple (Array.mk [Value.int IntKind.i64 (9 : Int), Value.int IntKind.i64 (1 : Int), Value.int IntKind.i64 (0 : Int), Value.agg (Array.mk [])]))) ∧ Heap.mk (nat_lit 10) (Trie.node none (Trie.node none Trie.leaf (Trie.node none (Trie.node (some (Blk.own (nat_lit 0) (nat_lit 3))) Trie.leaf Trie.leaf) Trie.leaf)) (Trie.node none (Trie.node none (Trie.node (some (Blk.cells (catsL c) (nat_lit 23) Mode.fix)) Trie.leaf Trie.leaf) Trie.leaf) Trie.leaf)) = Heap.mk (nat_lit 10) (Trie.node none (Trie.node none Trie.leaf (Trie.node none (Trie.node (some (Blk.own (nat_lit 0) (nat_lit 3))) Trie.leaf Trie.leaf) Trie.leaf)) (Trie.node none (Trie.node none (Trie.node (some (Blk.cells (catsL c) (nat_lit 23) Mode.fix)) Trie.leaf Trie.leaf) Trie.leaf) Trie.leaf))) ∧ ∀ (i9 s9 : Nat) (j9 : Nat → Value), i9 + s9 = (240 : Nat) → (decide ((↑s9 : Int) < (240 : Int)) = true → CallK Tryd.prog (nat_lit 21) [Value.agg (Array.mk (catsL c)), Value.int IntKind.i64 (↑s9 : Int)] (Value.bool (hasC c (↑s9 : Int))) ∧ (hasC c (↑s9 : Int) = true → (List.length (Array.toList (Array.mk (izL (listN c s9)))) = List.length (listN c s9) ∧ ((↑(List.length (listN c s9)) : Int) + (↑(nat_lit 1) : Int)) * ((↑(TypeInfo.bytes (Tables.types (Program.toTables Tryd.prog))[(3 : Nat)]) : Int) + (1 : Int)) ≤ (1099511627776 : Int)) ∧ ∃ (i9' : Nat), ∃ (s9' : Nat), i9' < i9 ∧ i9' + s9' = (240 : Nat) ∧ (Value.int IntKind.i64 (IntKind.wrap IntKind.i64 ((↑s9 : Int) + (1 : Int))) = Value.int IntKind.i64 (↑s9' : Int) ∧ Value.iface (nat_lit 1000003) (Value.tuple (Array.mk [Value.int IntKind.i64 (9 : Int), Value.int IntKind.i64 (1 : Int), Value.int IntKind.i64 ((↑(List.length (listN c s9)) : Int) + (↑(nat_lit 1) : Int)), Value.agg (Array.mk (Array.toList (Array.mk (izL (listN c s9))) ++ List.take (nat_lit 1 * Int.toNat (1 : Int)) (List.drop (nat_lit 0) [Value.int IntKind.i64 (↑s9 : Int)])))])) = Value.iface (nat_lit 1000003) (Value.tuple (Array.mk [Value.int IntKind.i64 (9 : Int), Value.int IntKind.i64 (1 : Int), Value.int IntKind.i64 (↑(List.length (listN c s9')) : Int), Value.agg (Array.mk (izL (listN c s9')))]))) ∧ (some (Blk.own (List.length (listN c s9) + List.length (List.take (nat_lit 1 * Int.toNat (1 : Int)) (List.drop (nat_lit 0) [Value.int IntKind.i64 (↑s9 : Int)]))) (nat_lit 3)) = some (Blk.own (List.length (listN c s9')) (nat_lit 3)) ∧ some (Blk.cells (catsL c) (nat_lit 23) Mode.fix) = some (Blk.cells (catsL c) (nat_lit 23) Mode.fix) ∧ True) ∧ true = true ∧ true = true ∧ True) ∧ (hasC c (↑s9 : Int) = false → ∃ (i9' : Nat), ∃ (s9' : Nat), i9' < i9 ∧ i9' + s9' = (240 : Nat) ∧ (Value.int IntKind.i64 (IntKind.wrap IntKind.i64 ((↑s9 : Int) + (1 : Int))) = Value.int IntKind.i64 (↑s9' : Int) ∧ Value.iface (nat_lit 1000003) (Value.tuple (Array.mk [Value.int IntKind.i64 (9 : Int), Value.int IntKind.i64 (1 : Int), Value.int IntKind.i64 (↑(List.length (listN c s9)) : Int), Value.agg (Array.mk (izL (listN c s9)))])) = Value.iface (nat_lit 1000003) (Value.tuple (Array.mk [Value.int IntKind.i64 (9 : Int), Value.int IntKind.i64 (1 : Int), Value.int IntKind.i64 (↑(List.length (listN c s9')) : Int), Value.agg (Array.mk (izL (listN c s9')))]))) ∧ (some (Blk.own (List.length (listN c s9)) (nat_lit 3)) = some (Blk.own (List.length (listN c s9')) (nat_lit 3)) ∧ some (Blk.cells (catsL c) (nat_lit 23) Mode.fix) = some (Blk.cells (catsL c) (nat_lit 23) Mode.fix) ∧ True) ∧ true = true ∧ true = true ∧ True)) ∧ (decide ((↑s9 : Int) < (240 : Int)) = false → Ideal.Coe (Value.iface (nat_lit 1000003) (Value.tuple (Array.mk [Value.int IntKind.i64 (9 : Int), Value.int IntKind.i64 (1 : Int), Value.int IntKind.i64 (↑(List.length (listN c s9)) : Int), Value.agg (Array.mk (izL (listN c s9)))]))) (izV (listC c)))) (by kernel_rfl) (by
    refine ⟨Weak.own' 3 1 3 (by rfl) (by rfl) (by rfl), ⟨by omega, ⟨rfl, rfl⟩, rfl⟩, fun i k j q1 => ⟨fun h1 => ?_, fun h1 => ?_⟩⟩
    · have hk : k < 240 := by have := of_decide_eq_true h1; omega
      refine ⟨has_w _ _, fun h2 => ⟨⟨izL_length _, ?_⟩, i - 1, k + 1, by omega, by omega, ⟨wrap_next k (by omega), (isl_yes h2).1⟩, ⟨(isl_yes (tok := 9) h2).2, rfl, trivial⟩, rfl, rfl, trivial⟩, fun h2 => ⟨i - 1, k + 1, by omega, by omega, ⟨wrap_next k (by omega), by rw [isl_no h2]⟩, ⟨by rw [isl_no h2], rfl, trivial⟩, rfl, rfl, trivial⟩⟩
      exact mul_room 1001 1000 (show ((listN c k).length : Int) + 1 ≤ 1001 by have := listN_length c k; omega) (by have := i64_bytes; omega) (by have := i64_bytes; omega) (by decide) (by decide)
    · have hk : k = 240 := by have := of_decide_eq_false h1; omega
      subst hk
      exact Coe.os 9 1 _ _)
end Go.Proofs.YtidlganponfccaaDoor

end
section
/- Sets told: what the functions answer. -/
set_option linter.unusedVariables false
set_option linter.unusedSimpArgs false
set_option maxRecDepth 100000
namespace Go.Proofs.YtidlganponfccaaDoor
open Go Go.Ideal
theorem one_size (c : UInt8) : (ByteArray.mk #[c]).size = 1 := rfl
theorem run_w (lo hi : Int) (h0 : 0 ≤ lo) (h1 : lo ≤ hi) (h2 : hi ≤ 1000) : CallK Tryd.prog 57 [.int .i64 lo, .int .i64 hi] (.string (bs (runZ lo hi))) := CallK.via progOK (pfs []) [] 100 (Adv.pur (4 : Nat) (Value.string (bs (Lib.itoa lo))) (Adv.split (12 : Nat) Adv.nil (Adv.split (16 : Nat) (Adv.chk (21 : Nat) none (Adv.pur (23 : Nat) (Value.string (bs (Lib.itoa hi))) (Adv.chk (24 : Nat) none Adv.nil))) (Adv.chk (21 : Nat) none (Adv.pur (23 : Nat) (Value.string (bs (Lib.itoa hi))) (Adv.chk (24 : Nat) none Adv.nil)))))) (by kernel_rfl) (by kernel_rfl) (p := CallK Tryd.prog (nat_lit 62) [Value.int IntKind.i64 lo] (Value.string (bs (Lib.itoa lo))) ∧ ((IntKind.wrap IntKind.i64 (hi - lo) == (0 : Int)) = true → Value.string (bs (Lib.itoa lo)) = Value.string (bs (runZ lo hi))) ∧ ((IntKind.wrap IntKind.i64 (hi - lo) == (0 : Int)) = false → ((IntKind.wrap IntKind.i64 (hi - lo) == (1 : Int)) = true → (↑(ByteArray.size (bs (Lib.itoa lo)) + ByteArray.size (ByteArray.mk #[(44 : UInt8)])) : Int) ≤ (9223372036854775807 : Int) ∧ CallK Tryd.prog (nat_lit 62) [Value.int IntKind.i64 hi] (Value.string (bs (Lib.itoa hi))) ∧ (↑(ByteArray.size (bs (Lib.itoa lo) ++ ByteArray.mk #[(44 : UInt8)]) + ByteArray.size (bs (Lib.itoa hi))) : Int) ≤ (9223372036854775807 : Int) ∧ Value.string (bs (Lib.itoa lo) ++ ByteArray.mk #[(44 : UInt8)] ++ bs (Lib.itoa hi)) = Value.string (bs (runZ lo hi))) ∧ ((IntKind.wrap IntKind.i64 (hi - lo) == (1 : Int)) = false → (↑(ByteArray.size (bs (Lib.itoa lo)) + ByteArray.size (ByteArray.mk #[(45 : UInt8)])) : Int) ≤ (9223372036854775807 : Int) ∧ CallK Tryd.prog (nat_lit 62) [Value.int IntKind.i64 hi] (Value.string (bs (Lib.itoa hi))) ∧ (↑(ByteArray.size (bs (Lib.itoa lo) ++ ByteArray.mk #[(45 : UInt8)]) + ByteArray.size (bs (Lib.itoa hi))) : Int) ≤ (9223372036854775807 : Int) ∧ Value.string (bs (Lib.itoa lo) ++ ByteArray.mk #[(45 : UInt8)] ++ bs (Lib.itoa hi)) = Value.string (bs (runZ lo hi))))) (by kernel_rfl) (by
    have a := itoa_len h0 (by omega : lo ≤ 1000)
    have b := itoa_len (by omega : 0 ≤ hi) h2
    have hw : IntKind.i64.wrap (hi - lo) = hi - lo := wrap_in (by omega) (by omega)
    simp only [hw, bs_append_size, bs_size, one_size, bs_app, beq_iff_eq, beq_eq_false_iff_ne]
    refine ⟨itoaAny_w lo h0 (by omega), fun e => congrArg (fun x => Value.string (bs x)) ?_, fun e => ⟨fun e2 => ⟨by omega, itoaAny_w hi (by omega) (by omega), by omega, congrArg (fun x => Value.string (bs x)) ?_⟩, fun e2 => ⟨by omega, itoaAny_w hi (by omega) (by omega), by omega, congrArg (fun x => Value.string (bs x)) ?_⟩⟩⟩
    · unfold runZ; rw [if_pos e]
    · unfold runZ; rw [if_neg e, if_pos e2]
    · unfold runZ; rw [if_neg e, if_neg e2])
theorem join_one (l : List Bs) (c : UInt8) : Lib.join l [c] = gumL c l := by
  unfold Lib.join
  induction l with
  | nil => rfl
  | cons p ps ih =>
    cases ps with
    | nil => simp [gumL, List.intercalate]
    | cons q qs =>
      rw [gumL, ← ih]
      simp [List.intercalate, List.intersperse]
theorem joinAny_w (xs : List Bs) (h0 : 0 < xs.length) (hN : xs.length ≤ 1000) (hl : (gumL 44 xs).length ≤ 100000) :
    CallK Tryd.prog 58 [vsl xs.length (strsV xs).toArray, .string (ByteArray.mk #[44])] (.string (bs (gumL 44 xs))) :=
  CallK.ofBelow rfl fun σ w args' hF hr => by
    obtain ⟨v1, v2, rfl, h1, h2⟩ : ∃ v1 v2, args' = #[v1, v2] ∧ VRel σ (vsl xs.length (strsV xs).toArray) v1 ∧ VRel σ (.string (ByteArray.mk #[44])) v2 := by
      generalize hl : args'.toList = l at hr
      cases hr with
      | cons h1 h2 => cases h2 with
        | cons h3 h4 => cases h4; exact ⟨_, _, Array.toList_inj.1 hl, h1, h3⟩
    obtain rfl := flat_eq rfl h2
    obtain ⟨b, o, cc, rfl, hc, hb, hx⟩ := vsl_cells hF h0 (cs := strsV xs) (strsV_len xs) (List.all_eq_true.2 fun x hx => by obtain ⟨y, _, rfl⟩ := List.mem_map.1 hx; rfl) h1
    have e : Lib.join ((xs.map bs).map (·.data.toList)) [44] = gumL 44 xs := by
      rw [List.map_map]
      have : ((fun x : ByteArray => x.data.toList) ∘ bs) = id := by funext l; exact bs_list l
      rw [this, List.map_id, join_one]
    have := Shelf.strings_Join b o cc (xs.map bs) (ByteArray.mk #[44]) w (fun j x hj => hx j _ (by
      rw [List.getElem?_map] at hj
      unfold strsV
      rw [List.getElem?_map]
      cases hj2 : xs[j]? with
      | none => rw [hj2] at hj; cases hj
      | some y => rw [hj2] at hj; cases hj; rfl)) hb (by simp; omega) (by simpa using hc) (by show (Lib.join _ [44]).length ≤ _; rw [e]; omega)
    have e2 : Lib.join ((xs.map bs).map (·.data.toList)) (ByteArray.mk #[44]).data.toList = gumL 44 xs := e
    rw [e2, List.length_map] at this
    exact this
theorem strs_yes {tok : Nat} {l : List Bs} {p q : Bs} (e : q = p) : osl tok 1 ((l.length : Int) + 1) ⟨strsV l ++ [.string (bs q)]⟩ = osl tok 1 ((l ++ [p]).length : Nat) (strsV (l ++ [p])).toArray ∧
    some (Blk.own (l.length + 1) 9) = some (Blk.own (l ++ [p]).length 9) := by
  subst e
  have : strsV (l ++ [q]) = strsV l ++ [.string (bs q)] := by simp [strsV]
  rw [this, List.length_append]; exact ⟨rfl, rfl⟩
theorem str_bytes : (Tryd.prog.types[(9 : Nat)]).bytes = 16 := by decide +kernel
theorem text_w (c : List Int) (hc : CatsOK c) : CallK Tryd.prog 30 [catsV c] (.string (textC c)) := CallK.via progOK (pfs [57]) [3] 100 (Adv.pur (7 : Nat) (Value.iface (nat_lit 1000000) (Value.tuple (Array.mk [Value.int IntKind.i64 (↑(List.length (listC c)) : Int), Value.agg (Array.mk (izL (listC c)))]))) (Adv.weak (12 : Nat) [(nat_lit 3, Value.iface (nat_lit 1000003) (Value.tuple (Array.mk [Value.int IntKind.i64 (9 : Int), Value.int IntKind.i64 (1 : Int), Value.int IntKind.i64 (0 : Int), Value.agg (Array.mk [])])))] (Heap.mk (nat_lit 10) (Trie.node none (Trie.node none Trie.leaf (Trie.node none (Trie.node (some (Blk.own (nat_lit 0) (nat_lit 9))) Trie.leaf Trie.leaf) Trie.leaf)) (Trie.node none (Trie.node none (Trie.node (some (Blk.cells (catsL c) (nat_lit 23) Mode.fix)) Trie.leaf Trie.leaf) Trie.leaf) Trie.leaf))) (Adv.loop (13 : Nat) (fun (s : Nat × List Bs) => [((5 : Nat), Value.int IntKind.i64 (↑(Prod.fst s) : Int)), ((3 : Nat), osl (9 : Nat) (1 : Nat) (↑(List.length (Prod.snd s)) : Int) (List.toArray (strsV (Prod.snd s))))]) ((fun (h : Heap) (s : Nat × List Bs) => Heap.set h (9 : Nat) (Blk.own (List.length (Prod.snd s)) (9 : TypeId))) (Heap.mk (nat_lit 10) (Trie.node none (Trie.node none Trie.leaf (Trie.node none (Trie.node (some (Blk.own (nat_lit 0) (nat_lit 9))) Trie.leaf Trie.leaf) Trie.leaf)) (Trie.node none (Trie.node none (Trie.node (some (Blk.cells (catsL c) (nat_lit 23) Mode.fix)) Trie.leaf Trie.leaf) Trie.leaf) Trie.leaf)))) (fun (m : Nat) (s : Nat × List Bs) => OutInv (catsN c) m s) (List.length (catsN c)) ((0 : Nat), []) fun (i13 : Nat) (s13 : Nat × List Bs) (j13 : Nat → Value) => Adv.split (19 : Nat) (Adv.loop (25 : Nat) (fun (k : Nat) => [((6 : Nat), Value.int IntKind.i64 (↑k : Int)), ((3 : Nat), osl (9 : Nat) (1 : Nat) (↑(List.length (Prod.snd s13)) : Int) (List.toArray (strsV (Prod.snd s13))))]) ((fun (h : Heap) (x : Nat) => h) (Heap.mk (nat_lit 10) (Trie.node none (Trie.node none Trie.leaf (Trie.node none (Trie.node (some (Blk.own (List.length (Prod.snd s13)) (nat_lit 9))) Trie.leaf Trie.leaf) Trie.leaf)) (Trie.node none (Trie.node none (Trie.node (some (Blk.cells (catsL c) (nat_lit 23) Mode.fix)) Trie.leaf Trie.leaf) Trie.leaf) Trie.leaf)))) (fun (m k : Nat) => RunInv (catsN c) (Prod.fst s13) m k) (List.length (catsN c) - (1 : Nat) - Prod.fst s13) (Prod.fst s13) fun (i25 s25 : Nat) (j25 : Nat → Value) => Adv.split (32 : Nat) (Adv.chk (37 : Nat) none (Adv.chk (38 : Nat) (some (Value.int IntKind.i64 (List.getD (listC c) (Int.toNat (IntKind.wrap IntKind.i64 ((↑s25 : Int) + (1 : Int)))) (0 : Int)))) (Adv.chk (41 : Nat) none (Adv.chk (42 : Nat) (some (Value.int IntKind.i64 (List.getD (listC c) s25 (0 : Int)))) (Adv.split (44 : Nat) Adv.nil (Adv.chk (51 : Nat) none (Adv.chk (52 : Nat) (some (Value.int IntKind.i64 (List.getD (listC c) (Prod.fst s13) (0 : Int)))) (Adv.chk (55 : Nat) none (Adv.chk (56 : Nat) (some (Value.int IntKind.i64 (List.getD (listC c) s25 (0 : Int)))) (Adv.pur (57 : Nat) (Value.string (bs (runZ (List.getD (listC c) (Prod.fst s13) (0 : Int)) (List.getD (listC c) s25 (0 : Int))))) (Adv.chk (59 : Nat) none Adv.nil))))))))))) (Adv.chk (40 : Nat) none (Adv.chk (41 : Nat) (some (Value.int IntKind.i64 (List.getD (listC c) (Prod.fst s13) (0 : Int)))) (Adv.chk (44 : Nat) none (Adv.chk (45 : Nat) (some (Value.int IntKind.i64 (List.getD (listC c) s25 (0 : Int)))) (Adv.pur (46 : Nat) (Value.string (bs (runZ (List.getD (listC c) (Prod.fst s13) (0 : Int)) (List.getD (listC c) s25 (0 : Int))))) (Adv.chk (48 : Nat) none Adv.nil))))))) (Adv.split (25 : Nat) Adv.nil (Adv.bor (29 : Nat) (Value.string (bs (gumL (44 : UInt8) (Prod.snd s13)))) Adv.nil))))) (by kernel_rfl) (by kernel_rfl) (p := CallK Tryd.prog (nat_lit 23) [Value.agg (Array.mk (catsL c))] (Value.iface (nat_lit 1000000) (Value.tuple (Array.mk [Value.int IntKind.i64 (↑(List.length (listC c)) : Int), Value.agg (Array.mk (izL (listC c)))]))) ∧ Weak Tryd.prog [Value.agg (Array.mk (catsL c)), Value.pointer (some (Addr.mk (nat_lit 8) (nat_lit 0) none)), Value.string (ByteArray.mk #[]), Value.slice none (nat_lit 0) (nat_lit 0), Value.iface (nat_lit 1000000) (Value.tuple (Array.mk [Value.int IntKind.i64 (↑(List.length (listC c)) : Int), Value.agg (Array.mk (izL (listC c)))])), Value.int IntKind.i64 (0 : Int), Value.tuple (Array.mk []), Value.agg (Array.mk (catsL c)), Value.iface (nat_lit 1000000) (Value.tuple (Array.mk [Value.int IntKind.i64 (↑(List.length (listC c)) : Int), Value.agg (Array.mk (izL (listC c)))])), Value.tuple (Array.mk []), Value.tuple (Array.mk []), Value.tuple (Array.mk []), Value.tuple (Array.mk []), Value.tuple (Array.mk []), Value.tuple (Array.mk []), Value.tuple (Array.mk []), Value.tuple (Array.mk []), Value.tuple (Array.mk []), Value.tuple (Array.mk []), Value.tuple (Array.mk []), Value.tuple (Array.mk []), Value.tuple (Array.mk []), Value.tuple (Array.mk []), Value.tuple (Array.mk []), Value.tuple (Array.mk []), Value.tuple (Array.mk []), Value.tuple (Array.mk []), Value.tuple (Array.mk []), Value.tuple (Array.mk []), Value.tuple (Array.mk []), Value.tuple (Array.mk []), Value.tuple (Array.mk []), Value.tuple (Array.mk []), Value.tuple (Array.mk []), Value.tuple (Array.mk []), Value.tuple (Array.mk []), Value.tuple (Array.mk []), Value.tuple (Array.mk []), Value.tuple (Array.mk []), Value.tuple (Array.mk []), Value.tuple (Array.mk []), Value.tuple (Array.mk []), Value.tuple (Array.mk []), Value.tuple (Array.mk []), Value.tuple (Array.mk []), Value.tuple (Array.mk []), Value.tuple (Array.mk []), Value.tuple (Array.mk []), Value.tuple (Array.mk []), Value.tuple (Array.mk []), Value.tuple (Array.mk []), Value.tuple (Array.mk []), Value.tuple (Array.mk [])] (Heap.mk (nat_lit 9) (Trie.node none Trie.leaf (Trie.node none (Trie.node none (Trie.node (some (Blk.cells (catsL c) (nat_lit 23) Mode.fix)) Trie.leaf Trie.leaf) Trie.leaf) Trie.leaf))) [Value.agg (Array.mk (catsL c)), Value.pointer (some (Addr.mk (nat_lit 8) (nat_lit 0) none)), Value.string (ByteArray.mk #[]), Value.iface (nat_lit 1000003) (Value.tuple (Array.mk [Value.int IntKind.i64 (9 : Int), Value.int IntKind.i64 (1 : Int), Value.int IntKind.i64 (0 : Int), Value.agg (Array.mk [])])), Value.iface (nat_lit 1000000) (Value.tuple (Array.mk [Value.int IntKind.i64 (↑(List.length (listC c)) : Int), Value.agg (Array.mk (izL (listC c)))])), Value.int IntKind.i64 (0 : Int), Value.tuple (Array.mk []), Value.agg (Array.mk (catsL c)), Value.iface (nat_lit 1000000) (Value.tuple (Array.mk [Value.int IntKind.i64 (↑(List.length (listC c)) : Int), Value.agg (Array.mk (izL (listC c)))])), Value.tuple (Array.mk []), Value.tuple (Array.mk []), Value.tuple (Array.mk []), Value.tuple (Array.mk []), Value.tuple (Array.mk []), Value.tuple (Array.mk []), Value.tuple (Array.mk []), Value.tuple (Array.mk []), Value.tuple (Array.mk []), Value.tuple (Array.mk []), Value.tuple (Array.mk []), Value.tuple (Array.mk []), Value.tuple (Array.mk []), Value.tuple (Array.mk []), Value.tuple (Array.mk []), Value.tuple (Array.mk []), Value.tuple (Array.mk []), Value.tuple (Array.mk []), Value.tuple (Array.mk []), Value.tuple (Array.mk []), Value.tuple (Array.mk []), Value.tuple (Array.mk []), Value.tuple (Array.mk []), Value.tuple (Array.mk []), Value.tuple (Array.mk []), Value.tuple (Array.mk []), Value.tuple (Array.mk []), Value.tuple (Array.mk []), Value.tuple (Array.mk []), Value.tuple (Array.mk []), Value.tuple (Array.mk []), Value.tuple (Array.mk []), Value.tuple (Array.mk []), Value.tuple (Array.mk []), Value.tuple (Array.mk []), Value.tuple (Array.mk []), Value.tuple (Array.mk []), Value.tuple (Array.mk []), Value.tuple (Array.mk []), Value.tuple (Array.mk []), Value.tuple (Array.mk []), Value.tuple (Array.mk []), Value.tuple (Array.mk []), Value.tuple (Array.mk [])] (Heap.mk (nat_lit 10) (Trie.node none (Trie.node none Trie.leaf (Trie.node none (Trie.node (some (Blk.own (nat_lit 0) (nat_lit 9))) Trie.leaf Trie.leaf) Trie.leaf)) (Trie.node none (Trie.node none (Trie.node (some (Blk.cells (catsL c) (nat_lit 23) Mode.fix)) Trie.leaf Trie.leaf) Trie.leaf) Trie.leaf))) ∧ (OutInv (catsN c) (List.length (catsN c)) ((0 : Nat), []) ∧ (Value.int IntKind.i64 (0 : Int) = Value.int IntKind.i64 (0 : Int) ∧ Value.iface (nat_lit 1000003) (Value.tuple (Array.mk [Value.int IntKind.i64 (9 : Int), Value.int IntKind.i64 (1 : Int), Value.int IntKind.i64 (0 : Int), Value.agg (Array.mk [])])) = Value.iface (nat_lit 1000003) (Value.tuple (Array.mk [Value.int IntKind.i64 (9 : Int), Value.int IntKind.i64 (1 : Int), Value.int IntKind.i64 (0 : Int), Value.agg (Array.mk [])]))) ∧ Heap.mk (nat_lit 10) (Trie.node none (Trie.node none Trie.leaf (Trie.node none (Trie.node (some (Blk.own (nat_lit 0) (nat_lit 9))) Trie.leaf Trie.leaf) Trie.leaf)) (Trie.node none (Trie.node none (Trie.node (some (Blk.cells (catsL c) (nat_lit 23) Mode.fix)) Trie.leaf Trie.leaf) Trie.leaf) Trie.leaf)) = Heap.mk (nat_lit 10) (Trie.node none (Trie.node none Trie.leaf (Trie.node none (Trie.node (some (Blk.own (nat_lit 0) (nat_lit 9))) Trie.leaf Trie.leaf) Trie.leaf)) (Trie.node none (Trie.node none (Trie.node (some (Blk.cells (catsL c) (nat_lit 23) Mode.fix)) Trie.leaf Trie.leaf) Trie.leaf) Trie.leaf))) ∧ ∀ (i13 : Nat) (s13 : Nat × List Bs) (j13 : Nat → Value), OutInv (catsN c) i13 s13 → (decide ((↑(Prod.fst s13) : Int) < (↑(List.length (listC c)) : Int)) = true → (RunInv (catsN c) (Prod.fst s13) (List.length (catsN c) - (1 : Nat) - Prod.fst s13) (Prod.fst s13) ∧ (Value.int IntKind.i64 (↑(Prod.fst s13) : Int) = Value.int IntKind.i64 (↑(Prod.fst s13) : Int) ∧ Value.iface (nat_lit 1000003) (Value.tuple (Array.mk [Value.int IntKind.i64 (9 : Int), Value.int IntKind.i64 (1 : Int), Value.int IntKind.i64 (↑(List.length (Prod.snd s13)) : Int), Value.agg (Array.mk (strsV (Prod.snd s13)))])) = Value.iface (nat_lit 1000003) (Value.tuple (Array.mk [Value.int IntKind.i64 (9 : Int), Value.int IntKind.i64 (1 : Int), Value.int IntKind.i64 (↑(List.length (Prod.snd s13)) : Int), Value.agg (Array.mk (strsV (Prod.snd s13)))]))) ∧ Heap.mk (nat_lit 10) (Trie.node none (Trie.node none Trie.leaf (Trie.node none (Trie.node (some (Blk.own (List.length (Prod.snd s13)) (nat_lit 9))) Trie.leaf Trie.leaf) Trie.leaf)) (Trie.node none (Trie.node none (Trie.node (some (Blk.cells (catsL c) (nat_lit 23) Mode.fix)) Trie.leaf Trie.leaf) Trie.leaf) Trie.leaf)) = Heap.mk (nat_lit 10) (Trie.node none (Trie.node none Trie.leaf (Trie.node none (Trie.node (some (Blk.own (List.length (Prod.snd s13)) (nat_lit 9))) Trie.leaf Trie.leaf) Trie.leaf)) (Trie.node none (Trie.node none (Trie.node (some (Blk.cells (catsL c) (nat_lit 23) Mode.fix)) Trie.leaf Trie.leaf) Trie.leaf) Trie.leaf))) ∧ ∀ (i25 s25 : Nat) (j25 : Nat → Value), RunInv (catsN c) (Prod.fst s13) i25 s25 → (decide (IntKind.wrap IntKind.i64 ((↑s25 : Int) + (1 : Int)) < (↑(List.length (listC c)) : Int)) = true → ((0 : Int) ≤ IntKind.wrap IntKind.i64 ((↑s25 : Int) + (1 : Int)) ∧ IntKind.wrap IntKind.i64 ((↑s25 : Int) + (1 : Int)) < (↑(List.length (listC c)) : Int)) ∧ Ask.holds Tryd.prog (Ask.part (Array.toList (Array.mk (izL (listC c)))) (Int.toNat (↑(Int.toNat (IntKind.wrap IntKind.i64 ((↑s25 : Int) + (1 : Int))) * nat_lit 1) : Int)) (nat_lit 1) [Value.int IntKind.i64 (List.getD (listC c) (Int.toNat (IntKind.wrap IntKind.i64 ((↑s25 : Int) + (1 : Int)))) (0 : Int))]) ∧ ((0 : Int) ≤ (↑s25 : Int) ∧ (↑s25 : Int) < (↑(List.length (listC c)) : Int)) ∧ Ask.holds Tryd.prog (Ask.part (Array.toList (Array.mk (izL (listC c)))) (Int.toNat (↑(Int.toNat (↑s25 : Int) * nat_lit 1) : Int)) (nat_lit 1) [Value.int IntKind.i64 (List.getD (listC c) s25 (0 : Int))]) ∧ ((List.getD (listC c) (Int.toNat (IntKind.wrap IntKind.i64 ((↑s25 : Int) + (1 : Int)))) (0 : Int) == IntKind.wrap IntKind.i64 (List.getD (listC c) s25 (0 : Int) + (1 : Int))) = true → ∃ (i25' : Nat), ∃ (s25' : Nat), i25' < i25 ∧ RunInv (catsN c) (Prod.fst s13) i25' s25' ∧ (Value.int IntKind.i64 (IntKind.wrap IntKind.i64 ((↑s25 : Int) + (1 : Int))) = Value.int IntKind.i64 (↑s25' : Int) ∧ Value.iface (nat_lit 1000003) (Value.tuple (Array.mk [Value.int IntKind.i64 (9 : Int), Value.int IntKind.i64 (1 : Int), Value.int IntKind.i64 (↑(List.length (Prod.snd s13)) : Int), Value.agg (Array.mk (strsV (Prod.snd s13)))])) = Value.iface (nat_lit 1000003) (Value.tuple (Array.mk [Value.int IntKind.i64 (9 : Int), Value.int IntKind.i64 (1 : Int), Value.int IntKind.i64 (↑(List.length (Prod.snd s13)) : Int), Value.agg (Array.mk (strsV (Prod.snd s13)))]))) ∧ (some (Blk.own (List.length (Prod.snd s13)) (nat_lit 9)) = some (Blk.own (List.length (Prod.snd s13)) (nat_lit 9)) ∧ some (Blk.cells (catsL c) (nat_lit 23) Mode.fix) = some (Blk.cells (catsL c) (nat_lit 23) Mode.fix) ∧ True) ∧ true = true ∧ true = true ∧ True) ∧ ((List.getD (listC c) (Int.toNat (IntKind.wrap IntKind.i64 ((↑s25 : Int) + (1 : Int)))) (0 : Int) == IntKind.wrap IntKind.i64 (List.getD (listC c) s25 (0 : Int) + (1 : Int))) = false → ((0 : Int) ≤ (↑(Prod.fst s13) : Int) ∧ (↑(Prod.fst s13) : Int) < (↑(List.length (listC c)) : Int)) ∧ Ask.holds Tryd.prog (Ask.part (Array.toList (Array.mk (izL (listC c)))) (Int.toNat (↑(Int.toNat (↑(Prod.fst s13) : Int) * nat_lit 1) : Int)) (nat_lit 1) [Value.int IntKind.i64 (List.getD (listC c) (Prod.fst s13) (0 : Int))]) ∧ ((0 : Int) ≤ (↑s25 : Int) ∧ (↑s25 : Int) < (↑(List.length (listC c)) : Int)) ∧ Ask.holds Tryd.prog (Ask.part (Array.toList (Array.mk (izL (listC c)))) (Int.toNat (↑(Int.toNat (↑s25 : Int) * nat_lit 1) : Int)) (nat_lit 1) [Value.int IntKind.i64 (List.getD (listC c) s25 (0 : Int))]) ∧ CallK Tryd.prog (nat_lit 57) [Value.int IntKind.i64 (List.getD (listC c) (Prod.fst s13) (0 : Int)), Value.int IntKind.i64 (List.getD (listC c) s25 (0 : Int))] (Value.string (bs (runZ (List.getD (listC c) (Prod.fst s13) (0 : Int)) (List.getD (listC c) s25 (0 : Int))))) ∧ (List.length (Array.toList (Array.mk (strsV (Prod.snd s13)))) = List.length (Prod.snd s13) ∧ ((↑(List.length (Prod.snd s13)) : Int) + (↑(nat_lit 1) : Int)) * ((↑(TypeInfo.bytes (Tables.types (Program.toTables Tryd.prog))[(9 : Nat)]) : Int) + (1 : Int)) ≤ (1099511627776 : Int)) ∧ ∃ (i13' : Nat), ∃ (s13' : Nat × List Bs), i13' < i13 ∧ OutInv (catsN c) i13' s13' ∧ (Value.int IntKind.i64 (IntKind.wrap IntKind.i64 ((↑s25 : Int) + (1 : Int))) = Value.int IntKind.i64 (↑(Prod.fst s13') : Int) ∧ Value.iface (nat_lit 1000003) (Value.tuple (Array.mk [Value.int IntKind.i64 (9 : Int), Value.int IntKind.i64 (1 : Int), Value.int IntKind.i64 ((↑(List.length (Prod.snd s13)) : Int) + (↑(nat_lit 1) : Int)), Value.agg (Array.mk (Array.toList (Array.mk (strsV (Prod.snd s13))) ++ List.take (nat_lit 1 * Int.toNat (1 : Int)) (List.drop (nat_lit 0) [Value.string (bs (runZ (List.getD (listC c) (Prod.fst s13) (0 : Int)) (List.getD (listC c) s25 (0 : Int))))])))])) = Value.iface (nat_lit 1000003) (Value.tuple (Array.mk [Value.int IntKind.i64 (9 : Int), Value.int IntKind.i64 (1 : Int), Value.int IntKind.i64 (↑(List.length (Prod.snd s13')) : Int), Value.agg (Array.mk (strsV (Prod.snd s13')))]))) ∧ (some (Blk.own (List.length (Prod.snd s13) + List.length (List.take (nat_lit 1 * Int.toNat (1 : Int)) (List.drop (nat_lit 0) [Value.string (bs (runZ (List.getD (listC c) (Prod.fst s13) (0 : Int)) (List.getD (listC c) s25 (0 : Int))))]))) (nat_lit 9)) = some (Blk.own (List.length (Prod.snd s13')) (nat_lit 9)) ∧ some (Blk.cells (catsL c) (nat_lit 23) Mode.fix) = some (Blk.cells (catsL c) (nat_lit 23) Mode.fix) ∧ True) ∧ true = true ∧ true = true ∧ True)) ∧ (decide (IntKind.wrap IntKind.i64 ((↑s25 : Int) + (1 : Int)) < (↑(List.length (listC c)) : Int)) = false → ((0 : Int) ≤ (↑(Prod.fst s13) : Int) ∧ (↑(Prod.fst s13) : Int) < (↑(List.length (listC c)) : Int)) ∧ Ask.holds Tryd.prog (Ask.part (Array.toList (Array.mk (izL (listC c)))) (Int.toNat (↑(Int.toNat (↑(Prod.fst s13) : Int) * nat_lit 1) : Int)) (nat_lit 1) [Value.int IntKind.i64 (List.getD (listC c) (Prod.fst s13) (0 : Int))]) ∧ ((0 : Int) ≤ (↑s25 : Int) ∧ (↑s25 : Int) < (↑(List.length (listC c)) : Int)) ∧ Ask.holds Tryd.prog (Ask.part (Array.toList (Array.mk (izL (listC c)))) (Int.toNat (↑(Int.toNat (↑s25 : Int) * nat_lit 1) : Int)) (nat_lit 1) [Value.int IntKind.i64 (List.getD (listC c) s25 (0 : Int))]) ∧ CallK Tryd.prog (nat_lit 57) [Value.int IntKind.i64 (List.getD (listC c) (Prod.fst s13) (0 : Int)), Value.int IntKind.i64 (List.getD (listC c) s25 (0 : Int))] (Value.string (bs (runZ (List.getD (listC c) (Prod.fst s13) (0 : Int)) (List.getD (listC c) s25 (0 : Int))))) ∧ (List.length (Array.toList (Array.mk (strsV (Prod.snd s13)))) = List.length (Prod.snd s13) ∧ ((↑(List.length (Prod.snd s13)) : Int) + (↑(nat_lit 1) : Int)) * ((↑(TypeInfo.bytes (Tables.types (Program.toTables Tryd.prog))[(9 : Nat)]) : Int) + (1 : Int)) ≤ (1099511627776 : Int)) ∧ ∃ (i13' : Nat), ∃ (s13' : Nat × List Bs), i13' < i13 ∧ OutInv (catsN c) i13' s13' ∧ (Value.int IntKind.i64 (IntKind.wrap IntKind.i64 ((↑s25 : Int) + (1 : Int))) = Value.int IntKind.i64 (↑(Prod.fst s13') : Int) ∧ Value.iface (nat_lit 1000003) (Value.tuple (Array.mk [Value.int IntKind.i64 (9 : Int), Value.int IntKind.i64 (1 : Int), Value.int IntKind.i64 ((↑(List.length (Prod.snd s13)) : Int) + (↑(nat_lit 1) : Int)), Value.agg (Array.mk (Array.toList (Array.mk (strsV (Prod.snd s13))) ++ List.take (nat_lit 1 * Int.toNat (1 : Int)) (List.drop (nat_lit 0) [Value.string (bs (runZ (List.getD (listC c) (Prod.fst s13) (0 : Int)) (List.getD (listC c) s25 (0 : Int))))])))])) = Value.iface (nat_lit 1000003) (Value.tuple (Array.mk [Value.int IntKind.i64 (9 : Int), Value.int IntKind.i64 (1 : Int), Value.int IntKind.i64 (↑(List.length (Prod.snd s13')) : Int), Value.agg (Array.mk (strsV (Prod.snd s13')))]))) ∧ (some (Blk.own (List.length (Prod.snd s13) + List.length (List.take (nat_lit 1 * Int.toNat (1 : Int)) (List.drop (nat_lit 0) [Value.string (bs (runZ (List.getD (listC c) (Prod.fst s13) (0 : Int)) (List.getD (listC c) s25 (0 : Int))))]))) (nat_lit 9)) = some (Blk.own (List.length (Prod.snd s13')) (nat_lit 9)) ∧ some (Blk.cells (catsL c) (nat_lit 23) Mode.fix) = some (Blk.cells (catsL c) (nat_lit 23) Mode.fix) ∧ True) ∧ true = true ∧ true = true ∧ True)) ∧ (decide ((↑(Prod.fst s13) : Int) < (↑(List.length (listC c)) : Int)) = false → (((↑(List.length (Prod.snd s13)) : Int) == (0 : Int)) = true → Value.string (ByteArray.mk #[(45 : UInt8)]) = Value.string (textC c)) ∧ (((↑(List.length (Prod.snd s13)) : Int) == (0 : Int)) = false → CallK Tryd.prog (nat_lit 58) [Value.iface (nat_lit 1000000) (Value.tuple (Array.mk [Value.int IntKind.i64 (↑(List.length (Prod.snd s13)) : Int), Value.agg (Array.mk (strsV (Prod.snd s13)))])), Value.string (ByteArray.mk #[(44 : UInt8)])] (Value.string (bs (gumL (44 : UInt8) (Prod.snd s13)))) ∧ Value.string (bs (gumL (44 : UInt8) (Prod.snd s13))) = Value.string (textC c)))) (by kernel_rfl) (by
    have hl := listC_len c
    have hL := catsN_length c
    have at' : ∀ k, k < (catsN c).length → (listC c).getD k 0 = (((catsN c).getD k 0 : Nat) : Int) := fun k h => by rw [listC_at c h, getD_at _ _ _ h]
    have small : ∀ k, k < (catsN c).length → (catsN c).getD k 0 < 240 := fun k h => by rw [getD_at _ _ _ h]; exact catsN_lt c _ (List.getElem_mem h)
    refine ⟨list_w c hc, Weak.own' 3 1 9 (by rfl) (by rfl) (by rfl), ⟨OutInv.start _, ⟨rfl, rfl⟩, rfl⟩, fun i s j q => ⟨fun h1 => ⟨⟨RunInv.start (by have := of_decide_eq_true h1; omega), ⟨rfl, rfl⟩, rfl⟩, fun m k j2 r => ⟨fun h2 => ?_, fun h2 => ?_⟩⟩, fun h1 => ⟨fun h2 => ?_, fun h2 => ?_⟩⟩⟩
    · have hk0 : k < (catsN c).length := by have := r.n; omega
      have hw : IntKind.i64.wrap ((k : Int) + 1) = ((k + 1 : Nat) : Int) := by rw [wrap_in (by omega) (by omega)]; omega
      have hk1 : k + 1 < (catsN c).length := by have := of_decide_eq_true h2; rw [hw] at this; omega
      have hx : IntKind.i64.wrap ((listC c).getD k 0 + 1) = (((catsN c).getD k 0 + 1 : Nat) : Int) := by
        rw [at' k hk0, wrap_in (by have := small k hk0; omega) (by have := small k hk0; omega)]; omega
      have ht : Int.toNat ((k + 1 : Nat) : Int) = k + 1 := Int.toNat_natCast _
      rw [hw, ht]
      refine ⟨⟨by omega, by omega⟩, iz_part (by omega) (by simp), ⟨by omega, by omega⟩, iz_part (by omega) (by simp), fun h3 => ?_, fun h3 => ?_⟩
      · rw [hx, at' (k + 1) hk1, beq_iff_eq] at h3
        exact ⟨m - 1, k + 1, by have := r.n; omega, r.next hk1 (by omega), ⟨rfl, rfl⟩, ⟨rfl, rfl, trivial⟩, rfl, rfl, trivial⟩
      · have he : k + 1 < (catsN c).length → (catsN c).getD (k + 1) 0 ≠ (catsN c).getD k 0 + 1 := fun _ e => by
          rw [hx, at' (k + 1) hk1, beq_eq_false_iff_ne] at h3
          omega
        exact (by
        have hi : s.1 < (catsN c).length := by have := of_decide_eq_true h1; omega
        have hk : k < (catsN c).length := by have := r.n; omega
        have hg := r.g
        have e1 := at' s.1 hi
        have e2 := at' k hk
        have b1 := small s.1 hi
        have b2 := small k hk
        have hv := r.v
        have ez : runZ ((listC c).getD s.1 0) ((listC c).getD k 0) = runT ((catsN c).getD s.1 0) ((catsN c).getD k 0) := by
          rw [e1, e2]; exact runZ_nat (by omega)
        have hn := r.n
        have hq := q.n
        exact ⟨⟨by omega, by omega⟩, iz_part (by omega) (by simp), ⟨by omega, by omega⟩, iz_part (by omega) (by simp), run_w _ _ (by omega) (by omega) (by omega), ⟨strsV_len _, mul_room 1001 1000 (show ((s.2.length : Nat) : Int) + 1 ≤ 1001 by have := q.len; omega) (by have := str_bytes; omega) (by have := str_bytes; omega) (by decide) (by decide)⟩, (catsN c).length - (k + 1), (k + 1, s.2 ++ [runT ((catsN c).getD s.1 0) ((catsN c).getD k 0)]), by omega, OutInv.next q hi r he, ⟨rfl, (strs_yes (tok := 9) ez).1⟩, ⟨(strs_yes (tok := 9) ez).2, rfl, trivial⟩, rfl, rfl, trivial⟩)
    · have he : k + 1 < (catsN c).length → (catsN c).getD (k + 1) 0 ≠ (catsN c).getD k 0 + 1 := fun hk1 e => by
        have := of_decide_eq_false h2
        rw [wrap_in (by omega) (by omega)] at this
        omega
      exact (by
      have hi : s.1 < (catsN c).length := by have := of_decide_eq_true h1; omega
      have hk : k < (catsN c).length := by have := r.n; omega
      have hg := r.g
      have e1 := at' s.1 hi
      have e2 := at' k hk
      have b1 := small s.1 hi
      have b2 := small k hk
      have hv := r.v
      have ez : runZ ((listC c).getD s.1 0) ((listC c).getD k 0) = runT ((catsN c).getD s.1 0) ((catsN c).getD k 0) := by
        rw [e1, e2]; exact runZ_nat (by omega)
      have hn := r.n
      have hq := q.n
      exact ⟨⟨by omega, by omega⟩, iz_part (by omega) (by simp), ⟨by omega, by omega⟩, iz_part (by omega) (by simp), run_w _ _ (by omega) (by omega) (by omega), ⟨strsV_len _, mul_room 1001 1000 (show ((s.2.length : Nat) : Int) + 1 ≤ 1001 by have := q.len; omega) (by have := str_bytes; omega) (by have := str_bytes; omega) (by decide) (by decide)⟩, (catsN c).length - (k + 1), (k + 1, s.2 ++ [runT ((catsN c).getD s.1 0) ((catsN c).getD k 0)]), by omega, OutInv.next q hi r he, ⟨wrap_next k (by omega), (strs_yes (tok := 9) ez).1⟩, ⟨(strs_yes (tok := 9) ez).2, rfl, trivial⟩, rfl, rfl, trivial⟩)
    · have h0 : ¬ s.1 < (catsN c).length := by have := of_decide_eq_false h1; omega
      have ho := q.end h0
      have hz : s.2.length = 0 := by have := beq_iff_eq.1 h2; omega
      unfold textC textN
      have hnil : catsN c = [] := by
        cases e : catsN c with
        | nil => rfl
        | cons x r => rw [e, textsL_cons] at ho; rw [ho] at hz; simp at hz
      rw [if_pos hnil]
      rfl
    · have h0 : ¬ s.1 < (catsN c).length := by have := of_decide_eq_false h1; omega
      have ho := q.end h0
      have hz : s.2.length ≠ 0 := by have := beq_eq_false_iff_ne.1 h2; omega
      have hne : catsN c ≠ [] := fun e => by rw [e, textsL_nil] at ho; rw [ho] at hz; exact hz rfl
      refine ⟨joinAny_w s.2 (by omega) (by have := q.len; omega) ?_, ?_⟩
      · rw [ho]; have := join_short c; omega
      · unfold textC textN
        rw [if_neg hne, ho])
end Go.Proofs.YtidlganponfccaaDoor

end
section
/- A small number's digits, as the document tells them. -/
set_option linter.unusedVariables false
set_option linter.unusedSimpArgs false
set_option maxRecDepth 100000
namespace Go.Proofs.YtidlganponfccaaDoor
open Go Go.Ideal
set_option maxRecDepth 100000
noncomputable def numRun (x : Nat) : Bool := match (callF Tryd.prog (execF Tryd.prog 100) 36 [Value.int .i64 (x : Nat)] (Heap.empty Tryd.prog.globals.size)).map (·.1) with
  | some (Value.string s) => decide (s.data.toList = Lib.itoa (x : Nat))
  | _ => false
theorem num_all : (List.range 256).all numRun = true := by kernel_rfl
theorem number_w (x : Int) (h0 : 0 ≤ x) (h1 : x < 256) : CallK Tryd.prog 36 [.int .i64 x] (.string (bs (Lib.itoa x))) := by
  obtain ⟨n, rfl⟩ := Int.eq_ofNat_of_zero_le h0
  refine CallK.runF progOK 100 rfl rfl rfl ?_
  have := List.all_eq_true.1 num_all n (List.mem_range.2 (by omega))
  unfold numRun at this
  split at this
  · rename_i v hv
    rw [hv, ← of_decide_eq_true this, bs_self]
  · cases this
end Go.Proofs.YtidlganponfccaaDoor

end
section
/- Texts: cut at a byte. -/
set_option linter.unusedVariables false
set_option linter.unusedSimpArgs false
set_option maxRecDepth 100000
namespace Go.Proofs.YtidlganponfccaaDoor
open Go Go.Ideal
/-- Where a byte stands first; -1: nowhere. -/
def ixB (s : ByteArray) (c : UInt8) : Int := Lib.indexByte s.data.toList c
theorem ix_lt : ∀ (l : List UInt8) (c : UInt8), Lib.indexByte l c < (l.length : Int) ∧ -1 ≤ Lib.indexByte l c
  | [], _ => by simp [Lib.indexByte]
  | b :: l, c => by
    have ih := ix_lt l c
    simp only [Lib.indexByte, List.length_cons]
    split
    · omega
    · split <;> omega
theorem ixB_lt (s : ByteArray) (c : UInt8) : ixB s c < (s.size : Int) ∧ -1 ≤ ixB s c := ix_lt s.data.toList c
theorem ix45_w (s : ByteArray) : CallK Tryd.prog 132 [.string s, .int .u8 45] (.int .i64 (ixB s 45)) := idxByte_w s 45 _ rfl
theorem ix44_w (s : ByteArray) : CallK Tryd.prog 132 [.string s, .int .u8 44] (.int .i64 (ixB s 44)) := idxByte_w s 44 _ rfl
theorem ix58_w (s : ByteArray) : CallK Tryd.prog 132 [.string s, .int .u8 58] (.int .i64 (ixB s 58)) := idxByte_w s 58 _ rfl
def cutA (s : ByteArray) (c : UInt8) : ByteArray := if 0 ≤ ixB s c then s.extract 0 (ixB s c).toNat else s
def cutB (s : ByteArray) (c : UInt8) : ByteArray := if 0 ≤ ixB s c then s.extract (ixB s c + 1).toNat s.size else ByteArray.mk #[]
def cutF (s : ByteArray) (c : UInt8) : Bool := decide (0 ≤ ixB s c)
theorem one_eq {s : ByteArray} {c : UInt8} (h : (ByteArray.toList (ByteArray.mk #[c]) == ByteArray.toList s) = true) : s = ByteArray.mk #[c] := by
  rw [beq_iff_eq, Lib.toList_data, Lib.toList_data] at h
  apply ByteArray.ext
  exact (Array.toList_inj.1 h).symm
theorem ixB_one (c : UInt8) : ixB (ByteArray.mk #[c]) c = 0 := by simp [ixB, Lib.indexByte]
theorem cut_tuple {s : ByteArray} {c : UInt8} (hs : s.size ≤ 3000) (h : 0 ≤ ixB s c) : Value.tuple (Array.mk [.string (s.extract (Int.toNat 0) (ixB s c).toNat), .string (s.extract (IntKind.i64.wrap (ixB s c + 1)).toNat (Int.toNat (s.size : Int))), .bool true]) = .tuple (Array.mk [.string (cutA s c), .string (cutB s c), .bool (cutF s c)]) := by
  have := ixB_lt s c
  unfold cutA cutB cutF
  rw [if_pos h, if_pos h, decide_eq_true h, wrap_in (by omega) (by omega)]
  rfl
theorem cutDash_w (s : ByteArray) (hs : s.size ≤ 3000) : CallK Tryd.prog 63 [.string s, .string ⟨#[45]⟩] (.tuple (Array.mk [.string (cutA s 45), .string (cutB s 45), .bool (cutF s 45)])) := CallK.via progOK (pfs []) [] 100 (Adv.split (30 : Nat) (Adv.chk (50 : Nat) none Adv.nil) (Adv.pur (43 : Nat) (Value.int IntKind.i64 (ixB s (45 : UInt8))) (Adv.split (48 : Nat) (Adv.chk (53 : Nat) none (Adv.chk (59 : Nat) none Adv.nil)) Adv.nil))) (by kernel_rfl) (by kernel_rfl) (p := ((ByteArray.toList (ByteArray.mk #[(45 : UInt8)]) == ByteArray.toList s) = true → ((0 : Int) ≤ (1 : Int) ∧ (1 : Int) ≤ (↑(ByteArray.size s) : Int) ∧ (↑(ByteArray.size s) : Int) ≤ (↑(ByteArray.size s) : Int)) ∧ Value.tuple (Array.mk [Value.string (ByteArray.extract s (0 : Nat) (Int.toNat (0 : Int))), Value.string (ByteArray.extract s (Int.toNat (1 : Int)) (Int.toNat (↑(ByteArray.size s) : Int))), Value.bool true]) = Value.tuple (Array.mk [Value.string (cutA s (45 : UInt8)), Value.string (cutB s (45 : UInt8)), Value.bool (cutF s (45 : UInt8))])) ∧ ((ByteArray.toList (ByteArray.mk #[(45 : UInt8)]) == ByteArray.toList s) = false → CallK Tryd.prog (nat_lit 132) [Value.string s, Value.int IntKind.u8 (45 : Int)] (Value.int IntKind.i64 (ixB s (45 : UInt8))) ∧ (decide (ixB s (45 : UInt8) ≥ (0 : Int)) = true → ((0 : Int) ≤ (0 : Int) ∧ (0 : Int) ≤ ixB s (45 : UInt8) ∧ ixB s (45 : UInt8) ≤ (↑(ByteArray.size s) : Int)) ∧ ((0 : Int) ≤ IntKind.wrap IntKind.i64 (ixB s (45 : UInt8) + (1 : Int)) ∧ IntKind.wrap IntKind.i64 (ixB s (45 : UInt8) + (1 : Int)) ≤ (↑(ByteArray.size s) : Int) ∧ (↑(ByteArray.size s) : Int) ≤ (↑(ByteArray.size s) : Int)) ∧ Value.tuple (Array.mk [Value.string (ByteArray.extract s (Int.toNat (0 : Int)) (Int.toNat (ixB s (45 : UInt8)))), Value.string (ByteArray.extract s (Int.toNat (IntKind.wrap IntKind.i64 (ixB s (45 : UInt8) + (1 : Int)))) (Int.toNat (↑(ByteArray.size s) : Int))), Value.bool true]) = Value.tuple (Array.mk [Value.string (cutA s (45 : UInt8)), Value.string (cutB s (45 : UInt8)), Value.bool (cutF s (45 : UInt8))])) ∧ (decide (ixB s (45 : UInt8) ≥ (0 : Int)) = false → Value.tuple (Array.mk [Value.string s, Value.string (ByteArray.mk #[]), Value.bool false]) = Value.tuple (Array.mk [Value.string (cutA s (45 : UInt8)), Value.string (cutB s (45 : UInt8)), Value.bool (cutF s (45 : UInt8))])))) (by kernel_rfl) (by
    have hb := ixB_lt s 45
    refine ⟨fun h => ?_, fun _ => ⟨ix45_w s, fun h => ?_, fun h => ?_⟩⟩
    · have e := one_eq h
      subst e
      refine ⟨⟨by omega, by decide, by omega⟩, ?_⟩
      have := cut_tuple (s := ByteArray.mk #[45]) (c := 45) (by decide) (by rw [ixB_one]; decide)
      rw [ixB_one] at this
      exact this
    · have h0 : 0 ≤ ixB s 45 := of_decide_eq_true h
      have e := cut_tuple hs h0
      have e1 : IntKind.i64.wrap (ixB s 45 + 1) = ixB s 45 + 1 := wrap_in (by omega) (by omega)
      exact ⟨⟨by omega, by omega, by omega⟩, ⟨by rw [e1]; omega, by rw [e1]; omega, by omega⟩, e⟩
    · have h0 : ¬ 0 ≤ ixB s 45 := of_decide_eq_false h
      unfold cutA cutB cutF
      rw [if_neg h0, if_neg h0, decide_eq_false h0])
end Go.Proofs.YtidlganponfccaaDoor

end
