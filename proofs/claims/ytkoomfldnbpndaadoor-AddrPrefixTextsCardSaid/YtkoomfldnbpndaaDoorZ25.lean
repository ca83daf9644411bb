/- Texts packed together: CLaw3a. -/
import Derived.Test.YtkoomfldnbpndaaDoorZ24
section
/- The laws of addresses and prefixes told. -/
set_option linter.unusedVariables false
set_option linter.unusedSimpArgs false
set_option maxRecDepth 100000
namespace Go.Proofs.YtkoomfldnbpndaaDoor
open Go Go.Ideal
/-! ### cut and put together again -/
theorem cut_app (c : UInt8) (p r : Bs) (h : c ∉ p) : cutA (bs (p ++ c :: r)) c = bs p ∧ cutB (bs (p ++ c :: r)) c = bs r := by
  have e : ixB (bs (p ++ c :: r)) c = (p.length : Int) := by
    unfold ixB; rw [bs_list]; exact indexByte_app c p h r
  unfold cutA cutB
  rw [e, if_pos (by omega), if_pos (by omega)]
  refine ⟨?_, ?_⟩
  · rw [bs_extract]; simp
  · rw [show ((p.length : Int) + 1).toNat = p.length + 1 from by omega, bs_extract, bs_size]
    congr 1
    rw [List.drop_append, List.drop_eq_nil_of_le (by omega), show p.length + 1 - p.length = 1 from by omega, List.nil_append, List.drop_succ_cons, List.drop_zero, List.take_of_length_le]
    simp only [List.length_append, List.length_cons]; omega
theorem ix_split (c : UInt8) : ∀ (l : Bs), 0 ≤ Lib.indexByte l c → l = l.take (Lib.indexByte l c).toNat ++ c :: l.drop ((Lib.indexByte l c).toNat + 1)
  | [], h => by simp [Lib.indexByte] at h
  | b :: l, h => by
    unfold Lib.indexByte at h ⊢
    by_cases e : (b == c) = true
    · rw [if_pos e]; rw [beq_iff_eq] at e; subst e; simp
    · rw [if_neg e] at h ⊢
      by_cases e2 : (Lib.indexByte l c == -1) = true
      · rw [if_pos e2] at h; omega
      · rw [if_neg e2] at h ⊢
        rw [beq_iff_eq] at e2
        have hl := ix_lt l c
        have ih := ix_split c l (by omega)
        rw [show (Lib.indexByte l c + 1).toNat = (Lib.indexByte l c).toNat + 1 from by omega, List.take_succ_cons, List.drop_succ_cons, List.cons_append, ← ih]
theorem cut_back (s : ByteArray) (c : UInt8) (h : 0 ≤ ixB s c) : s = bs ((cutA s c).data.toList ++ c :: (cutB s c).data.toList) := by
  have e := ix_split c s.data.toList h
  have h1 : cutA s c = bs (s.data.toList.take (ixB s c).toNat) := by
    unfold cutA; rw [if_pos h]
    rw [← bs_self s, bs_extract, bs_list]
    simp
  have h2 : cutB s c = bs (s.data.toList.drop ((ixB s c).toNat + 1)) := by
    have hl := ixB_lt s c
    unfold cutB; rw [if_pos h, show (ixB s c + 1).toNat = (ixB s c).toNat + 1 from by omega]
    have k : s.extract ((ixB s c).toNat + 1) s.size = (bs s.data.toList).extract ((ixB s c).toNat + 1) s.size := by rw [bs_self]
    rw [k, bs_extract]
    congr 1
    rw [List.take_of_length_le]
    rw [List.length_drop, bytes_len s]; omega
  rw [h1, h2, bs_list, bs_list]
  exact (bs_self s).symm.trans (congrArg bs e)
theorem octs_no {A : Nat} (hA : A < 2 ^ 32) : (47 : UInt8) ∉ gumL 46 (octs A) := by
  have d0 := dig_not (n := A / 16777216) (by omega) (c := 47) rfl
  have d1 := dig_not (n := A / 65536 % 256) (by omega) (c := 47) rfl
  have d2 := dig_not (n := A / 256 % 256) (by omega) (c := 47) rfl
  have d3 := dig_not (n := A % 256) (by omega) (c := 47) rfl
  simp [octs, gumL, d0, d1, d2, d3]
theorem pp_text {A B : Nat} (hA : A < 2 ^ 32) (hB : B ≤ 32) (hr : rightB (A : Int) (B : Int) = true) : ppOk (ptextA (A : Int) (B : Int)) = true ∧ ppA (ptextA (A : Int) (B : Int)) = (A : Int) ∧ ppB (ptextA (A : Int) (B : Int)) = (B : Int) := by
  have e : ptextA (A : Int) (B : Int) = bs (gumL 46 (octs A) ++ 47 :: dig B) := by
    unfold ptextA; rw [textA_nat, bsA_app]; rfl
  obtain ⟨c1, c2⟩ := cut_app 47 (gumL 46 (octs A)) (dig B) (octs_no hA)
  obtain ⟨p1, p2⟩ := parse_text hA
  rw [textA_nat] at p1 p2
  have n1 := numOK_dig (n := B) (by omega) (m := 32) (by omega)
  have n2 := (atoi_dig (n := B) (by omega)).2
  have ok : ppOk (ptextA (A : Int) (B : Int)) = true := by
    unfold ppOk; rw [e, c1, c2, p1, p2, n1, n2, hr]; rfl
  refine ⟨ok, ?_, ?_⟩
  · unfold ppA; rw [if_pos ok, e, c1, p2]
  · unfold ppB; rw [if_pos ok, e, c2, n2]
theorem text_pp {s : ByteArray} (h : ppOk s = true) : ∃ A B : Nat, A < 2 ^ 32 ∧ B ≤ 32 ∧ ppA s = (A : Int) ∧ ppB s = (B : Int) ∧ rightB (A : Int) (B : Int) = true ∧ ptextA (A : Int) (B : Int) = s := by
  have h' := h
  unfold ppOk at h'
  simp only [Bool.and_eq_true] at h'
  obtain ⟨⟨k1, k2⟩, k3⟩ := h'
  obtain ⟨A, a1, a2, a3⟩ := text_parse k1
  obtain ⟨B, b1, b2, b3⟩ := numOK_iff k2
  rw [a2, b1] at k3
  refine ⟨A, B, a1, by omega, ?_, ?_, k3, ?_⟩
  · unfold ppA; rw [if_pos h, a2]
  · unfold ppB; rw [if_pos h, b1]
  · have hx : 0 ≤ ixB s 47 := by
      refine Classical.byContradiction fun hn => ?_
      have : cutB s 47 = ByteArray.mk #[] := by unfold cutB; rw [if_neg hn]
      rw [this] at b3
      exact dig_ne (n := B) (by omega) b3
    have := cut_back s 47 hx
    rw [this, ← b3, ← a3]
    unfold ptextA
    rw [textA_nat, bsA_app, bs_list]
    rfl
theorem pp_no {s : ByteArray} (h : ppOk s = false) : ppA s = 0 ∧ ppB s = 0 := by
  unfold ppA ppB; rw [h]; exact ⟨rfl, rfl⟩
theorem pp_empty : ppOk (ByteArray.mk #[]) = false := by decide +kernel
def s1 : ByteArray := ByteArray.mk #[49, 48, 46, 49, 46, 48, 46, 48, 47, 49, 54]
def s2 : ByteArray := ByteArray.mk #[49, 48, 46, 49, 46, 50, 46, 51]
theorem aw1 : ppA s1 = 167837696 ∧ ppB s1 = 16 ∧ ppOk s1 = true := by decide +kernel
theorem aw2 : parseV s2 = 167838211 ∧ parseOk s2 = true := by decide +kernel
theorem aw3 : holdsB 167837696 16 167838211 = true := by decide +kernel
theorem beq_no {s t : ByteArray} (h : s ≠ t) : (ByteArray.toList s == ByteArray.toList t) = false := by
  rw [beq_eq_false_iff_ne]
  intro e
  rw [Lib.toList_data, Lib.toList_data] at e
  exact h (ByteArray.ext (Array.toList_inj.1 e))
theorem awake3_w : CallK Tryd.prog 5 [] (.bool true) := CallK.via progOK (pfs []) [] 100 (Adv.pur (3 : Nat) (Value.tuple (Array.mk [Value.agg (Array.mk [Value.int IntKind.u32 (167837696 : Int), Value.int IntKind.i64 (16 : Int)]), Value.bool true])) (Adv.pur (11 : Nat) (Value.tuple (Array.mk [Value.int IntKind.u32 (167838211 : Int), Value.bool true])) (Adv.pur (25 : Nat) (Value.bool true) (Adv.pur (29 : Nat) (Value.int IntKind.i64 (4 : Int)) Adv.nil)))) (by kernel_rfl) (by kernel_rfl) (p := CallK Tryd.prog (nat_lit 12) [Value.string (ByteArray.mk #[(49 : UInt8), (48 : UInt8), (46 : UInt8), (49 : UInt8), (46 : UInt8), (48 : UInt8), (46 : UInt8), (48 : UInt8), (47 : UInt8), (49 : UInt8), (54 : UInt8)])] (Value.tuple (Array.mk [Value.agg (Array.mk [Value.int IntKind.u32 (167837696 : Int), Value.int IntKind.i64 (16 : Int)]), Value.bool true])) ∧ CallK Tryd.prog (nat_lit 6) [Value.string (ByteArray.mk #[(49 : UInt8), (48 : UInt8), (46 : UInt8), (49 : UInt8), (46 : UInt8), (50 : UInt8), (46 : UInt8), (51 : UInt8)])] (Value.tuple (Array.mk [Value.int IntKind.u32 (167838211 : Int), Value.bool true])) ∧ CallK Tryd.prog (nat_lit 15) [Value.agg (Array.mk [Value.int IntKind.u32 (167837696 : Int), Value.int IntKind.i64 (16 : Int)]), Value.int IntKind.u32 (167838211 : Int)] (Value.bool true) ∧ CallK Tryd.prog (nat_lit 9) [Value.int IntKind.u32 (167838211 : Int)] (Value.int IntKind.i64 (4 : Int)) ∧ Value.bool true = Value.bool true) (by kernel_rfl) (by
    have w1 := pparse_w s1 (by decide)
    rw [aw1.1, aw1.2.1, aw1.2.2] at w1
    have w2 := parseA_w s2 (by decide)
    rw [aw2.1, aw2.2] at w2
    have w3 := holdsA_w 167837696 16 167838211
    rw [aw3] at w3
    exact ⟨w1, w2, w3, kind_w 167838211 (by decide) (by decide), rfl⟩)
theorem addrTexts_w (a : Int) (s : ByteArray) (h0 : 0 ≤ a) (h1 : a < 4294967296) : CallK Tryd.prog 3 [.int .u32 a, .string s] (.bool true) := CallK.via progOK (pfs []) [] 100 (Adv.split (6 : Nat) (Adv.pur (9 : Nat) (Value.bool true) Adv.nil) (Adv.pur (10 : Nat) (Value.string (textA a)) (Adv.pur (11 : Nat) (Value.tuple (Array.mk [Value.int IntKind.u32 (parseV (textA a)), Value.bool (parseOk (textA a))])) (Adv.split (14 : Nat) (Adv.pur (19 : Nat) (Value.tuple (Array.mk [Value.int IntKind.u32 (parseV s), Value.bool (parseOk s)])) (Adv.split (22 : Nat) (Adv.pur (27 : Nat) (Value.string (textA a)) (Adv.pur (29 : Nat) (Value.string (textA a)) (Adv.split (30 : Nat) (Adv.split (34 : Nat) (Adv.pur (48 : Nat) (Value.string (textA (parseV s))) (Adv.split (50 : Nat) (Adv.pur (56 : Nat) (Value.int IntKind.i64 (kindI a)) (Adv.pur (58 : Nat) (Value.int IntKind.i64 (kindI a)) (Adv.split (59 : Nat) (Adv.pur (62 : Nat) (Value.bool true) Adv.nil) Adv.nil))) Adv.nil)) Adv.nil) Adv.nil))) (Adv.pur (27 : Nat) (Value.string (textA a)) (Adv.pur (29 : Nat) (Value.string (textA a)) (Adv.split (30 : Nat) (Adv.split (34 : Nat) (Adv.split (44 : Nat) (Adv.pur (51 : Nat) (Value.int IntKind.i64 (kindI a)) (Adv.pur (53 : Nat) (Value.int IntKind.i64 (kindI a)) (Adv.split (54 : Nat) (Adv.pur (57 : Nat) (Value.bool true) Adv.nil) Adv.nil))) Adv.nil) Adv.nil) Adv.nil))))) (Adv.pur (19 : Nat) (Value.tuple (Array.mk [Value.int IntKind.u32 (parseV s), Value.bool (parseOk s)])) (Adv.split (22 : Nat) (Adv.pur (27 : Nat) (Value.string (textA a)) (Adv.pur (29 : Nat) (Value.string (textA a)) (Adv.split (30 : Nat) (Adv.split (34 : Nat) Adv.nil Adv.nil) Adv.nil))) (Adv.pur (27 : Nat) (Value.string (textA a)) (Adv.pur (29 : Nat) (Value.string (textA a)) (Adv.split (30 : Nat) (Adv.split (34 : Nat) Adv.nil Adv.nil) Adv.nil))))))))) (by kernel_rfl) (by kernel_rfl) (p := (decide ((↑(ByteArray.size s) : Int) > (60 : Int)) = true → CallK Tryd.prog (nat_lit 5) [] (Value.bool true) ∧ Value.bool true = Value.bool true) ∧ (decide ((↑(ByteArray.size s) : Int) > (60 : Int)) = false → CallK Tryd.prog (nat_lit 7) [Value.int IntKind.u32 a] (Value.string (textA a)) ∧ CallK Tryd.prog (nat_lit 6) [Value.string (textA a)] (Value.tuple (Array.mk [Value.int IntKind.u32 (parseV (textA a)), Value.bool (parseOk (textA a))])) ∧ (parseOk (textA a) = true → CallK Tryd.prog (nat_lit 6) [Value.string s] (Value.tuple (Array.mk [Value.int IntKind.u32 (parseV s), Value.bool (parseOk s)])) ∧ (parseOk s = true → CallK Tryd.prog (nat_lit 7) [Value.int IntKind.u32 a] (Value.string (textA a)) ∧ CallK Tryd.prog (nat_lit 8) [Value.int IntKind.u32 a] (Value.string (textA a)) ∧ ((ByteArray.toList (textA a) == ByteArray.toList (textA a)) = true → ((parseV (textA a) == a) = true → CallK Tryd.prog (nat_lit 8) [Value.int IntKind.u32 (parseV s)] (Value.string (textA (parseV s))) ∧ ((ByteArray.toList (textA (parseV s)) == ByteArray.toList s) = true → CallK Tryd.prog (nat_lit 9) [Value.int IntKind.u32 a] (Value.int IntKind.i64 (kindI a)) ∧ CallK Tryd.prog (nat_lit 10) [Value.int IntKind.u32 a] (Value.int IntKind.i64 (kindI a)) ∧ ((kindI a == kindI a) = true → CallK Tryd.prog (nat_lit 5) [] (Value.bool true) ∧ Value.bool true = Value.bool true) ∧ ((kindI a == kindI a) = false → Value.bool false = Value.bool true)) ∧ ((ByteArray.toList (textA (parseV s)) == ByteArray.toList s) = false → Value.bool false = Value.bool true)) ∧ ((parseV (textA a) == a) = false → Value.bool false = Value.bool true)) ∧ ((ByteArray.toList (textA a) == ByteArray.toList (textA a)) = false → Value.bool false = Value.bool true)) ∧ (parseOk s = false → CallK Tryd.prog (nat_lit 7) [Value.int IntKind.u32 a] (Value.string (textA a)) ∧ CallK Tryd.prog (nat_lit 8) [Value.int IntKind.u32 a] (Value.string (textA a)) ∧ ((ByteArray.toList (textA a) == ByteArray.toList (textA a)) = true → ((parseV (textA a) == a) = true → ((parseV s == (0 : Int)) = true → CallK Tryd.prog (nat_lit 9) [Value.int IntKind.u32 a] (Value.int IntKind.i64 (kindI a)) ∧ CallK Tryd.prog (nat_lit 10) [Value.int IntKind.u32 a] (Value.int IntKind.i64 (kindI a)) ∧ ((kindI a == kindI a) = true → CallK Tryd.prog (nat_lit 5) [] (Value.bool true) ∧ Value.bool true = Value.bool true) ∧ ((kindI a == kindI a) = false → Value.bool false = Value.bool true)) ∧ ((parseV s == (0 : Int)) = false → Value.bool false = Value.bool true)) ∧ ((parseV (textA a) == a) = false → Value.bool false = Value.bool true)) ∧ ((ByteArray.toList (textA a) == ByteArray.toList (textA a)) = false → Value.bool false = Value.bool true))) ∧ (parseOk (textA a) = false → CallK Tryd.prog (nat_lit 6) [Value.string s] (Value.tuple (Array.mk [Value.int IntKind.u32 (parseV s), Value.bool (parseOk s)])) ∧ (parseOk s = true → CallK Tryd.prog (nat_lit 7) [Value.int IntKind.u32 a] (Value.string (textA a)) ∧ CallK Tryd.prog (nat_lit 8) [Value.int IntKind.u32 a] (Value.string (textA a)) ∧ ((ByteArray.toList (textA a) == ByteArray.toList (textA a)) = true → ((parseV (textA a) == a) = true → Value.bool false = Value.bool true) ∧ ((parseV (textA a) == a) = false → Value.bool false = Value.bool true)) ∧ ((ByteArray.toList (textA a) == ByteArray.toList (textA a)) = false → Value.bool false = Value.bool true)) ∧ (parseOk s = false → CallK Tryd.prog (nat_lit 7) [Value.int IntKind.u32 a] (Value.string (textA a)) ∧ CallK Tryd.prog (nat_lit 8) [Value.int IntKind.u32 a] (Value.string (textA a)) ∧ ((ByteArray.toList (textA a) == ByteArray.toList (textA a)) = true → ((parseV (textA a) == a) = true → Value.bool false = Value.bool true) ∧ ((parseV (textA a) == a) = false → Value.bool false = Value.bool true)) ∧ ((ByteArray.toList (textA a) == ByteArray.toList (textA a)) = false → Value.bool false = Value.bool true))))) (by kernel_rfl) (by
    refine ⟨fun _ => ⟨awake3_w, rfl⟩, fun hs => ?_⟩
    have hs : s.size ≤ 1000 := by have := of_decide_eq_false hs; omega
    obtain ⟨A, rfl⟩ := Int.eq_ofNat_of_zero_le h0
    obtain ⟨p1, p2⟩ := parse_text (A := A) (by omega)
    have ht : (textA (A : Int)).size ≤ 1000 := Nat.le_trans (textA_size h0 h1) (by decide)
    have q1 : parseOk s = true → textA (parseV s) = s ∧ 0 ≤ parseV s ∧ parseV s < 4294967296 := fun h => by
      obtain ⟨C, c1, c2, c3⟩ := text_parse h
      rw [c2]; exact ⟨c3, by omega, by omega⟩
    have q2 : parseOk s = false → parseV s = 0 := fun h => by unfold parseV; rw [h]; rfl
    refine ⟨textA_w _ h0 h1, parseA_w _ ht, fun _ => ⟨parseA_w s hs, fun q => ⟨textA_w _ h0 h1, refTextA_w _ h0 h1, fun _ => ⟨fun _ => ⟨refTextA_w _ (q1 q).2.1 (q1 q).2.2, fun _ => ⟨kind_w _ h0 h1, refKind_w _, fun _ => ⟨awake3_w, rfl⟩, fun e => ?_⟩, fun e => ?_⟩, fun e => ?_⟩, fun e => ?_⟩, fun q => ⟨textA_w _ h0 h1, refTextA_w _ h0 h1, fun _ => ⟨fun _ => ⟨fun _ => ⟨kind_w _ h0 h1, refKind_w _, fun _ => ⟨awake3_w, rfl⟩, fun e => ?_⟩, fun e => ?_⟩, fun e => ?_⟩, fun e => ?_⟩⟩, fun e => absurd p1 (by rw [e]; decide)⟩
    all_goals simp_all)
theorem addrPrefixTexts_w (a b : Int) (s : ByteArray) (h0 : 0 ≤ a) (h1 : a < 4294967296) : CallK Tryd.prog 4 [pfx2 a b, .string s] (.bool true) := CallK.via progOK (pfs []) [] 100 (Adv.split (7 : Nat) (Adv.pur (10 : Nat) (Value.bool true) Adv.nil) (Adv.pur (11 : Nat) (Value.string (ptextO a b)) (Adv.pur (15 : Nat) (Value.tuple (Array.mk [Value.agg (Array.mk [Value.int IntKind.u32 (ppA (ptextO a b)), Value.int IntKind.i64 (ppB (ptextO a b))]), Value.bool (ppOk (ptextO a b))])) (Adv.split (18 : Nat) (Adv.pur (24 : Nat) (Value.tuple (Array.mk [Value.agg (Array.mk [Value.int IntKind.u32 (ppA s), Value.int IntKind.i64 (ppB s)]), Value.bool (ppOk s)])) (Adv.split (27 : Nat) (Adv.purs (34 : Nat) (refRightB a b) (Adv.pur (40 : Nat) (Value.string (ptextA a b)) (Adv.split (41 : Nat) (Adv.chks (45 : Nat) none (Adv.purs (59 : Nat) (refRightB (ppA s) (ppB s)) (Adv.pur (63 : Nat) (Value.string (ptextA (ppA s) (ppB s))) (Adv.split (65 : Nat) (Adv.pur (70 : Nat) (Value.bool true) Adv.nil) Adv.nil)) Adv.nil) Adv.nil) Adv.nil)) (Adv.split (39 : Nat) Adv.nil Adv.nil)) (Adv.purs (34 : Nat) (refRightB a b) (Adv.pur (40 : Nat) (Value.string (ptextA a b)) (Adv.split (41 : Nat) (Adv.chks (45 : Nat) none (Adv.chks (56 : Nat) none (Adv.pur (62 : Nat) (Value.bool true) Adv.nil) Adv.nil) Adv.nil) Adv.nil)) (Adv.split (39 : Nat) Adv.nil Adv.nil)))) (Adv.pur (24 : Nat) (Value.tuple (Array.mk [Value.agg (Array.mk [Value.int IntKind.u32 (ppA s), Value.int IntKind.i64 (ppB s)]), Value.bool (ppOk s)])) (Adv.split (27 : Nat) (Adv.purs (34 : Nat) (refRightB a b) (Adv.pur (40 : Nat) (Value.string (ptextA a b)) (Adv.split (41 : Nat) (Adv.chks (45 : Nat) none Adv.nil Adv.nil) Adv.nil)) (Adv.split (39 : Nat) (Adv.pur (45 : Nat) (Value.bool true) Adv.nil) Adv.nil)) (Adv.purs (34 : Nat) (refRightB a b) (Adv.pur (40 : Nat) (Value.string (ptextA a b)) (Adv.split (41 : Nat) (Adv.chks (45 : Nat) none Adv.nil Adv.nil) Adv.nil)) (Adv.split (39 : Nat) (Adv.pur (45 : Nat) (Value.bool true) Adv.nil) Adv.nil)))))))) (by kernel_rfl) (by kernel_rfl) (p := (decide ((↑(ByteArray.size s) : Int) > (60 : Int)) = true → CallK Tryd.prog (nat_lit 5) [] (Value.bool true) ∧ Value.bool true = Value.bool true) ∧ (decide ((↑(ByteArray.size s) : Int) > (60 : Int)) = false → CallK Tryd.prog (nat_lit 11) [Value.agg (Array.mk [Value.int IntKind.u32 a, Value.int IntKind.i64 b])] (Value.string (ptextO a b)) ∧ CallK Tryd.prog (nat_lit 12) [Value.string (ptextO a b)] (Value.tuple (Array.mk [Value.agg (Array.mk [Value.int IntKind.u32 (ppA (ptextO a b)), Value.int IntKind.i64 (ppB (ptextO a b))]), Value.bool (ppOk (ptextO a b))])) ∧ (ppOk (ptextO a b) = true → CallK Tryd.prog (nat_lit 12) [Value.string s] (Value.tuple (Array.mk [Value.agg (Array.mk [Value.int IntKind.u32 (ppA s), Value.int IntKind.i64 (ppB s)]), Value.bool (ppOk s)])) ∧ (ppOk s = true → CallK Tryd.prog (nat_lit 13) [Value.agg (Array.mk [Value.int IntKind.u32 a, Value.int IntKind.i64 b])] (Value.bool (refRightB a b)) ∧ (refRightB a b = true → CallK Tryd.prog (nat_lit 14) [Value.agg (Array.mk [Value.int IntKind.u32 a, Value.int IntKind.i64 b])] (Value.string (ptextA a b)) ∧ ((ByteArray.toList (ptextO a b) == ByteArray.toList (ptextA a b)) = true → True ∧ ((ppA (ptextO a b) == a && ppB (ptextO a b) == b) = true → CallK Tryd.prog (nat_lit 13) [Value.agg (Array.mk [Value.int IntKind.u32 (ppA s), Value.int IntKind.i64 (ppB s)])] (Value.bool (refRightB (ppA s) (ppB s))) ∧ (refRightB (ppA s) (ppB s) = true → CallK Tryd.prog (nat_lit 14) [Value.agg (Array.mk [Value.int IntKind.u32 (ppA s), Value.int IntKind.i64 (ppB s)])] (Value.string (ptextA (ppA s) (ppB s))) ∧ ((ByteArray.toList (ptextA (ppA s) (ppB s)) == ByteArray.toList s) = true → CallK Tryd.prog (nat_lit 5) [] (Value.bool true) ∧ Value.bool true = Value.bool true) ∧ ((ByteArray.toList (ptextA (ppA s) (ppB s)) == ByteArray.toList s) = false → Value.bool false = Value.bool true)) ∧ (refRightB (ppA s) (ppB s) = false → Value.bool false = Value.bool true)) ∧ ((ppA (ptextO a b) == a && ppB (ptextO a b) == b) = false → Value.bool false = Value.bool true)) ∧ ((ByteArray.toList (ptextO a b) == ByteArray.toList (ptextA a b)) = false → Value.bool false = Value.bool true)) ∧ (refRightB a b = false → ((ByteArray.toList (ptextO a b) == ByteArray.toList (ByteArray.mk #[])) = true → Value.bool false = Value.bool true) ∧ ((ByteArray.toList (ptextO a b) == ByteArray.toList (ByteArray.mk #[])) = false → Value.bool false = Value.bool true))) ∧ (ppOk s = false → CallK Tryd.prog (nat_lit 13) [Value.agg (Array.mk [Value.int IntKind.u32 a, Value.int IntKind.i64 b])] (Value.bool (refRightB a b)) ∧ (refRightB a b = true → CallK Tryd.prog (nat_lit 14) [Value.agg (Array.mk [Value.int IntKind.u32 a, Value.int IntKind.i64 b])] (Value.string (ptextA a b)) ∧ ((ByteArray.toList (ptextO a b) == ByteArray.toList (ptextA a b)) = true → True ∧ ((ppA (ptextO a b) == a && ppB (ptextO a b) == b) = true → True ∧ ((ppA s == (0 : Int) && ppB s == (0 : Int)) = true → CallK Tryd.prog (nat_lit 5) [] (Value.bool true) ∧ Value.bool true = Value.bool true) ∧ ((ppA s == (0 : Int) && ppB s == (0 : Int)) = false → Value.bool false = Value.bool true)) ∧ ((ppA (ptextO a b) == a && ppB (ptextO a b) == b) = false → Value.bool false = Value.bool true)) ∧ ((ByteArray.toList (ptextO a b) == ByteArray.toList (ptextA a b)) = false → Value.bool false = Value.bool true)) ∧ (refRightB a b = false → ((ByteArray.toList (ptextO a b) == ByteArray.toList (ByteArray.mk #[])) = true → Value.bool false = Value.bool true) ∧ ((ByteArray.toList (ptextO a b) == ByteArray.toList (ByteArray.mk #[])) = false → Value.bool false = Value.bool true)))) ∧ (ppOk (ptextO a b) = false → CallK Tryd.prog (nat_lit 12) [Value.string s] (Value.tuple (Array.mk [Value.agg (Array.mk [Value.int IntKind.u32 (ppA s), Value.int IntKind.i64 (ppB s)]), Value.bool (ppOk s)])) ∧ (ppOk s = true → CallK Tryd.prog (nat_lit 13) [Value.agg (Array.mk [Value.int IntKind.u32 a, Value.int IntKind.i64 b])] (Value.bool (refRightB a b)) ∧ (refRightB a b = true → CallK Tryd.prog (nat_lit 14) [Value.agg (Array.mk [Value.int IntKind.u32 a, Value.int IntKind.i64 b])] (Value.string (ptextA a b)) ∧ ((ByteArray.toList (ptextO a b) == ByteArray.toList (ptextA a b)) = true → True ∧ ((ppA (ptextO a b) == a && ppB (ptextO a b) == b) = true → Value.bool false = Value.bool true) ∧ ((ppA (ptextO a b) == a && ppB (ptextO a b) == b) = false → Value.bool false = Value.bool true)) ∧ ((ByteArray.toList (ptextO a b) == ByteArray.toList (ptextA a b)) = false → Value.bool false = Value.bool true)) ∧ (refRightB a b = false → ((ByteArray.toList (ptextO a b) == ByteArray.toList (ByteArray.mk #[])) = true → CallK Tryd.prog (nat_lit 5) [] (Value.bool true) ∧ Value.bool true = Value.bool true) ∧ ((ByteArray.toList (ptextO a b) == ByteArray.toList (ByteArray.mk #[])) = false → Value.bool false = Value.bool true))) ∧ (ppOk s = false → CallK Tryd.prog (nat_lit 13) [Value.agg (Array.mk [Value.int IntKind.u32 a, Value.int IntKind.i64 b])] (Value.bool (refRightB a b)) ∧ (refRightB a b = true → CallK Tryd.prog (nat_lit 14) [Value.agg (Array.mk [Value.int IntKind.u32 a, Value.int IntKind.i64 b])] (Value.string (ptextA a b)) ∧ ((ByteArray.toList (ptextO a b) == ByteArray.toList (ptextA a b)) = true → True ∧ ((ppA (ptextO a b) == a && ppB (ptextO a b) == b) = true → Value.bool false = Value.bool true) ∧ ((ppA (ptextO a b) == a && ppB (ptextO a b) == b) = false → Value.bool false = Value.bool true)) ∧ ((ByteArray.toList (ptextO a b) == ByteArray.toList (ptextA a b)) = false → Value.bool false = Value.bool true)) ∧ (refRightB a b = false → ((ByteArray.toList (ptextO a b) == ByteArray.toList (ByteArray.mk #[])) = true → CallK Tryd.prog (nat_lit 5) [] (Value.bool true) ∧ Value.bool true = Value.bool true) ∧ ((ByteArray.toList (ptextO a b) == ByteArray.toList (ByteArray.mk #[])) = false → Value.bool false = Value.bool true)))))) (by kernel_rfl) (by
    refine ⟨fun _ => ⟨awake3_w, rfl⟩, fun hs => ?_⟩
    have hs : s.size ≤ 1000 := by have := of_decide_eq_false hs; omega
    obtain ⟨A, rfl⟩ := Int.eq_ofNat_of_zero_le h0
    have re := right_eq A b (by omega)
    have q1 : ppOk s = true → (0 ≤ ppA s ∧ ppA s < 4294967296 ∧ 0 ≤ ppB s ∧ ppB s ≤ 32) ∧ refRightB (ppA s) (ppB s) = true ∧ ptextA (ppA s) (ppB s) = s := fun h => by
      obtain ⟨C, D, c1, c2, c3, c4, c5, c6⟩ := text_pp h
      rw [c3, c4, ← right_eq C D (by omega)]
      exact ⟨⟨by omega, by omega, by omega, by omega⟩, c5, c6⟩
    have q2 : ppOk s = false → ppA s = 0 ∧ ppB s = 0 := pp_no
    have r1 : refRightB (A : Int) b = true → 0 ≤ b ∧ b ≤ 32 := fun h => rightB_bits (re.trans h)
    have ho : (ptextO (A : Int) b).size ≤ 1000 := by
      unfold ptextO
      split
      · rename_i h
        obtain ⟨b0, b1⟩ := rightB_bits h
        have l := itoaA_len (n := b) (by omega) (by omega)
        have t := textA_size h0 h1
        unfold ptextA
        rw [bsA_size, bsA_size, bs_size, show (ByteArray.mk #[(47 : UInt8)]).size = 1 from rfl]; omega
      · decide
    have t1 : refRightB (A : Int) b = true → ptextO (A : Int) b = ptextA (A : Int) b ∧ ppOk (ptextA (A : Int) b) = true ∧ ppA (ptextA (A : Int) b) = (A : Int) ∧ ppB (ptextA (A : Int) b) = b := fun h => by
      have hr := re.trans h
      obtain ⟨b0, b1⟩ := rightB_bits hr
      obtain ⟨B, rfl⟩ := Int.eq_ofNat_of_zero_le b0
      have e : ptextO (A : Int) (B : Int) = ptextA (A : Int) (B : Int) := by unfold ptextO; rw [if_pos hr]
      exact ⟨e, pp_text (by omega) (by omega) hr⟩
    have t2 : refRightB (A : Int) b = false → ptextO (A : Int) b = ByteArray.mk #[] ∧ ppOk (ptextO (A : Int) b) = false := fun h => by
      have e : ptextO (A : Int) b = ByteArray.mk #[] := by unfold ptextO; rw [re.trans h]; rfl
      rw [e]; exact ⟨rfl, pp_empty⟩
    repeat' (first | exact awake3_w | exact trivial | exact ptext_w _ _ h0 h1 | exact pparse_w _ ho | exact pparse_w s hs | exact refRight_w _ _ | exact refPtext_w _ _ h0 h1 (r1 (by assumption)).1 (r1 (by assumption)).2 | exact refPtext_w _ _ (q1 (by assumption)).1.1 (q1 (by assumption)).1.2.1 (q1 (by assumption)).1.2.2.1 (q1 (by assumption)).1.2.2.2 | apply And.intro | intro)
    all_goals (cases hR : refRightB (A : Int) b <;> cases hO : ppOk s <;> simp_all))
end Go.Proofs.YtkoomfldnbpndaaDoor

end
