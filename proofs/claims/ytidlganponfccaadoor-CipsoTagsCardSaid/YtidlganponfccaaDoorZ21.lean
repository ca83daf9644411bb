/- Texts packed together: CShelfB CCip1 CCipRow CCip2. -/
import Derived.Shelf.Strings.Trim
import Derived.Ground.Names2Prog
import Derived.Test.YtidlganponfccaaDoorProg
import Derived.Test.YtidlganponfccaaDoorZ20
section
/- Contracts of Go's library at this program: laid by the kit's shelf. -/
set_option linter.unusedVariables false
set_option linter.unusedSimpArgs false
namespace Go.Proofs.YtidlganponfccaaDoor
open Go.Proofs Go.Shelf
set_option linter.unusedVariables false
def Shelf.lays162_ren : Go.Shelf.Ren := ⟨fun | 162 => 95 | 232 => 117 | 227 => 118 | 234 => 119 | 236 => 120 | 228 => 139 | 271 => 140 | 151 => 141 | 120 => 152 | 197 => 126 | 152 => 153 | 260 => 142 | 137 => 156 | 119 => 157 | 224 => 134 | 225 => 133 | 217 => 132 | 266 => 148 | n => n, fun | 9 => 9 | 4 => 4 | 3 => 3 | 5 => 5 | 117 => 150 | 116 => 149 | 0 => 0 | 124 => 153 | 21 => 21 | 105 => 160 | 46 => 124 | 119 => 190 | 139 => 193 | 138 => 192 | n => n, fun | 3 => 4 | 4 => 5 | n => n⟩
theorem Shelf.lays162 : Go.Proofs.Lays.n162 Tryd.prog Shelf.lays162_ren := {
  mixed := by kernel_rfl
  f119 := Tryd.func157.trans (congrArg some (by kernel_rfl))
  f120 := Tryd.func152.trans (congrArg some (by kernel_rfl))
  f137 := Tryd.func156.trans (congrArg some (by kernel_rfl))
  f151 := Tryd.func141.trans (congrArg some (by kernel_rfl))
  f152 := Tryd.func153.trans (congrArg some (by kernel_rfl))
  f162 := Tryd.func95.trans (congrArg some (by kernel_rfl))
  f197 := Tryd.func126.trans (congrArg some (by kernel_rfl))
  f217 := Tryd.func132.trans (congrArg some (by kernel_rfl))
  f224 := Tryd.func134.trans (congrArg some (by kernel_rfl))
  f225 := Tryd.func133.trans (congrArg some (by kernel_rfl))
  f227 := Tryd.func118.trans (congrArg some (by kernel_rfl))
  f228 := Tryd.func139.trans (congrArg some (by kernel_rfl))
  f232 := Tryd.func117.trans (congrArg some (by kernel_rfl))
  f234 := Tryd.func119.trans (congrArg some (by kernel_rfl))
  f236 := Tryd.func120.trans (congrArg some (by kernel_rfl))
  f260 := Tryd.func142.trans (congrArg some (by kernel_rfl))
  f266 := Tryd.func148.trans (congrArg some (by kernel_rfl))
  f271 := Tryd.func140.trans (congrArg some (by kernel_rfl))
  t0 := Tryd.underlying0
  a0 := Tryd.isAgg0
  z0 := Tryd.sizeOf0
  v0 := Tryd.zeroValue0
  t3 := Tryd.underlying3
  a3 := Tryd.isAgg3
  z3 := Tryd.sizeOf3
  v3 := Tryd.zeroValue3
  t4 := Tryd.underlying4
  a4 := Tryd.isAgg4
  z4 := Tryd.sizeOf4
  v4 := Tryd.zeroValue4
  t5 := Tryd.underlying5
  a5 := Tryd.isAgg5
  z5 := Tryd.sizeOf5
  v5 := Tryd.zeroValue5
  t9 := Tryd.underlying9
  a9 := Tryd.isAgg9
  z9 := Tryd.sizeOf9
  v9 := Tryd.zeroValue9
  t21 := Tryd.underlying21
  a21 := Tryd.isAgg21
  z21 := Tryd.sizeOf21
  v21 := Tryd.zeroValue21
  t46 := Tryd.underlying124
  a46 := Tryd.isAgg124
  z46 := Tryd.sizeOf124
  v46 := Tryd.zeroValue124
  t105 := Tryd.underlying160
  a105 := Tryd.isAgg160
  z105 := Tryd.sizeOf160
  v105 := Tryd.zeroValue160
  t116 := Tryd.underlying149
  a116 := Tryd.isAgg149
  z116 := Tryd.sizeOf149
  t117 := Tryd.underlying150
  a117 := Tryd.isAgg150
  z117 := Tryd.sizeOf150
  v117 := Tryd.zeroValue150
  t119 := Tryd.underlying190
  a119 := Tryd.isAgg190
  z119 := Tryd.sizeOf190
  t124 := Tryd.underlying153
  a124 := Tryd.isAgg153
  z124 := Tryd.sizeOf153
  v124 := Tryd.zeroValue153
  t138 := Tryd.underlying192
  a138 := Tryd.isAgg192
  z138 := Tryd.sizeOf192
  v138 := Tryd.zeroValue192
  t139 := Tryd.underlying193
  a139 := Tryd.isAgg193
  z139 := Tryd.sizeOf193
  v139 := Tryd.zeroValue193
  g3 := by kernel_rfl
  g4 := by kernel_rfl }
open Go.RowKit in
theorem Shelf.strings_TrimRight_one (s : ByteArray) (c : UInt8) (hc : c.toNat < 128) (w : World) (hs : s.size ≤ 9223372036854775807) :
    Calls Tryd.prog 95 #[.string s, .string ⟨#[c]⟩] w fun e w' => e = .returned (.string ⟨(Lib.trimRightB s.data.toList c).toArray⟩) ∧ w' = w := Any.strings_TrimRight_one Shelf.lays162 s c hc w hs
end Go.Proofs.YtidlganponfccaaDoor

end
section
/- Tags, their bytes: shorts and words, what is left of a text without zeros behind it. -/
set_option linter.unusedVariables false
set_option linter.unusedSimpArgs false
set_option maxRecDepth 100000
namespace Go.Proofs.YtidlganponfccaaDoor
open Go Go.Ideal
theorem short_w (n : Int) (h0 : 0 ≤ n) (h1 : n ≤ 65535) : CallK Tryd.prog 74 [.int .i64 n] (.string (bs (shortB n))) := CallK.via progOK (pfs []) [] 100 (Adv.nil) (by kernel_rfl) (by kernel_rfl) (p := Value.string (ByteArray.mk (List.toArray ((fun (x : List UInt8) => UInt8.ofNat (Int.toNat (IntKind.wrap IntKind.u8 (IntKind.wrap IntKind.i64 (Int.tdiv n (256 : Int))))) :: x) ((fun (x : List UInt8) => UInt8.ofNat (Int.toNat (IntKind.wrap IntKind.u8 (Int.tmod n (256 : Int)))) :: x) [])))) = Value.string (bs (shortB n))) (by kernel_rfl) (by
    have t : n.tdiv 256 = n / 256 := Int.tdiv_eq_ediv_of_nonneg h0
    have e : IntKind.i64.wrap (n.tdiv 256) = n.tdiv 256 := wrap_in (by omega) (by omega)
    rw [e]
    rfl)
theorem word_w (n : Int) : CallK Tryd.prog 76 [.int .u32 n] (.string (bs (wordB n))) := CallK.via progOK (pfs []) [] 100 (Adv.nil) (by kernel_rfl) (by kernel_rfl) (p := Value.string (ByteArray.mk (List.toArray ((fun (x : List UInt8) => UInt8.ofNat (Int.toNat (IntKind.wrap IntKind.u8 (Int.fdiv n ((2 : Int) ^ min (Int.toNat (24 : Int)) (IntKind.bits IntKind.u32))))) :: x) ((fun (x : List UInt8) => UInt8.ofNat (Int.toNat (IntKind.wrap IntKind.u8 (Int.fdiv n ((2 : Int) ^ min (Int.toNat (16 : Int)) (IntKind.bits IntKind.u32))))) :: x) ((fun (x : List UInt8) => UInt8.ofNat (Int.toNat (IntKind.wrap IntKind.u8 (Int.fdiv n ((2 : Int) ^ min (Int.toNat (8 : Int)) (IntKind.bits IntKind.u32))))) :: x) ((fun (x : List UInt8) => UInt8.ofNat (Int.toNat (IntKind.wrap IntKind.u8 n)) :: x) [])))))) = Value.string (bs (wordB n))) (by kernel_rfl) (by
    trivial)
theorem trimR_w (l : Bs) (h : l.length ≤ 1000) : CallK Tryd.prog 95 [.string (bs l), .string (ByteArray.mk #[0])] (.string (bs (trimZ l))) := CallK.ofSame rfl rfl fun w => by
  refine (Shelf.strings_TrimRight_one (bs l) 0 (by decide) w (by rw [bs_size]; omega)).mono fun e w' ⟨q1, q2⟩ => ⟨?_, q2⟩
  rw [q1]
  rfl
end Go.Proofs.YtidlganponfccaaDoor

end
section
/- Runs in a row of a pool: what is read, written, added, turned about. -/
set_option linter.unusedVariables false
set_option linter.unusedSimpArgs false
namespace Go.Proofs.YtidlganponfccaaDoor
open Go Go.Ideal
def pr2 (p : Int × Int) : List Value := [.int .i64 p.1, .int .i64 p.2]
theorem pr2_length (p : Int × Int) : (pr2 p).length = 2 := rfl
def prsL (l : List (Int × Int)) : List Value := cellsOf pr2 l
theorem prsL_length (l : List (Int × Int)) : (prsL l).length = l.length * 2 := cellsOf_length pr2_length l
def prsV (l : List (Int × Int)) : Value := vsl l.length (prsL l).toArray
theorem prsL_snoc (l : List (Int × Int)) (p : Int × Int) : prsL (l ++ [p]) = prsL l ++ pr2 p := cellsOf_snoc _ _ _
theorem prs_part {P : Program} {l : List (Int × Int)} {k r m : Nat} (hk : k < l.length) (hr : r + m ≤ 2) {o : Nat} (ho : o = k * 2 + r) {out : List Value} (he : ((pr2 (l.getD k (0, 0))).drop r).take m = out) : (Ask.part (prsL l) o m out).holds P := by
  subst ho
  exact cellsOf_part (f := pr2) pr2_length (0, 0) hk r m hr out he
theorem cells_splice {α : Type} {f : α → List Value} {n : Nat} (hf : ∀ a, (f a).length = n) {l : List α} {k : Nat} (hk : k < l.length) (a : α) : splice (cellsOf f l) (k * n) (f a) = cellsOf f (l.set k a) := by
  unfold splice
  rw [List.set_eq_take_append_cons_drop, if_pos hk, cellsOf_append, cellsOf_take hf, hf, show k * n + n = (k + 1) * n by rw [Nat.succ_mul], cellsOf_drop hf l (k + 1) hk]
  simp [cellsOf]
theorem prs_put2 {l : List (Int × Int)} {k : Nat} (hk : k < l.length) (p : Int × Int) {o : Nat} (ho : o = k * 2) : splice (prsL l) o (pr2 p) = prsL (l.set k p) := by
  subst ho
  exact cells_splice pr2_length hk p
theorem prs_put1 {l : List (Int × Int)} {k : Nat} (hk : k < l.length) (y : Int) {o : Nat} (ho : o = k * 2 + 1) : splice (prsL l) o [.int .i64 y] = prsL (l.set k ((l.getD k (0, 0)).1, y)) := by
  subst ho
  rw [← prs_put2 hk _ rfl]
  unfold splice
  have e : (prsL l).take (k * 2 + 1) = (prsL l).take (k * 2) ++ [.int .i64 (l.getD k (0, 0)).1] := by
    have hl : k * 2 < (prsL l).length := by rw [prsL_length]; omega
    have h := (prs_part (P := default) (l := l) (m := 1) (r := 0) hk (by omega) rfl (out := [.int .i64 (l.getD k (0, 0)).1]) rfl).2
    rw [Nat.add_zero] at h
    rw [List.take_add, h]
  rw [e]
  simp [pr2]
/-- What was there is dead, and the list. -/
def rowsR (m : Nat) (l : List (Int × Int)) : List Row := List.replicate m .dead ++ [.cells (prsL l)]
theorem rowsR_len (m : Nat) (l : List (Int × Int)) : (rowsR m l).length = m + 1 := by simp [rowsR]
theorem rowsR_get (m : Nat) (l : List (Int × Int)) : (rowsR m l)[m]? = some (.cells (prsL l)) := by simp [rowsR]
theorem rowsR_cells (m : Nat) (l : List (Int × Int)) : cellsAt (rowsR m l) m = prsL l := by unfold cellsAt; rw [rowsR_get]
theorem rowsR_move (m : Nat) (l : List (Int × Int)) (p : Int × Int) : moveAt (rowsR m l) m (pr2 p) = rowsR (m + 1) (l ++ [p]) := by
  unfold moveAt
  rw [rowsR_cells]
  unfold rowsR
  rw [List.set_append_right _ _ (by simp), prsL_snoc]
  simp [List.replicate_succ']
theorem rowsR_put {m : Nat} {l l' : List (Int × Int)} {o : Nat} {vs : List Value} (h : splice (prsL l) o vs = prsL l') : putAt (rowsR m l) m o vs = rowsR m l' := by
  unfold putAt
  rw [rowsR_cells, h]
  unfold rowsR
  rw [List.set_append_right _ _ (by simp)]
  simp
theorem rowsR_put2 {m : Nat} {l : List (Int × Int)} {k : Nat} (hk : k < l.length) (p : Int × Int) {o : Nat} (ho : o = k * 2) : putAt (rowsR m l) m o (pr2 p) = rowsR m (l.set k p) := rowsR_put (prs_put2 hk p ho)
theorem rowsR_put1 {m : Nat} {l : List (Int × Int)} {k : Nat} (hk : k < l.length) (y : Int) {o : Nat} (ho : o = k * 2 + 1) : putAt (rowsR m l) m o [.int .i64 y] = rowsR m (l.set k ((l.getD k (0, 0)).1, y)) := rowsR_put (prs_put1 hk y ho)
theorem rowsR_row {P : Program} {m : Nat} {l : List (Int × Int)} {k r n : Nat} (hk : k < l.length) (hr : r + n ≤ 2) {o : Nat} (ho : o = k * 2 + r) {out : List Value} (he : ((pr2 (l.getD k (0, 0))).drop r).take n = out) : (Ask.row (rowsR m l) m o n out).holds P :=
  Ask.row_of (rowsR_get m l) (prs_part (P := P) hk hr ho he).1 (prs_part (P := P) hk hr ho he).2
theorem rowsR_space {P : Program} {m : Nat} {l : List (Int × Int)} {n : Nat} (h : n ≤ l.length * 2) : (Ask.space (rowsR m l) m n).holds P := Ask.space_of (rowsR_get m l) (by rw [prsL_length]; exact h)
theorem rowsR_full {P : Program} {m : Nat} {l : List (Int × Int)} {n : Nat} (h : n = l.length * 2) : (Ask.full (rowsR m l) m n).holds P := Ask.full_of (rowsR_get m l) (by rw [prsL_length]; exact h.symm)
/-! ### turned about, from both ends -/
def swapL (L : List (Int × Int)) (i : Nat) : List (Int × Int) := (List.range L.length).map fun p => if p < i ∨ L.length - i ≤ p then L.getD (L.length - 1 - p) (0, 0) else L.getD p (0, 0)
theorem swap_length (L : List (Int × Int)) (i : Nat) : (swapL L i).length = L.length := by simp [swapL]
theorem swap_get (L : List (Int × Int)) (i : Nat) {p : Nat} (hp : p < L.length) : (swapL L i).getD p (0, 0) = if p < i ∨ L.length - i ≤ p then L.getD (L.length - 1 - p) (0, 0) else L.getD p (0, 0) := by
  simp [swapL, hp]
theorem list_ext {α : Type} (d : α) {a b : List α} (hl : a.length = b.length) (h : ∀ p, p < a.length → a.getD p d = b.getD p d) : a = b := by
  apply List.ext_getElem hl
  intro i h1 h2
  have := h i h1
  simpa [List.getD, h1, h2] using this
theorem swap_zero (L : List (Int × Int)) : swapL L 0 = L := list_ext (0, 0) (swap_length L 0) fun p hp => by
  rw [swap_length] at hp
  rw [swap_get L 0 hp, if_neg (by omega)]
theorem swap_end {L : List (Int × Int)} {i : Nat} (h : L.length ≤ 2 * i + 1) : swapL L i = L.reverse := list_ext (0, 0) (by rw [swap_length, List.length_reverse]) fun p hp => by
  rw [swap_length] at hp
  rw [swap_get L i hp]
  have e : L.reverse.getD p (0, 0) = L.getD (L.length - 1 - p) (0, 0) := by
    simp only [List.getD]
    rw [List.getElem?_reverse hp]
  rw [e]
  split
  · rfl
  · congr 1
    omega
theorem swap_next {L : List (Int × Int)} {i : Nat} (h : 2 * i + 1 < L.length) : ((swapL L i).set i (L.getD (L.length - 1 - i) (0, 0))).set (L.length - 1 - i) (L.getD i (0, 0)) = swapL L (i + 1) := list_ext (0, 0) (by rw [List.length_set, List.length_set, swap_length, swap_length]) fun p hp => by
  rw [List.length_set, List.length_set, swap_length] at hp
  rw [swap_get L (i + 1) hp]
  simp only [List.getD] at *
  rw [List.getElem?_set, List.getElem?_set, List.length_set, swap_length]
  have g := swap_get L i hp
  simp only [List.getD] at g
  by_cases e1 : L.length - 1 - i = p
  · subst e1
    rw [if_pos rfl, if_pos hp, if_pos (by omega)]
    simp only [Option.getD_some]
    congr 2
    omega
  · rw [if_neg e1]
    by_cases e2 : i = p
    · subst e2
      rw [if_pos rfl, if_pos hp, if_pos (by omega)]
      rfl
    · rw [if_neg e2, g]
      by_cases c : p < i ∨ L.length - i ≤ p
      · rw [if_pos c, if_pos (by omega)]
      · rw [if_neg c, if_neg (by omega)]
theorem swap_same (L : List (Int × Int)) {i p : Nat} (h : i ≤ p) (h2 : p < L.length - i) : (swapL L i).getD p (0, 0) = L.getD p (0, 0) := by
  rw [swap_get L i (by omega), if_neg (by omega)]
end Go.Proofs.YtidlganponfccaaDoor

end
section
/- Ranges: the runs of a set, from above. -/
set_option linter.unusedVariables false
set_option linter.unusedSimpArgs false
set_option maxRecDepth 100000
namespace Go.Proofs.YtidlganponfccaaDoor
open Go Go.Ideal
def rnsK (l : List Int) (j : Nat) : List (Int × Int) := runsL (l.take j)
theorem rnsK_next {l : List Int} {j : Nat} (h : j < l.length) : rnsK l (j + 1) = runStep (rnsK l j) (l.getD j 0) := by
  unfold rnsK runsL
  rw [take_snoc 0 h, List.foldl_append]
  rfl
theorem rnsK_all (l : List Int) : rnsK l l.length = runsL l := by unfold rnsK; rw [List.take_length]
theorem runStep_hit {R : List (Int × Int)} {k : Int} (h0 : 0 < R.length) (h : (R.getD (R.length - 1) (0, 0)).2 = k - 1) : runStep R k = R.set (R.length - 1) ((R.getD (R.length - 1) (0, 0)).1, k) := by
  rcases List.eq_nil_or_concat R with rfl | ⟨Q, p, rfl⟩
  · simp at h0
  · simp only [List.concat_eq_append] at *
    have e : (Q ++ [p]).length - 1 = Q.length := by simp
    rw [e] at h ⊢
    have g : (Q ++ [p]).getD Q.length (0, 0) = p := by simp [List.getD]
    rw [g] at h ⊢
    unfold runStep
    simp [h]
theorem runStep_miss {R : List (Int × Int)} {k : Int} (h : R.length = 0 ∨ (R.getD (R.length - 1) (0, 0)).2 ≠ k - 1) : runStep R k = R ++ [(k, k)] := by
  rcases List.eq_nil_or_concat R with rfl | ⟨Q, p, rfl⟩
  · rfl
  · simp only [List.concat_eq_append] at *
    have e : (Q ++ [p]).length - 1 = Q.length := by simp
    have g : (Q ++ [p]).getD Q.length (0, 0) = p := by simp [List.getD]
    rw [e, g] at h
    have h : p.2 ≠ k - 1 := by simpa using h
    unfold runStep
    simp [h]
theorem runsL_len (l : List Int) : ∀ j, (rnsK l j).length ≤ j
  | 0 => Nat.le_refl _
  | j + 1 => by
    by_cases h : j < l.length
    · rw [rnsK_next h]
      have := runsL_len l j
      unfold runStep
      split
      · split
        · simp only [List.length_append, List.length_dropLast, List.length_singleton]; omega
        · simp only [List.length_append, List.length_singleton]; omega
      · simp
    · have := runsL_len l j
      unfold rnsK at *
      rw [List.take_of_length_le (by omega)] at *
      omega
theorem listC_getD (c : List Int) {j : Nat} (h : j < (listC c).length) : 0 ≤ (listC c).getD j 0 ∧ (listC c).getD j 0 < 240 := by
  have hm : (listC c).getD j 0 ∈ listC c := by simp [List.getD, h]
  generalize (listC c).getD j 0 = x at *
  unfold listC listN at hm
  obtain ⟨k, hk, e⟩ := List.mem_map.1 hm
  have := List.mem_range.1 (List.mem_filter.1 hk).1
  omega
theorem rowsOK_R {N : Nat} (m : Nat) (l : List (Int × Int)) : rowsOK N (rowsR m l) := by
  intro row h0
  unfold rowsR at h0
  rcases List.mem_append.1 h0 with h | h
  · rw [(List.mem_replicate.1 h).2]
    trivial
  · rw [List.mem_singleton.1 h]
    clear h h0
    refine List.all_eq_true.2 fun v hv => ?_
    unfold prsL at hv
    induction l with
    | nil => cases hv
    | cons p l ih =>
      simp only [cellsOf, pr2, List.cons_append, List.nil_append, List.mem_cons] at hv
      rcases hv with rfl | rfl | hv
      · rfl
      · rfl
      · exact ih hv
theorem prs_flat {h : Heap} {l : List (Int × Int)} {j : Nat} (hj : j < (prsL l).length) : borV true 1 h ((prsL l).getD j Go.undef) = some ((prsL l).getD j Go.undef) := by
  have : ∃ x, (prsL l).getD j Go.undef = .int .i64 x := by
    have hm : (prsL l).getD j Go.undef ∈ prsL l := by simp [List.getD, hj]
    generalize (prsL l).getD j Go.undef = v at hm
    clear hj
    unfold prsL at hm
    induction l with
    | nil => cases hm
    | cons p l ih =>
      simp only [cellsOf, pr2, List.cons_append, List.nil_append, List.mem_cons] at hm
      rcases hm with rfl | rfl | hm
      · exact ⟨_, rfl⟩
      · exact ⟨_, rfl⟩
      · exact ih hm
  obtain ⟨x, e⟩ := this
  rw [e]
  rfl
theorem one_bytes : ((Tryd.prog.toTables.types[69]).bytes : Int) = 16 := rfl
theorem ranges_w (c : List Int) (hc : CatsOK c) : CallK Tryd.prog 50 [catsV c] (prsV (rngsC c)) := CallK.frzR progOK (pfs []) [3] 100 (Adv.pur (8 : Nat) (Value.iface (nat_lit 1000000) (Value.tuple (Array.mk [Value.int IntKind.i64 (↑(List.length (listC c)) : Int), Value.agg (Array.mk (izL (listC c)))]))) (Adv.weak (11 : Nat) [] (Heap.mk (nat_lit 10) (Trie.node none (Trie.node none Trie.leaf (Trie.node none (Trie.node (some (Blk.pool [])) Trie.leaf Trie.leaf) Trie.leaf)) (Trie.node none (Trie.node none (Trie.node (some (Blk.cells (catsL c) (nat_lit 23) Mode.fix)) Trie.leaf Trie.leaf) Trie.leaf) Trie.leaf))) (Adv.weak (12 : Nat) [(nat_lit 3, Value.iface (nat_lit 1000006) (Value.tuple (Array.mk [Value.int IntKind.i64 (9 : Int), Value.int IntKind.i64 (0 : Int), Value.int IntKind.i64 (2 : Int), Value.int IntKind.i64 (0 : Int), Value.int IntKind.i64 (0 : Int)])))] (Heap.mk (nat_lit 10) (Trie.node none (Trie.node none Trie.leaf (Trie.node none (Trie.node (some (Blk.pool [Row.cells []])) Trie.leaf Trie.leaf) Trie.leaf)) (Trie.node none (Trie.node none (Trie.node (some (Blk.cells (catsL c) (nat_lit 23) Mode.fix)) Trie.leaf Trie.leaf) Trie.leaf) Trie.leaf))) (Adv.loop (13 : Nat) (fun (j : Nat) => [((10 : Nat), Value.int IntKind.i64 (↑j : Int)), ((3 : Nat), rsl (9 : Nat) (List.length (rnsK (listC c) j)) (2 : Nat) (0 : Nat) (↑(List.length (rnsK (listC c) j)) : Int))]) ((fun (h : Heap) (j : Nat) => Heap.set h (9 : Nat) (Blk.pool (rowsR (List.length (rnsK (listC c) j)) (rnsK (listC c) j)))) (Heap.mk (nat_lit 10) (Trie.node none (Trie.node none Trie.leaf (Trie.node none (Trie.node (some (Blk.pool [Row.cells []])) Trie.leaf Trie.leaf) Trie.leaf)) (Trie.node none (Trie.node none (Trie.node (some (Blk.cells (catsL c) (nat_lit 23) Mode.fix)) Trie.leaf Trie.leaf) Trie.leaf) Trie.leaf)))) (fun (i j : Nat) => i + j = List.length (listC c)) (List.length (listC c)) (0 : Nat) fun (i13 s13 : Nat) (j13 : Nat → Value) => Adv.split (15 : Nat) (Adv.chk (20 : Nat) none (Adv.chk (21 : Nat) (some (Value.int IntKind.i64 (List.getD (listC c) s13 (0 : Int)))) (Adv.split (30 : Nat) (Adv.chk (35 : Nat) none (Adv.chk (37 : Nat) (some (Value.int IntKind.i64 (Prod.snd (List.getD (rnsK (listC c) s13) (Int.toNat (IntKind.wrap IntKind.i64 ((↑(List.length (rnsK (listC c) s13)) : Int) - (1 : Int)))) ((0 : Int), (0 : Int)))))) (Adv.split (40 : Nat) (Adv.chk (48 : Nat) none (Adv.chk (50 : Nat) none Adv.nil)) (Adv.chk (48 : Nat) none Adv.nil)))) (Adv.chk (39 : Nat) none Adv.nil)))) (Adv.loop (27 : Nat) (fun (s : Nat) => [((2 : Nat), Value.int IntKind.i64 (↑s : Int)), ((3 : Nat), Value.int IntKind.i64 ((↑(List.length (rngsC c)) : Int) - (1 : Int) - (↑s : Int)))]) ((fun (h : Heap) (s : Nat) => Heap.set h (9 : Nat) (Blk.pool (rowsR (List.length (rngsC c)) (swapL (runsL (listC c)) s)))) (Heap.mk (nat_lit 10) (Trie.node none (Trie.node none Trie.leaf (Trie.node none (Trie.node (some (Blk.pool (rowsR (List.length (rnsK (listC c) s13)) (rnsK (listC c) s13)))) Trie.leaf Trie.leaf) Trie.leaf)) (Trie.node none (Trie.node none (Trie.node (some (Blk.cells (catsL c) (nat_lit 23) Mode.fix)) Trie.leaf Trie.leaf) Trie.leaf) Trie.leaf)))) (fun (i s : Nat) => i + s = List.length (rngsC c) / (2 : Nat)) (List.length (rngsC c) / (2 : Nat)) (0 : Nat) fun (i27 s27 : Nat) (j27 : Nat → Value) => Adv.split (32 : Nat) (Adv.chk (41 : Nat) none (Adv.chk (42 : Nat) (some (Value.agg (Array.mk [Value.int IntKind.i64 (Prod.fst (List.getD (swapL (runsL (listC c)) s27) (Int.toNat ((↑(List.length (rngsC c)) : Int) - (1 : Int) - (↑s27 : Int))) ((0 : Int), (0 : Int)))), Value.int IntKind.i64 (Prod.snd (List.getD (swapL (runsL (listC c)) s27) (Int.toNat ((↑(List.length (rngsC c)) : Int) - (1 : Int) - (↑s27 : Int))) ((0 : Int), (0 : Int))))]))) (Adv.chk (45 : Nat) none (Adv.chk (46 : Nat) (some (Value.agg (Array.mk [Value.int IntKind.i64 (Prod.fst (List.getD (swapL (runsL (listC c)) s27) s27 ((0 : Int), (0 : Int)))), Value.int IntKind.i64 (Prod.snd (List.getD (swapL (runsL (listC c)) s27) s27 ((0 : Int), (0 : Int))))]))) (Adv.chk (47 : Nat) none (Adv.chk (48 : Nat) none (Adv.chk (49 : Nat) none (Adv.chk (50 : Nat) none Adv.nil)))))))) Adv.nil))))) (by kernel_rfl) (by kernel_rfl) (p := CallK Tryd.prog (nat_lit 23) [Value.agg (Array.mk (catsL c))] (Value.iface (nat_lit 1000000) (Value.tuple (Array.mk [Value.int IntKind.i64 (↑(List.length (listC c)) : Int), Value.agg (Array.mk (izL (listC c)))]))) ∧ Weak Tryd.prog [Value.agg (Array.mk (catsL c)), Value.pointer (some (Addr.mk (nat_lit 8) (nat_lit 0) none)), Value.slice none (nat_lit 0) (nat_lit 0), Value.slice none (nat_lit 0) (nat_lit 0), Value.tuple (Array.mk []), Value.tuple (Array.mk []), Value.tuple (Array.mk []), Value.agg (Array.mk (catsL c)), Value.iface (nat_lit 1000000) (Value.tuple (Array.mk [Value.int IntKind.i64 (↑(List.length (listC c)) : Int), Value.agg (Array.mk (izL (listC c)))])), Value.int IntKind.i64 (↑(List.length (listC c)) : Int), Value.int IntKind.i64 (0 : Int), Value.tuple (Array.mk []), Value.tuple (Array.mk []), Value.tuple (Array.mk []), Value.tuple (Array.mk []), Value.tuple (Array.mk []), Value.tuple (Array.mk []), Value.tuple (Array.mk []), Value.tuple (Array.mk []), Value.tuple (Array.mk []), Value.tuple (Array.mk []), Value.tuple (Array.mk []), Value.tuple (Array.mk []), Value.tuple (Array.mk []), Value.tuple (Array.mk []), Value.tuple (Array.mk []), Value.tuple (Array.mk []), Value.tuple (Array.mk []), Value.tuple (Array.mk []), Value.tuple (Array.mk []), Value.tuple (Array.mk []), Value.tuple (Array.mk []), Value.tuple (Array.mk []), Value.tuple (Array.mk []), Value.tuple (Array.mk []), Value.tuple (Array.mk []), Value.tuple (Array.mk []), Value.tuple (Array.mk []), Value.tuple (Array.mk []), Value.tuple (Array.mk []), Value.tuple (Array.mk []), Value.tuple (Array.mk []), Value.tuple (Array.mk []), Value.tuple (Array.mk []), Value.tuple (Array.mk [])] (Heap.mk (nat_lit 9) (Trie.node none Trie.leaf (Trie.node none (Trie.node none (Trie.node (some (Blk.cells (catsL c) (nat_lit 23) Mode.fix)) Trie.leaf Trie.leaf) Trie.leaf) Trie.leaf))) [Value.agg (Array.mk (catsL c)), Value.pointer (some (Addr.mk (nat_lit 8) (nat_lit 0) none)), Value.slice none (nat_lit 0) (nat_lit 0), Value.slice none (nat_lit 0) (nat_lit 0), Value.tuple (Array.mk []), Value.tuple (Array.mk []), Value.tuple (Array.mk []), Value.agg (Array.mk (catsL c)), Value.iface (nat_lit 1000000) (Value.tuple (Array.mk [Value.int IntKind.i64 (↑(List.length (listC c)) : Int), Value.agg (Array.mk (izL (listC c)))])), Value.int IntKind.i64 (↑(List.length (listC c)) : Int), Value.int IntKind.i64 (0 : Int), Value.tuple (Array.mk []), Value.tuple (Array.mk []), Value.tuple (Array.mk []), Value.tuple (Array.mk []), Value.tuple (Array.mk []), Value.tuple (Array.mk []), Value.tuple (Array.mk []), Value.tuple (Array.mk []), Value.tuple (Array.mk []), Value.tuple (Array.mk []), Value.tuple (Array.mk []), Value.tuple (Array.mk []), Value.tuple (Array.mk []), Value.tuple (Array.mk []), Value.tuple (Array.mk []), Value.tuple (Array.mk []), Value.tuple (Array.mk []), Value.tuple (Array.mk []), Value.tuple (Array.mk []), Value.tuple (Array.mk []), Value.tuple (Array.mk []), Value.tuple (Array.mk []), Value.tuple (Array.mk []), Value.tuple (Array.mk []), Value.tuple (Array.mk []), Value.tuple (Array.mk []), Value.tuple (Array.mk []), Value.tuple (Array.mk []), Value.tuple (Array.mk []), Value.tuple (Array.mk []), Value.tuple (Array.mk []), Value.tuple (Array.mk []), Value.tuple (Array.mk []), Value.tuple (Array.mk [])] (Heap.mk (nat_lit 10) (Trie.node none (Trie.node none Trie.leaf (Trie.node none (Trie.node (some (Blk.pool [])) Trie.leaf Trie.leaf) Trie.leaf)) (Trie.node none (Trie.node none (Trie.node (some (Blk.cells (catsL c) (nat_lit 23) Mode.fix)) Trie.leaf Trie.leaf) Trie.leaf) Trie.leaf))) ∧ Weak Tryd.prog [Value.agg (Array.mk (catsL c)), Value.pointer (some (Addr.mk (nat_lit 8) (nat_lit 0) none)), Value.slice none (nat_lit 0) (nat_lit 0), Value.slice none (nat_lit 0) (nat_lit 0), Value.tuple (Array.mk []), Value.tuple (Array.mk []), Value.tuple (Array.mk []), Value.agg (Array.mk (catsL c)), Value.iface (nat_lit 1000000) (Value.tuple (Array.mk [Value.int IntKind.i64 (↑(List.length (listC c)) : Int), Value.agg (Array.mk (izL (listC c)))])), Value.int IntKind.i64 (↑(List.length (listC c)) : Int), Value.int IntKind.i64 (0 : Int), Value.tuple (Array.mk []), Value.tuple (Array.mk []), Value.tuple (Array.mk []), Value.tuple (Array.mk []), Value.tuple (Array.mk []), Value.tuple (Array.mk []), Value.tuple (Array.mk []), Value.tuple (Array.mk []), Value.tuple (Array.mk []), Value.tuple (Array.mk []), Value.tuple (Array.mk []), Value.tuple (Array.mk []), Value.tuple (Array.mk []), Value.tuple (Array.mk []), Value.tuple (Array.mk []), Value.tuple (Array.mk []), Value.tuple (Array.mk []), Value.tuple (Array.mk []), Value.tuple (Array.mk []), Value.tuple (Array.mk []), Value.tuple (Array.mk []), Value.tuple (Array.mk []), Value.tuple (Array.mk []), Value.tuple (Array.mk []), Value.tuple (Array.mk []), Value.tuple (Array.mk []), Value.tuple (Array.mk []), Value.tuple (Array.mk []), Value.tuple (Array.mk []), Value.tuple (Array.mk []), Value.tuple (Array.mk []), Value.tuple (Array.mk []), Value.tuple (Array.mk []), Value.tuple (Array.mk [])] (Heap.mk (nat_lit 10) (Trie.node none (Trie.node none Trie.leaf (Trie.node none (Trie.node (some (Blk.pool [])) Trie.leaf Trie.leaf) Trie.leaf)) (Trie.node none (Trie.node none (Trie.node (some (Blk.cells (catsL c) (nat_lit 23) Mode.fix)) Trie.leaf Trie.leaf) Trie.leaf) Trie.leaf))) [Value.agg (Array.mk (catsL c)), Value.pointer (some (Addr.mk (nat_lit 8) (nat_lit 0) none)), Value.slice none (nat_lit 0) (nat_lit 0), Value.iface (nat_lit 1000006) (Value.tuple (Array.mk [Value.int IntKind.i64 (9 : Int), Value.int IntKind.i64 (0 : Int), Value.int IntKind.i64 (2 : Int), Value.int IntKind.i64 (0 : Int), Value.int IntKind.i64 (0 : Int)])), Value.tuple (Array.mk []), Value.tuple (Array.mk []), Value.tuple (Array.mk []), Value.agg (Array.mk (catsL c)), Value.iface (nat_lit 1000000) (Value.tuple (Array.mk [Value.int IntKind.i64 (↑(List.length (listC c)) : Int), Value.agg (Array.mk (izL (listC c)))])), Value.int IntKind.i64 (↑(List.length (listC c)) : Int), Value.int IntKind.i64 (0 : Int), Value.tuple (Array.mk []), Value.tuple (Array.mk []), Value.tuple (Array.mk []), Value.tuple (Array.mk []), Value.tuple (Array.mk []), Value.tuple (Array.mk []), Value.tuple (Array.mk []), Value.tuple (Array.mk []), Value.tuple (Array.mk []), Value.tuple (Array.mk []), Value.tuple (Array.mk []), Value.tuple (Array.mk []), Value.tuple (Array.mk []), Value.tuple (Array.mk []), Value.tuple (Array.mk []), Value.tuple (Array.mk []), Value.tuple (Array.mk []), Value.tuple (Array.mk []), Value.tuple (Array.mk []), Value.tuple (Array.mk []), Value.tuple (Array.mk []), Value.tuple (Array.mk []), Value.tuple (Array.mk []), Value.tuple (Array.mk []), Value.tuple (Array.mk []), Value.tuple (Array.mk []), Value.tuple (Array.mk []), Value.tuple (Array.mk []), Value.tuple (Array.mk []), Value.tuple (Array.mk []), Value.tuple (Array.mk []), Value.tuple (Array.mk []), Value.tuple (Array.mk []), Value.tuple (Array.mk [])] (Heap.mk (nat_lit 10) (Trie.node none (Trie.node none Trie.leaf (Trie.node none (Trie.node (some (Blk.pool [Row.cells []])) Trie.leaf Trie.leaf) Trie.leaf)) (Trie.node none (Trie.node none (Trie.node (some (Blk.cells (catsL c) (nat_lit 23) Mode.fix)) Trie.leaf Trie.leaf) Trie.leaf) Trie.leaf))) ∧ (List.length (listC c) + (0 : Nat) = List.length (listC c) ∧ (Value.int IntKind.i64 (0 : Int) = Value.int IntKind.i64 (0 : Int) ∧ Value.iface (nat_lit 1000006) (Value.tuple (Array.mk [Value.int IntKind.i64 (9 : Int), Value.int IntKind.i64 (0 : Int), Value.int IntKind.i64 (2 : Int), Value.int IntKind.i64 (0 : Int), Value.int IntKind.i64 (0 : Int)])) = Value.iface (nat_lit 1000006) (Value.tuple (Array.mk [Value.int IntKind.i64 (9 : Int), Value.int IntKind.i64 (0 : Int), Value.int IntKind.i64 (2 : Int), Value.int IntKind.i64 (0 : Int), Value.int IntKind.i64 (0 : Int)]))) ∧ Heap.mk (nat_lit 10) (Trie.node none (Trie.node none Trie.leaf (Trie.node none (Trie.node (some (Blk.pool [Row.cells []])) Trie.leaf Trie.leaf) Trie.leaf)) (Trie.node none (Trie.node none (Trie.node (some (Blk.cells (catsL c) (nat_lit 23) Mode.fix)) Trie.leaf Trie.leaf) Trie.leaf) Trie.leaf)) = Heap.mk (nat_lit 10) (Trie.node none (Trie.node none Trie.leaf (Trie.node none (Trie.node (some (Blk.pool [Row.cells (prsL (rnsK (listC c) (0 : Nat)))])) Trie.leaf Trie.leaf) Trie.leaf)) (Trie.node none (Trie.node none (Trie.node (some (Blk.cells (catsL c) (nat_lit 23) Mode.fix)) Trie.leaf Trie.leaf) Trie.leaf) Trie.leaf))) ∧ ∀ (i13 s13 : Nat) (j13 : Nat → Value), i13 + s13 = List.length (listC c) → (decide ((↑s13 : Int) < (↑(List.length (listC c)) : Int)) = true → ((0 : Int) ≤ (↑s13 : Int) ∧ (↑s13 : Int) < (↑(List.length (listC c)) : Int)) ∧ Ask.holds Tryd.prog (Ask.part (Array.toList (Array.mk (izL (listC c)))) (Int.toNat (↑(Int.toNat (↑s13 : Int) * nat_lit 1) : Int)) (nat_lit 1) [Value.int IntKind.i64 (List.getD (listC c) s13 (0 : Int))]) ∧ (decide ((↑(List.length (rnsK (listC c) s13)) : Int) > (0 : Int)) = true → ((0 : Int) ≤ IntKind.wrap IntKind.i64 ((↑(List.length (rnsK (listC c) s13)) : Int) - (1 : Int)) ∧ IntKind.wrap IntKind.i64 ((↑(List.length (rnsK (listC c) s13)) : Int) - (1 : Int)) < (↑(List.length (rnsK (listC c) s13)) : Int)) ∧ Ask.holds Tryd.prog (Ask.row (rowsR (List.length (rnsK (listC c) s13)) (rnsK (listC c) s13)) (List.length (rnsK (listC c) s13)) (Int.toNat (0 : Int) + Int.toNat (IntKind.wrap IntKind.i64 ((↑(List.length (rnsK (listC c) s13)) : Int) - (1 : Int))) * nat_lit 2 + Int.toNat (1 : Int) * nat_lit 1) (nat_lit 1) [Value.int IntKind.i64 (Prod.snd (List.getD (rnsK (listC c) s13) (Int.toNat (IntKind.wrap IntKind.i64 ((↑(List.length (rnsK (listC c) s13)) : Int) - (1 : Int)))) ((0 : Int), (0 : Int))))]) ∧ ((Prod.snd (List.getD (rnsK (listC c) s13) (Int.toNat (IntKind.wrap IntKind.i64 ((↑(List.length (rnsK (listC c) s13)) : Int) - (1 : Int)))) ((0 : Int), (0 : Int))) == IntKind.wrap IntKind.i64 (List.getD (listC c) s13 (0 : Int) - (1 : Int))) = true → ((0 : Int) ≤ IntKind.wrap IntKind.i64 ((↑(List.length (rnsK (listC c) s13)) : Int) - (1 : Int)) ∧ IntKind.wrap IntKind.i64 ((↑(List.length (rnsK (listC c) s13)) : Int) - (1 : Int)) < (↑(List.length (rnsK (listC c) s13)) : Int)) ∧ Ask.holds Tryd.prog (Ask.space (rowsR (List.length (rnsK (listC c) s13)) (rnsK (listC c) s13)) (List.length (rnsK (listC c) s13)) (Int.toNat (0 : Int) + Int.toNat (IntKind.wrap IntKind.i64 ((↑(List.length (rnsK (listC c) s13)) : Int) - (1 : Int))) * nat_lit 2 + Int.toNat (1 : Int) * nat_lit 1 + nat_lit 1)) ∧ ∃ (i13' : Nat), ∃ (s13' : Nat), i13' < i13 ∧ i13' + s13' = List.length (listC c) ∧ (Value.int IntKind.i64 (IntKind.wrap IntKind.i64 ((↑s13 : Int) + (1 : Int))) = Value.int IntKind.i64 (↑s13' : Int) ∧ Value.iface (nat_lit 1000006) (Value.tuple (Array.mk [Value.int IntKind.i64 (9 : Int), Value.int IntKind.i64 (↑(List.length (rnsK (listC c) s13)) : Int), Value.int IntKind.i64 (2 : Int), Value.int IntKind.i64 (0 : Int), Value.int IntKind.i64 (↑(List.length (rnsK (listC c) s13)) : Int)])) = Value.iface (nat_lit 1000006) (Value.tuple (Array.mk [Value.int IntKind.i64 (9 : Int), Value.int IntKind.i64 (↑(List.length (rnsK (listC c) s13')) : Int), Value.int IntKind.i64 (2 : Int), Value.int IntKind.i64 (0 : Int), Value.int IntKind.i64 (↑(List.length (rnsK (listC c) s13')) : Int)]))) ∧ (some (Blk.pool (putAt (rowsR (List.length (rnsK (listC c) s13)) (rnsK (listC c) s13)) (List.length (rnsK (listC c) s13)) (Int.toNat (0 : Int) + Int.toNat (IntKind.wrap IntKind.i64 ((↑(List.length (rnsK (listC c) s13)) : Int) - (1 : Int))) * nat_lit 2 + Int.toNat (1 : Int) * nat_lit 1) (Value.cellList (Value.int IntKind.i64 (List.getD (listC c) s13 (0 : Int)))))) = some (Blk.pool (rowsR (List.length (rnsK (listC c) s13')) (rnsK (listC c) s13'))) ∧ some (Blk.cells (catsL c) (nat_lit 23) Mode.fix) = some (Blk.cells (catsL c) (nat_lit 23) Mode.fix) ∧ True) ∧ true = true ∧ rowsOK (nat_lit 10) (rowsR (List.length (rnsK (listC c) s13')) (rnsK (listC c) s13')) ∧ true = true ∧ True) ∧ ((Prod.snd (List.getD (rnsK (listC c) s13) (Int.toNat (IntKind.wrap IntKind.i64 ((↑(List.length (rnsK (listC c) s13)) : Int) - (1 : Int)))) ((0 : Int), (0 : Int))) == IntKind.wrap IntKind.i64 (List.getD (listC c) s13 (0 : Int) - (1 : Int))) = false → (Ask.holds Tryd.prog (Ask.full (rowsR (List.length (rnsK (listC c) s13)) (rnsK (listC c) s13)) (List.length (rnsK (listC c) s13)) (List.length (rnsK (listC c) s13) * Int.toNat (2 : Int))) ∧ ((↑(List.length (rnsK (listC c) s13)) : Int) + (↑(nat_lit 1) : Int)) * ((↑(TypeInfo.bytes (Tables.types (Program.toTables Tryd.prog))[(69 : Nat)]) : Int) + (1 : Int)) ≤ (1099511627776 : Int)) ∧ ∃ (i13' : Nat), ∃ (s13' : Nat), i13' < i13 ∧ i13' + s13' = List.length (listC c) ∧ (Value.int IntKind.i64 (IntKind.wrap IntKind.i64 ((↑s13 : Int) + (1 : Int))) = Value.int IntKind.i64 (↑s13' : Int) ∧ Value.iface (nat_lit 1000006) (Value.tuple (Array.mk [Value.int IntKind.i64 (9 : Int), Value.int IntKind.i64 (↑(List.length (rowsR (List.length (rnsK (listC c) s13)) (rnsK (listC c) s13))) : Int), Value.int IntKind.i64 (2 : Int), Value.int IntKind.i64 (0 : Int), Value.int IntKind.i64 ((↑(List.length (rnsK (listC c) s13)) : Int) + (↑(nat_lit 1) : Int))])) = Value.iface (nat_lit 1000006) (Value.tuple (Array.mk [Value.int IntKind.i64 (9 : Int), Value.int IntKind.i64 (↑(List.length (rnsK (listC c) s13')) : Int), Value.int IntKind.i64 (2 : Int), Value.int IntKind.i64 (0 : Int), Value.int IntKind.i64 (↑(List.length (rnsK (listC c) s13')) : Int)]))) ∧ (some (Blk.pool (moveAt (rowsR (List.length (rnsK (listC c) s13)) (rnsK (listC c) s13)) (List.length (rnsK (listC c) s13)) (List.take (nat_lit 1 * Int.toNat (2 : Int)) (List.drop (nat_lit 0) [Value.int IntKind.i64 (List.getD (listC c) s13 (0 : Int)), Value.int IntKind.i64 (List.getD (listC c) s13 (0 : Int))])))) = some (Blk.pool (rowsR (List.length (rnsK (listC c) s13')) (rnsK (listC c) s13'))) ∧ some (Blk.cells (catsL c) (nat_lit 23) Mode.fix) = some (Blk.cells (catsL c) (nat_lit 23) Mode.fix) ∧ True) ∧ true = true ∧ rowsOK (nat_lit 10) (rowsR (List.length (rnsK (listC c) s13')) (rnsK (listC c) s13')) ∧ true = true ∧ True)) ∧ (decide ((↑(List.length (rnsK (listC c) s13)) : Int) > (0 : Int)) = false → (Ask.holds Tryd.prog (Ask.full (rowsR (List.length (rnsK (listC c) s13)) (rnsK (listC c) s13)) (List.length (rnsK (listC c) s13)) (List.length (rnsK (listC c) s13) * Int.toNat (2 : Int))) ∧ ((↑(List.length (rnsK (listC c) s13)) : Int) + (↑(nat_lit 1) : Int)) * ((↑(TypeInfo.bytes (Tables.types (Program.toTables Tryd.prog))[(69 : Nat)]) : Int) + (1 : Int)) ≤ (1099511627776 : Int)) ∧ ∃ (i13' : Nat), ∃ (s13' : Nat), i13' < i13 ∧ i13' + s13' = List.length (listC c) ∧ (Value.int IntKind.i64 (IntKind.wrap IntKind.i64 ((↑s13 : Int) + (1 : Int))) = Value.int IntKind.i64 (↑s13' : Int) ∧ Value.iface (nat_lit 1000006) (Value.tuple (Array.mk [Value.int IntKind.i64 (9 : Int), Value.int IntKind.i64 (↑(List.length (rowsR (List.length (rnsK (listC c) s13)) (rnsK (listC c) s13))) : Int), Value.int IntKind.i64 (2 : Int), Value.int IntKind.i64 (0 : Int), Value.int IntKind.i64 ((↑(List.length (rnsK (listC c) s13)) : Int) + (↑(nat_lit 1) : Int))])) = Value.iface (nat_lit 1000006) (Value.tuple (Array.mk [Value.int IntKind.i64 (9 : Int), Value.int IntKind.i64 (↑(List.length (rnsK (listC c) s13')) : Int), Value.int IntKind.i64 (2 : Int), Value.int IntKind.i64 (0 : Int), Value.int IntKind.i64 (↑(List.length (rnsK (listC c) s13')) : Int)]))) ∧ (some (Blk.pool (moveAt (rowsR (List.length (rnsK (listC c) s13)) (rnsK (listC c) s13)) (List.length (rnsK (listC c) s13)) (List.take (nat_lit 1 * Int.toNat (2 : Int)) (List.drop (nat_lit 0) [Value.int IntKind.i64 (List.getD (listC c) s13 (0 : Int)), Value.int IntKind.i64 (List.getD (listC c) s13 (0 : Int))])))) = some (Blk.pool (rowsR (List.length (rnsK (listC c) s13')) (rnsK (listC c) s13'))) ∧ some (Blk.cells (catsL c) (nat_lit 23) Mode.fix) = some (Blk.cells (catsL c) (nat_lit 23) Mode.fix) ∧ True) ∧ true = true ∧ rowsOK (nat_lit 10) (rowsR (List.length (rnsK (listC c) s13')) (rnsK (listC c) s13')) ∧ true = true ∧ True)) ∧ (decide ((↑s13 : Int) < (↑(List.length (listC c)) : Int)) = false → (List.length (rngsC c) / (2 : Nat) + (0 : Nat) = List.length (rngsC c) / (2 : Nat) ∧ (Value.int IntKind.i64 (0 : Int) = Value.int IntKind.i64 (0 : Int) ∧ Value.int IntKind.i64 (IntKind.wrap IntKind.i64 ((↑(List.length (rnsK (listC c) s13)) : Int) - (1 : Int))) = Value.int IntKind.i64 ((↑(List.length (rngsC c)) : Int) - (1 : Int) - (↑(0 : Nat) : Int))) ∧ Heap.mk (nat_lit 10) (Trie.node none (Trie.node none Trie.leaf (Trie.node none (Trie.node (some (Blk.pool (rowsR (List.length (rnsK (listC c) s13)) (rnsK (listC c) s13)))) Trie.leaf Trie.leaf) Trie.leaf)) (Trie.node none (Trie.node none (Trie.node (some (Blk.cells (catsL c) (nat_lit 23) Mode.fix)) Trie.leaf Trie.leaf) Trie.leaf) Trie.leaf)) = Heap.mk (nat_lit 10) (Trie.node none (Trie.node none Trie.leaf (Trie.node none (Trie.node (some (Blk.pool (rowsR (List.length (rngsC c)) (swapL (runsL (listC c)) (0 : Nat))))) Trie.leaf Trie.leaf) Trie.leaf)) (Trie.node none (Trie.node none (Trie.node (some (Blk.cells (catsL c) (nat_lit 23) Mode.fix)) Trie.leaf Trie.leaf) Trie.leaf) Trie.leaf))) ∧ ∀ (i27 s27 : Nat) (j27 : Nat → Value), i27 + s27 = List.length (rngsC c) / (2 : Nat) → (decide ((↑s27 : Int) < (↑(List.length (rngsC c)) : Int) - (1 : Int) - (↑s27 : Int)) = true → ((0 : Int) ≤ (↑(List.length (rngsC c)) : Int) - (1 : Int) - (↑s27 : Int) ∧ (↑(List.length (rngsC c)) : Int) - (1 : Int) - (↑s27 : Int) < (↑(List.length (rnsK (listC c) s13)) : Int)) ∧ Ask.holds Tryd.prog (Ask.row (rowsR (List.length (rngsC c)) (swapL (runsL (listC c)) s27)) (List.length (rnsK (listC c) s13)) (Int.toNat (0 : Int) + Int.toNat ((↑(List.length (rngsC c)) : Int) - (1 : Int) - (↑s27 : Int)) * nat_lit 2) (nat_lit 2) [Value.int IntKind.i64 (Prod.fst (List.getD (swapL (runsL (listC c)) s27) (Int.toNat ((↑(List.length (rngsC c)) : Int) - (1 : Int) - (↑s27 : Int))) ((0 : Int), (0 : Int)))), Value.int IntKind.i64 (Prod.snd (List.getD (swapL (runsL (listC c)) s27) (Int.toNat ((↑(List.length (rngsC c)) : Int) - (1 : Int) - (↑s27 : Int))) ((0 : Int), (0 : Int))))]) ∧ ((0 : Int) ≤ (↑s27 : Int) ∧ (↑s27 : Int) < (↑(List.length (rnsK (listC c) s13)) : Int)) ∧ Ask.holds Tryd.prog (Ask.row (rowsR (List.length (rngsC c)) (swapL (runsL (listC c)) s27)) (List.length (rnsK (listC c) s13)) (Int.toNat (0 : Int) + s27 * nat_lit 2) (nat_lit 2) [Value.int IntKind.i64 (Prod.fst (List.getD (swapL (runsL (listC c)) s27) s27 ((0 : Int), (0 : Int)))), Value.int IntKind.i64 (Prod.snd (List.getD (swapL (runsL (listC c)) s27) s27 ((0 : Int), (0 : Int))))]) ∧ ((0 : Int) ≤ (↑s27 : Int) ∧ (↑s27 : Int) < (↑(List.length (rnsK (listC c) s13)) : Int)) ∧ Ask.holds Tryd.prog (Ask.space (rowsR (List.length (rngsC c)) (swapL (runsL (listC c)) s27)) (List.length (rnsK (listC c) s13)) (Int.toNat (0 : Int) + s27 * nat_lit 2 + nat_lit 2)) ∧ ((0 : Int) ≤ (↑(List.length (rngsC c)) : Int) - (1 : Int) - (↑s27 : Int) ∧ (↑(List.length (rngsC c)) : Int) - (1 : Int) - (↑s27 : Int) < (↑(List.length (rnsK (listC c) s13)) : Int)) ∧ Ask.holds Tryd.prog (Ask.space (putAt (rowsR (List.length (rngsC c)) (swapL (runsL (listC c)) s27)) (List.length (rnsK (listC c) s13)) (Int.toNat (0 : Int) + s27 * nat_lit 2) (Value.cellList (Value.agg (Array.mk [Value.int IntKind.i64 (Prod.fst (List.getD (swapL (runsL (listC c)) s27) (Int.toNat ((↑(List.length (rngsC c)) : Int) - (1 : Int) - (↑s27 : Int))) ((0 : Int), (0 : Int)))), Value.int IntKind.i64 (Prod.snd (List.getD (swapL (runsL (listC c)) s27) (Int.toNat ((↑(List.length (rngsC c)) : Int) - (1 : Int) - (↑s27 : Int))) ((0 : Int), (0 : Int))))])))) (List.length (rnsK (listC c) s13)) (Int.toNat (0 : Int) + Int.toNat ((↑(List.length (rngsC c)) : Int) - (1 : Int) - (↑s27 : Int)) * nat_lit 2 + nat_lit 2)) ∧ ∃ (i27' : Nat), ∃ (s27' : Nat), i27' < i27 ∧ i27' + s27' = List.length (rngsC c) / (2 : Nat) ∧ (Value.int IntKind.i64 (IntKind.wrap IntKind.i64 ((↑s27 : Int) + (1 : Int))) = Value.int IntKind.i64 (↑s27' : Int) ∧ Value.int IntKind.i64 (IntKind.wrap IntKind.i64 ((↑(List.length (rngsC c)) : Int) - (1 : Int) - (↑s27 : Int) - (1 : Int))) = Value.int IntKind.i64 ((↑(List.length (rngsC c)) : Int) - (1 : Int) - (↑s27' : Int))) ∧ (some (Blk.pool (putAt (putAt (rowsR (List.length (rngsC c)) (swapL (runsL (listC c)) s27)) (List.length (rnsK (listC c) s13)) (Int.toNat (0 : Int) + s27 * nat_lit 2) (Value.cellList (Value.agg (Array.mk [Value.int IntKind.i64 (Prod.fst (List.getD (swapL (runsL (listC c)) s27) (Int.toNat ((↑(List.length (rngsC c)) : Int) - (1 : Int) - (↑s27 : Int))) ((0 : Int), (0 : Int)))), Value.int IntKind.i64 (Prod.snd (List.getD (swapL (runsL (listC c)) s27) (Int.toNat ((↑(List.length (rngsC c)) : Int) - (1 : Int) - (↑s27 : Int))) ((0 : Int), (0 : Int))))])))) (List.length (rnsK (listC c) s13)) (Int.toNat (0 : Int) + Int.toNat ((↑(List.length (rngsC c)) : Int) - (1 : Int) - (↑s27 : Int)) * nat_lit 2) (Value.cellList (Value.agg (Array.mk [Value.int IntKind.i64 (Prod.fst (List.getD (swapL (runsL (listC c)) s27) s27 ((0 : Int), (0 : Int)))), Value.int IntKind.i64 (Prod.snd (List.getD (swapL (runsL (listC c)) s27) s27 ((0 : Int), (0 : Int))))]))))) = some (Blk.pool (rowsR (List.length (rngsC c)) (swapL (runsL (listC c)) s27'))) ∧ some (Blk.cells (catsL c) (nat_lit 23) Mode.fix) = some (Blk.cells (catsL c) (nat_lit 23) Mode.fix) ∧ True) ∧ true = true ∧ rowsOK (nat_lit 10) (rowsR (List.length (rngsC c)) (swapL (runsL (listC c)) s27')) ∧ true = true ∧ True) ∧ (decide ((↑s27 : Int) < (↑(List.length (rngsC c)) : Int) - (1 : Int) - (↑s27 : Int)) = false → True ∧ BorR (Heap.mk (nat_lit 10) (Trie.node none (Trie.node none Trie.leaf (Trie.node none (Trie.node (some (Blk.pool (rowsR (List.length (rngsC c)) (swapL (runsL (listC c)) s27)))) Trie.leaf Trie.leaf) Trie.leaf)) (Trie.node none (Trie.node none (Trie.node (some (Blk.cells (catsL c) (nat_lit 23) Mode.fix)) Trie.leaf Trie.leaf) Trie.leaf) Trie.leaf))) (Value.iface (nat_lit 1000006) (Value.tuple (Array.mk [Value.int IntKind.i64 (9 : Int), Value.int IntKind.i64 (↑(List.length (rnsK (listC c) s13)) : Int), Value.int IntKind.i64 (2 : Int), Value.int IntKind.i64 (0 : Int), Value.int IntKind.i64 (↑(List.length (rnsK (listC c) s13)) : Int)]))) (prsV (rngsC c))))) (by kernel_rfl) (by
    have hL : (listC c).length ≤ 240 := listN_length c 240
    have hv : ∀ j, j < (listC c).length → 0 ≤ (listC c).getD j 0 ∧ (listC c).getD j 0 < 240 := fun j h => listC_getD c h
    have hr : (rngsC c).length = (runsL (listC c)).length := List.length_reverse
    have hw := list_w c hc
    have hb := one_bytes
    refine ⟨hw, Weak.pool' rfl, Weak.rowNil' (rows := []) (i := 3) (p := 9) (es := 2) (by rfl) (.inl (by rfl)) (by rfl) (by rfl), ⟨by omega, ⟨rfl, rfl⟩, rfl⟩, fun i j u q => ⟨fun h1 => ?_, fun h1 => ?_⟩⟩
    · have hj : j < (listC c).length := by have := of_decide_eq_true h1; omega
      have hn := rnsK_next hj
      have hl := runsL_len (listC c) j
      have hx := hv j hj
      have hp := iz_part (l := listC c) hj (o := Int.toNat ((Int.toNat (j : Int) * 1 : Nat) : Int)) (by simp)
      generalize (listC c).getD j 0 = x at *
      generalize hR : rnsK (listC c) j = R at *
      have w2 : IntKind.i64.wrap (x - 1) = x - 1 := wrap_in (by omega) (by omega)
      have hmiss : R.length = 0 ∨ (R.getD (R.length - 1) (0, 0)).2 ≠ x - 1 → (Ask.holds Tryd.prog (Ask.full (rowsR R.length R) R.length (R.length * Int.toNat (2 : Int))) ∧ ((R.length : Int) + ((1 : Nat) : Int)) * (((Tryd.prog.toTables.types[69]).bytes : Int) + 1) ≤ 1099511627776) ∧ rowsR (rnsK (listC c) (j + 1)).length (rnsK (listC c) (j + 1)) = moveAt (rowsR R.length R) R.length [.int .i64 x, .int .i64 x] ∧ (rnsK (listC c) (j + 1)).length = R.length + 1 := fun h => by
        rw [hn, runStep_miss h]
        refine ⟨⟨rowsR_full rfl, by rw [hb]; omega⟩, ?_, by simp⟩
        rw [List.length_append, List.length_singleton]
        exact (rowsR_move _ _ (x, x)).symm
      refine ⟨⟨by omega, by omega⟩, hp, fun h2 => ?_, fun h2 => ?_⟩
      · have hm : 0 < R.length := by have := of_decide_eq_true h2; omega
        have w1 : IntKind.i64.wrap ((R.length : Int) - 1) = ((R.length - 1 : Nat) : Int) := by rw [wrap_in (by omega) (by omega)]; omega
        simp only [w1, w2, Int.toNat_natCast]
        refine ⟨⟨by omega, by omega⟩, rowsR_row (k := R.length - 1) (r := 1) (by omega) (by omega) (by simp) rfl, fun h3 => ?_, fun h3 => ?_⟩
        · have h3 : (R.getD (R.length - 1) (0, 0)).2 = x - 1 := by simpa using h3
          have e := runStep_hit hm h3
          have el : (rnsK (listC c) (j + 1)).length = R.length := by rw [hn, e, List.length_set]
          refine ⟨⟨by omega, by omega⟩, rowsR_space (by simp; omega), i - 1, j + 1, by omega, by omega, ⟨wrap_next j (by omega), ?_⟩, ⟨?_, by first | rfl | trivial, trivial⟩, by first | rfl | trivial, rowsOK_R _ _, by first | rfl | trivial, trivial⟩
          · rw [el]
          · rw [el, hn, e]
            exact congrArg (fun l => some (Blk.pool l)) (rowsR_put1 (k := R.length - 1) (by omega) x (by simp))
        · have h3 : (R.getD (R.length - 1) (0, 0)).2 ≠ x - 1 := by simpa using h3
          obtain ⟨g1, g2, g3⟩ := hmiss (.inr h3)
          refine ⟨g1, i - 1, j + 1, by omega, by omega, ⟨wrap_next j (by omega), ?_⟩, ⟨?_, by first | rfl | trivial, trivial⟩, by first | rfl | trivial, rowsOK_R _ _, by first | rfl | trivial, trivial⟩
          · rw [g3, rowsR_len]
            rfl
          · rw [g2]
            rfl
      · have hm : R.length = 0 := by have := of_decide_eq_false h2; omega
        obtain ⟨g1, g2, g3⟩ := hmiss (.inl hm)
        refine ⟨g1, i - 1, j + 1, by omega, by omega, ⟨wrap_next j (by omega), ?_⟩, ⟨?_, by first | rfl | trivial, trivial⟩, by first | rfl | trivial, rowsOK_R _ _, by first | rfl | trivial, trivial⟩
        · rw [g3, rowsR_len]
          rfl
        · rw [g2]
          rfl
    · obtain rfl : j = (listC c).length := by have := of_decide_eq_false h1; omega
      have hl := runsL_len (listC c) (listC c).length
      rw [rnsK_all] at *
      have hrev : rngsC c = (runsL (listC c)).reverse := rfl
      rw [hr]
      generalize runsL (listC c) = R at *
      have w1 : ∀ z : Int, -1 ≤ z → z ≤ 1000 → IntKind.i64.wrap z = z := fun z a b => wrap_in (by omega) (by omega)
      rw [w1 _ (by omega) (by omega)]
      refine ⟨⟨by omega, ⟨rfl, congrArg _ (by omega)⟩, by rw [swap_zero]⟩, fun a s u2 q2 => ⟨fun h2 => ?_, fun h2 => ?_⟩⟩
      · have hs : 2 * s + 1 < R.length := by have := of_decide_eq_true h2; omega
        have e1 : Int.toNat ((R.length : Int) - 1 - (s : Int)) = R.length - 1 - s := by omega
        simp only [e1]
        have sw := swap_length R s
        have hfin : putAt (putAt (rowsR R.length (swapL R s)) R.length (Int.toNat (0 : Int) + s * 2) (pr2 ((swapL R s).getD (R.length - 1 - s) (0, 0)))) R.length (Int.toNat (0 : Int) + (R.length - 1 - s) * 2) (pr2 ((swapL R s).getD s (0, 0))) = rowsR R.length (swapL R (s + 1)) := by
          rw [rowsR_put2 (k := s) (by omega) _ (by simp), rowsR_put2 (k := R.length - 1 - s) (by rw [List.length_set]; omega) _ (by simp), swap_same R (by omega) (by omega), swap_same R (by omega) (by omega), swap_next hs]
        refine ⟨⟨by omega, by omega⟩, rowsR_row (k := R.length - 1 - s) (r := 0) (by omega) (by omega) (by simp) rfl, ⟨by omega, by omega⟩, rowsR_row (k := s) (r := 0) (by omega) (by omega) (by simp) rfl, ⟨by omega, by omega⟩, rowsR_space (by simp; omega), ⟨by omega, by omega⟩, ?_, a - 1, s + 1, by omega, by omega, ⟨wrap_next s (by omega), ?_⟩, ⟨congrArg (fun l => some (Blk.pool l)) hfin, by first | rfl | trivial, trivial⟩, by first | rfl | trivial, rowsOK_R _ _, by first | rfl | trivial, trivial⟩
        · refine Eq.mpr (congrArg (fun z => Ask.holds Tryd.prog (Ask.space z R.length _)) (rowsR_put2 (k := s) (by omega) ((swapL R s).getD (R.length - 1 - s) (0, 0)) (by simp))) ?_
          exact rowsR_space (by rw [List.length_set]; simp; omega)
        · rw [w1 _ (by omega) (by omega)]
          exact congrArg _ (by omega)
      · have hs : R.length ≤ 2 * s + 1 := by have := of_decide_eq_false h2; omega
        refine ⟨trivial, ?_⟩
        unfold prsV
        rw [hrev, ← swap_end hs]
        have sw := swap_length R s
        rw [sw]
        refine BorR.row (rows := rowsR R.length (swapL R s)) (cs := prsL (swapL R s)) (by rfl) (rowsR_get _ _) (Nat.le_of_eq (Nat.zero_add _)) (fun h => ?_) fun j hj => ?_
        · have : swapL R s = [] := List.length_eq_zero_iff.1 (by omega)
          rw [this]
          rfl
        · rw [Nat.zero_add]
          exact BorR.of 1 (prs_flat hj))
end Go.Proofs.YtidlganponfccaaDoor

end
