/- Texts packed together: CAwk9 CSplitLaw. -/
import Derived.Laws.Externs
import Derived.Lib.Bytealg
import Derived.Tactics
import Derived.Test.YtidlganponfccaaDoorZ20
section
/- The document's examples of labels: a closed run, with what is known of Go's library. -/
set_option linter.unusedVariables false
set_option linter.unusedSimpArgs false
set_option maxRecDepth 100000
namespace Go.Proofs.YtidlganponfccaaDoor
open Go Go.Ideal
theorem idxByte_w (s : ByteArray) (c r : Int) (e : Lib.indexByte s.data.toList c.toNat.toUInt8 = r) : CallK Tryd.prog 132 [.string s, .int .u8 c] (.int .i64 r) := CallK.ofSame rfl rfl fun w => by
  have hrun : (callFunc 148 #[.string s, .int .u8 c]).run Tryd.prog w = .ok (.value (.int .i64 r)) w := by
    rw [run_callFunc_extern (e := Extern.BytealgIndexByte.indexByte) Tryd.func148 (by kernel_rfl) (by kernel_rfl) (by kernel_rfl) (by kernel_rfl), Lib.run_indexByteString, e]
    rfl
  go_enter Tryd.func132, Tryd.ntmps132
  go_wp2
  go_ret
  exact ⟨rfl, rfl⟩
set_option maxHeartbeats 2000000 in
set_option maxRecDepth 100000 in
theorem cntComma_w (s : ByteArray) (r : Int) (e : Lib.countByte s.data.toList 44 = r) : CallK Tryd.prog 108 [.string s, .string ⟨#[44]⟩] (.int .i64 r) := CallK.ofSame rfl rfl fun w => by
  go_enter Tryd.func108, Tryd.ntmps108
  go_wp2
  rw [run_callFunc_extern Tryd.func127 (by kernel_rfl) (by kernel_rfl) (by kernel_rfl) (e := Extern.BytealgCount.count) (by kernel_rfl), Lib.run_countString]
  simp only [Result.andThen]
  rw [Oper.upon_value]
  go_wp2
  go_ret
  exact ⟨congrArg (fun r => Ending.returned (.int .i64 r)) e, rfl⟩
theorem itoa2_w : CallK Tryd.prog 62 [.int .i64 2] (.string ⟨#[50]⟩) := itoa_w 2 (by decide) [50] (by decide +kernel)
def cS (l : List Value) : Value := .agg l.toArray
def c1L : List Value := [.int .u8 64, .int .u8 0, .int .u8 0, .int .u8 0, .int .u8 0, .int .u8 0, .int .u8 0, .int .u8 0, .int .u8 0, .int .u8 0, .int .u8 0, .int .u8 0, .int .u8 0, .int .u8 0, .int .u8 0, .int .u8 0, .int .u8 0, .int .u8 0, .int .u8 0, .int .u8 0, .int .u8 0, .int .u8 0, .int .u8 0, .int .u8 0, .int .u8 0, .int .u8 0, .int .u8 0, .int .u8 0, .int .u8 0, .int .u8 0]
def c2L : List Value := [.int .u8 32, .int .u8 0, .int .u8 0, .int .u8 0, .int .u8 0, .int .u8 0, .int .u8 0, .int .u8 0, .int .u8 0, .int .u8 0, .int .u8 0, .int .u8 0, .int .u8 0, .int .u8 0, .int .u8 0, .int .u8 0, .int .u8 0, .int .u8 0, .int .u8 0, .int .u8 0, .int .u8 0, .int .u8 0, .int .u8 0, .int .u8 0, .int .u8 0, .int .u8 0, .int .u8 0, .int .u8 0, .int .u8 0, .int .u8 0]
def c12L : List Value := [.int .u8 96, .int .u8 0, .int .u8 0, .int .u8 0, .int .u8 0, .int .u8 0, .int .u8 0, .int .u8 0, .int .u8 0, .int .u8 0, .int .u8 0, .int .u8 0, .int .u8 0, .int .u8 0, .int .u8 0, .int .u8 0, .int .u8 0, .int .u8 0, .int .u8 0, .int .u8 0, .int .u8 0, .int .u8 0, .int .u8 0, .int .u8 0, .int .u8 0, .int .u8 0, .int .u8 0, .int .u8 0, .int .u8 0, .int .u8 0]
def text1_w_tab : Tab := [(62, [.int .i64 1], .string ⟨#[49]⟩), (58, [vsl 1 (Array.mk [(.string ⟨#[49]⟩)]), .string ⟨#[44]⟩], (.string ⟨#[49]⟩))]
theorem text1_w_ok : TabOK Tryd.prog text1_w_tab := ⟨itoa1_w, by kernel_rfl, join_w [⟨#[49]⟩] ⟨#[44]⟩ 1 rfl (by decide) [49] (by decide +kernel) (by decide) (by decide), by kernel_rfl, trivial⟩
theorem text1_w : CallK Tryd.prog 30 [cS c1L] (.string ⟨#[49]⟩) := CallK.runO progOK 3000 text1_w_tab text1_w_ok rfl rfl (by kernel_rfl) (by rfl) (by kernel_rfl)
def text2_w_tab : Tab := [(62, [.int .i64 2], .string ⟨#[50]⟩), (58, [vsl 1 (Array.mk [(.string ⟨#[50]⟩)]), .string ⟨#[44]⟩], (.string ⟨#[50]⟩))]
theorem text2_w_ok : TabOK Tryd.prog text2_w_tab := ⟨itoa2_w, by kernel_rfl, join_w [⟨#[50]⟩] ⟨#[44]⟩ 1 rfl (by decide) [50] (by decide +kernel) (by decide) (by decide), by kernel_rfl, trivial⟩
theorem text2_w : CallK Tryd.prog 30 [cS c2L] (.string ⟨#[50]⟩) := CallK.runO progOK 3000 text2_w_tab text2_w_ok rfl rfl (by kernel_rfl) (by rfl) (by kernel_rfl)
def text12_w_tab : Tab := [(62, [.int .i64 1], .string ⟨#[49]⟩), (62, [.int .i64 2], .string ⟨#[50]⟩), (58, [vsl 1 (Array.mk [(.string ⟨#[49, 44, 50]⟩)]), .string ⟨#[44]⟩], (.string ⟨#[49, 44, 50]⟩))]
theorem text12_w_ok : TabOK Tryd.prog text12_w_tab := ⟨itoa1_w, by kernel_rfl, itoa2_w, by kernel_rfl, join_w [⟨#[49, 44, 50]⟩] ⟨#[44]⟩ 1 rfl (by decide) [49, 44, 50] (by decide +kernel) (by decide) (by decide), by kernel_rfl, trivial⟩
theorem text12_w : CallK Tryd.prog 30 [cS c12L] (.string ⟨#[49, 44, 50]⟩) := CallK.runO progOK 3000 text12_w_tab text12_w_ok rfl rfl (by kernel_rfl) (by rfl) (by kernel_rfl)
def parse1_w_tab : Tab := [(132, [(.string ⟨#[49]⟩), .int .u8 45], .int .i64 (-1)), (108, [(.string ⟨#[49]⟩), .string ⟨#[44]⟩], .int .i64 0), (30, [cS c1L], (.string ⟨#[49]⟩))]
theorem parse1_w_ok : TabOK Tryd.prog parse1_w_tab := ⟨idxByte_w _ _ _ (by decide +kernel), by kernel_rfl, cntComma_w _ _ (by decide +kernel), by kernel_rfl, text1_w, by kernel_rfl, trivial⟩
theorem parse1_w : CallK Tryd.prog 31 [(.string ⟨#[49]⟩)] (.tuple (Array.mk [cS c1L, .bool true])) := CallK.runO progOK 3000 parse1_w_tab parse1_w_ok rfl rfl (by kernel_rfl) (by rfl) (by kernel_rfl)
def parse2_w_tab : Tab := [(132, [(.string ⟨#[50]⟩), .int .u8 45], .int .i64 (-1)), (108, [(.string ⟨#[50]⟩), .string ⟨#[44]⟩], .int .i64 0), (30, [cS c2L], (.string ⟨#[50]⟩))]
theorem parse2_w_ok : TabOK Tryd.prog parse2_w_tab := ⟨idxByte_w _ _ _ (by decide +kernel), by kernel_rfl, cntComma_w _ _ (by decide +kernel), by kernel_rfl, text2_w, by kernel_rfl, trivial⟩
theorem parse2_w : CallK Tryd.prog 31 [(.string ⟨#[50]⟩)] (.tuple (Array.mk [cS c2L, .bool true])) := CallK.runO progOK 3000 parse2_w_tab parse2_w_ok rfl rfl (by kernel_rfl) (by rfl) (by kernel_rfl)
def l31 : Value := .agg (.int .i64 3 :: c1L).toArray
def l22 : Value := .agg (.int .i64 2 :: c2L).toArray
def lparse1_w_tab : Tab := [(132, [(.string ⟨#[51, 58, 49]⟩), .int .u8 58], .int .i64 (1)), (62, [.int .i64 3], .string ⟨#[51]⟩), (31, [(.string ⟨#[49]⟩)], .tuple (Array.mk [cS c1L, .bool true])), (30, [cS c1L], (.string ⟨#[49]⟩))]
theorem lparse1_w_ok : TabOK Tryd.prog lparse1_w_tab := ⟨idxByte_w _ _ _ (by decide +kernel), by kernel_rfl, itoa3_w, by kernel_rfl, parse1_w, by kernel_rfl, text1_w, by kernel_rfl, trivial⟩
theorem lparse1_w : CallK Tryd.prog 35 [(.string ⟨#[51, 58, 49]⟩)] (.tuple (Array.mk [l31, .bool true])) := CallK.runO progOK 3000 lparse1_w_tab lparse1_w_ok rfl rfl (by kernel_rfl) (by rfl) (by kernel_rfl)
def lparse2_w_tab : Tab := [(132, [(.string ⟨#[50, 58, 50]⟩), .int .u8 58], .int .i64 (1)), (62, [.int .i64 2], .string ⟨#[50]⟩), (31, [(.string ⟨#[50]⟩)], .tuple (Array.mk [cS c2L, .bool true])), (30, [cS c2L], (.string ⟨#[50]⟩))]
theorem lparse2_w_ok : TabOK Tryd.prog lparse2_w_tab := ⟨idxByte_w _ _ _ (by decide +kernel), by kernel_rfl, itoa2_w, by kernel_rfl, parse2_w, by kernel_rfl, text2_w, by kernel_rfl, trivial⟩
theorem lparse2_w : CallK Tryd.prog 35 [(.string ⟨#[50, 58, 50]⟩)] (.tuple (Array.mk [l22, .bool true])) := CallK.runO progOK 3000 lparse2_w_tab lparse2_w_ok rfl rfl (by kernel_rfl) (by rfl) (by kernel_rfl)
def awake9_w_tab : Tab := [(35, [(.string ⟨#[51, 58, 49]⟩)], .tuple (Array.mk [l31, .bool true])), (35, [(.string ⟨#[50, 58, 50]⟩)], .tuple (Array.mk [l22, .bool true])), (62, [.int .i64 3], .string ⟨#[51]⟩), (30, [cS c12L], (.string ⟨#[49, 44, 50]⟩))]
theorem awake9_w_ok : TabOK Tryd.prog awake9_w_tab := ⟨lparse1_w, by kernel_rfl, lparse2_w, by kernel_rfl, itoa3_w, by kernel_rfl, text12_w, by kernel_rfl, trivial⟩
theorem awake9_w : CallK Tryd.prog 33 [] (.bool true) := CallK.runO progOK 3000 awake9_w_tab awake9_w_ok rfl rfl (by kernel_rfl) (by rfl) (by kernel_rfl)
end Go.Proofs.YtidlganponfccaaDoor

end
section
/- Texts as lists of bytes: split at a byte, and joined again. -/
set_option linter.unusedVariables false
set_option linter.unusedSimpArgs false
namespace Go.Proofs.YtidlganponfccaaDoor
open Go Go.Ideal
abbrev Bs := List UInt8
def bs (l : Bs) : ByteArray := ByteArray.mk l.toArray
theorem bs_self (s : ByteArray) : bs s.data.toList = s := by
  apply ByteArray.ext; simp [bs]
theorem bs_list (l : Bs) : (bs l).data.toList = l := by simp [bs]
theorem bs_size (l : Bs) : (bs l).size = l.length := by simp [bs, ByteArray.size]
theorem bs_inj {a b : Bs} (h : bs a = bs b) : a = b := by
  have := congrArg (fun s : ByteArray => s.data.toList) h
  simpa [bs] using this
theorem bs_extract (l : Bs) (i j : Nat) : (bs l).extract i j = bs ((l.drop i).take (j - i)) := by
  apply ByteArray.ext
  simp [bs, ByteArray.data_extract, List.take_drop, List.extract_eq_take_drop]
def splitL (c : UInt8) : Bs → List Bs
  | [] => [[]]
  | b :: l => if b = c then [] :: splitL c l else match splitL c l with
    | [] => [[b]]
    | p :: ps => (b :: p) :: ps
def gumL (c : UInt8) : List Bs → Bs
  | [] => []
  | [p] => p
  | p :: q :: ps => p ++ c :: gumL c (q :: ps)
theorem splitL_ne (c : UInt8) : ∀ l : Bs, splitL c l ≠ []
  | [] => by simp [splitL]
  | b :: l => by
    unfold splitL
    split
    · simp
    · split <;> simp
theorem splitL_len (c : UInt8) : ∀ l : Bs, (splitL c l).length = l.count c + 1
  | [] => by simp [splitL]
  | b :: l => by
    have ih := splitL_len c l
    have hn := splitL_ne c l
    unfold splitL
    split
    · rename_i h; subst h; simp [ih]
    · rename_i h
      rw [List.count_cons_of_ne h, ← ih]
      split
      · rename_i e; exact absurd e hn
      · rename_i p ps e; rw [e]; simp
theorem joinL_split (c : UInt8) : ∀ l : Bs, gumL c (splitL c l) = l
  | [] => by simp [splitL, gumL]
  | b :: l => by
    have ih := joinL_split c l
    have hn := splitL_ne c l
    unfold splitL
    split
    · rename_i h
      subst h
      cases e : splitL b l with
      | nil => exact absurd e hn
      | cons p ps => rw [e] at ih; simp [gumL, ih]
    · cases e : splitL c l with
      | nil => exact absurd e hn
      | cons p ps =>
        rw [e] at ih
        cases ps with
        | nil => simp only [gumL] at ih ⊢; rw [ih]
        | cons q qs => simp only [gumL, List.cons_append] at ih ⊢; rw [ih]
theorem splitL_no (c : UInt8) : ∀ (l : Bs) (p : Bs), p ∈ splitL c l → c ∉ p
  | [], p, h => by simp [splitL] at h; subst h; simp
  | b :: l, p, h => by
    have ih := splitL_no c l
    unfold splitL at h
    split at h
    · rcases List.mem_cons.1 h with rfl | h
      · simp
      · exact ih p h
    · rename_i hb
      split at h
      · simp at h; subst h; simp; exact fun e => hb e.symm
      · rename_i q qs e
        rcases List.mem_cons.1 h with rfl | h
        · have := ih q (by rw [e]; simp)
          simp [this]; exact fun e => hb e.symm
        · exact ih p (by rw [e]; exact List.mem_cons_of_mem _ h)
theorem splitL_app (c : UInt8) : ∀ (p : Bs), c ∉ p → ∀ r : Bs, splitL c (p ++ c :: r) = p :: splitL c r
  | [], _, r => by simp [splitL]
  | b :: p, h, r => by
    have h2 : c ∉ p := fun hm => h (List.mem_cons_of_mem _ hm)
    have h1 : b ≠ c := fun e => h (by rw [e]; simp)
    rw [List.cons_append, splitL, if_neg h1, splitL_app c p h2 r]
theorem splitL_one (c : UInt8) : ∀ (p : Bs), c ∉ p → splitL c p = [p]
  | [], _ => by simp [splitL]
  | b :: p, h => by
    have h2 : c ∉ p := fun hm => h (List.mem_cons_of_mem _ hm)
    have h1 : b ≠ c := fun e => h (by rw [e]; simp)
    rw [splitL, if_neg h1, splitL_one c p h2]
theorem splitL_join (c : UInt8) : ∀ (ps : List Bs), ps ≠ [] → (∀ p ∈ ps, c ∉ p) → splitL c (gumL c ps) = ps
  | [], h, _ => absurd rfl h
  | [p], _, h => splitL_one c p (h p (by simp))
  | p :: q :: ps, _, h => by
    rw [gumL, splitL_app c p (h p (by simp)), splitL_join c (q :: ps) (by simp) (fun x hx => h x (List.mem_cons_of_mem _ hx))]
theorem indexByte_app (c : UInt8) : ∀ (p : Bs), c ∉ p → ∀ r : Bs, Lib.indexByte (p ++ c :: r) c = (p.length : Int)
  | [], _, r => by simp [Lib.indexByte]
  | b :: p, h, r => by
    have h2 : c ∉ p := fun hm => h (List.mem_cons_of_mem _ hm)
    have h1 : b ≠ c := fun e => h (by rw [e]; simp)
    have ih := indexByte_app c p h2 r
    simp only [List.cons_append, Lib.indexByte, ih, List.length_cons]
    rw [if_neg (by simpa using h1), if_neg (by rw [beq_iff_eq]; omega)]
    omega
theorem indexByte_none (c : UInt8) : ∀ (p : Bs), c ∉ p → Lib.indexByte p c = -1
  | [], _ => by simp [Lib.indexByte]
  | b :: p, h => by
    have h2 : c ∉ p := fun hm => h (List.mem_cons_of_mem _ hm)
    have h1 : b ≠ c := fun e => h (by rw [e]; simp)
    have ih := indexByte_none c p h2
    simp only [Lib.indexByte, ih]
    rw [if_neg (by simpa using h1)]
    simp
theorem joinL_cons (c : UInt8) (p : Bs) {ps : List Bs} (h : ps ≠ []) : gumL c (p :: ps) = p ++ c :: gumL c ps := by
  cases ps with
  | nil => exact absurd rfl h
  | cons q qs => rfl
theorem getD_at {α} (l : List α) (i : Nat) (d : α) (h : i < l.length) : l.getD i d = l[i] := by simp [h]
/-- What is left behind i pieces. -/
def restB (c : UInt8) (s : ByteArray) (i : Nat) : ByteArray := bs (gumL c ((splitL c s.data.toList).drop i))
def sepN (c : UInt8) (s : ByteArray) : Nat := Lib.countByte s.data.toList c
theorem bytes_len (s : ByteArray) : s.size = s.data.toList.length := by cases s; rfl
theorem sepN_len (c : UInt8) (s : ByteArray) : (splitL c s.data.toList).length = sepN c s + 1 := splitL_len c _
theorem sepN_le (c : UInt8) (s : ByteArray) : sepN c s ≤ s.size := by
  rw [bytes_len s]
  exact List.count_le_length
theorem restB_zero (c : UInt8) (s : ByteArray) : restB c s 0 = s := by
  unfold restB; rw [List.drop_zero, joinL_split, bs_self]
theorem restB_size (c : UInt8) (s : ByteArray) (i : Nat) : (restB c s i).size ≤ s.size := by
  have key : ∀ (ps : List Bs) (i : Nat), (gumL c (ps.drop i)).length ≤ (gumL c ps).length := by
    intro ps
    induction ps with
    | nil => intro i; simp
    | cons p ps ih =>
      intro i
      cases i with
      | zero => simp
      | succ i =>
        rw [List.drop_succ_cons]
        refine Nat.le_trans (ih i) ?_
        cases ps with
        | nil => simp [gumL]
        | cons q qs => simp only [gumL, List.length_append, List.length_cons]; omega
  have h1 := key (splitL c s.data.toList) i
  rw [joinL_split] at h1
  unfold restB
  rw [bs_size]
  exact h1
/-- The i-th piece. -/
def pcL (c : UInt8) (s : ByteArray) (i : Nat) : Bs := (splitL c s.data.toList).getD i []
theorem pcL_no (c : UInt8) (s : ByteArray) {i : Nat} (h : i ≤ sepN c s) : c ∉ pcL c s i := by
  have hl := sepN_len c s
  unfold pcL
  rw [getD_at _ _ _ (by omega)]
  exact splitL_no c _ _ (List.getElem_mem _)
theorem rest_more (c : UInt8) (s : ByteArray) {i : Nat} (h : i < sepN c s) : (restB c s i).data.toList = pcL c s i ++ c :: (restB c s (i + 1)).data.toList := by
  have hl := sepN_len c s
  unfold restB pcL
  rw [bs_list, bs_list, List.drop_eq_getElem_cons (by omega : i < _), joinL_cons c _ (by intro e; have := congrArg List.length e; simp at this; omega), getD_at _ _ _ (by omega)]
theorem rest_last (c : UInt8) (s : ByteArray) {i : Nat} (h : i = sepN c s) : (restB c s i).data.toList = pcL c s i := by
  have hl := sepN_len c s
  unfold restB pcL
  rw [bs_list, List.drop_eq_getElem_cons (by omega : i < _), getD_at _ _ _ (by omega), List.drop_eq_nil_of_le (by omega)]
  rfl
theorem ix_more (c : UInt8) (s : ByteArray) {i : Nat} (h : i < sepN c s) : Lib.indexByte (restB c s i).data.toList c = ((pcL c s i).length : Int) := by
  rw [rest_more c s h, indexByte_app c _ (pcL_no c s (by omega))]
theorem ix_last (c : UInt8) (s : ByteArray) {i : Nat} (h : i = sepN c s) : Lib.indexByte (restB c s i).data.toList c = -1 := by
  rw [rest_last c s h, indexByte_none c _ (pcL_no c s (by omega))]
theorem cut_more (c : UInt8) (s : ByteArray) {i : Nat} (h : i < sepN c s) : (restB c s i).extract 0 (pcL c s i).length = bs (pcL c s i) ∧ (restB c s i).extract ((pcL c s i).length + 1) (restB c s i).size = restB c s (i + 1) ∧ (pcL c s i).length < (restB c s i).size := by
  have e := rest_more c s h
  have e2 : restB c s i = bs (pcL c s i ++ c :: (restB c s (i + 1)).data.toList) := by rw [← e, bs_self]
  rw [e2, bs_extract, bs_extract, bs_size]
  refine ⟨?_, ?_, by simp⟩
  · simp
  · have : (restB c s (i + 1)) = bs (restB c s (i + 1)).data.toList := (bs_self _).symm
    rw [this, bs_list]
    congr 1
    rw [List.drop_append, List.drop_eq_nil_of_le (by omega)]
    have hz : (restB c s (i + 1)).size = (restB c s (i + 1)).data.toList.length := bytes_len _
    simp only [List.nil_append, List.length_append, List.length_cons]
    rw [show (pcL c s i).length + 1 - (pcL c s i).length = 1 from by omega, List.drop_succ_cons, List.drop_zero, List.take_of_length_le (by omega)]
theorem last_bs (c : UInt8) (s : ByteArray) {i : Nat} (h : i = sepN c s) : restB c s i = bs (pcL c s i) := by
  rw [← rest_last c s h, bs_self]
/-- The pieces as values. -/
def strsV (l : List Bs) : List Value := l.map fun p => .string (bs p)
theorem strsV_len (l : List Bs) : (strsV l).length = l.length := by simp [strsV]
/-- The array, when i pieces are known. -/
def partsL (c : UInt8) (s : ByteArray) (i : Nat) : List Value := strsV ((splitL c s.data.toList).take i) ++ ((splitL c s.data.toList).drop i).map (fun _ => .string (ByteArray.mk #[]))
theorem partsL_len (c : UInt8) (s : ByteArray) {i : Nat} (h : i ≤ sepN c s + 1) : (partsL c s i).length = sepN c s + 1 := by
  have hl := sepN_len c s
  simp [partsL, strsV, hl]; omega
theorem partsL_next (c : UInt8) (s : ByteArray) {i : Nat} (h : i ≤ sepN c s) : splice (partsL c s i) i [.string (bs (pcL c s i))] = partsL c s (i + 1) := by
  have hl := sepN_len c s
  have h1 : (strsV ((splitL c s.data.toList).take i)).length = i := by rw [strsV_len, List.length_take]; omega
  unfold splice partsL pcL
  rw [getD_at _ _ _ (by omega), List.take_append_of_le_length (by omega), List.take_of_length_le (by omega), List.drop_append, h1, List.drop_eq_nil_of_le (by simp [h1])]
  rw [List.take_add_one, List.getElem?_eq_getElem (by omega)]
  have e : i + 1 - i = 1 := by omega
  simp only [List.length_cons, List.length_nil, Nat.zero_add, e, List.nil_append, strsV, List.map_append, Option.toList_some, List.map_cons, List.map_nil]
  rw [List.drop_eq_getElem_cons (by omega : i < _), List.map_cons, List.drop_succ_cons, List.drop_zero]
theorem partsL_end (c : UInt8) (s : ByteArray) : partsL c s (sepN c s + 1) = strsV (splitL c s.data.toList) := by
  have hl := sepN_len c s
  unfold partsL
  rw [List.take_of_length_le (by omega)]
  simp; omega
def splitV (c : UInt8) (s : ByteArray) : Value := vsl (sepN c s + 1 : Nat) (strsV (splitL c s.data.toList)).toArray
theorem strsV_at (l : List Bs) {j : Nat} (h : j < l.length) : (strsV l).getD j Go.undef = .string (bs (l[j])) := by
  unfold strsV; rw [getD_at _ _ _ (by simpa using h)]; simp
theorem bor_strs {h : Heap} {i : Nat} {cs : List Value} {t : TypeId} (l : List Bs) {n m : Nat} (hg : h.get i = some (.cells cs t .fix)) (e : cs = strsV l) (hn : n = l.length) (hm : m = l.length) {v : Value} (hv : v = vsl l.length (strsV l).toArray) : BorR h (.slice (some ⟨i, 0, none⟩) n m) v := by
  subst hn hm e hv
  refine BorR.sl hg rfl fun j hj => ?_
  rw [strsV_len] at hj
  rw [strsV_at l hj]
  exact BorR.of 1 rfl
theorem blk8 {a b : List Value} {t : TypeId} {m : Ideal.Mode} (h : a = b) : Heap.mk 9 (.node none .leaf (.node none (.node none (.node (some (.cells a t m)) .leaf .leaf) .leaf) .leaf)) = Heap.mk 9 (.node none .leaf (.node none (.node none (.node (some (.cells b t m)) .leaf .leaf) .leaf) .leaf)) := by rw [h]
theorem blk0 {a b : List Value} {t : TypeId} {m : Ideal.Mode} (h : a = b) : Heap.mk 1 (.node (some (.cells a t m)) .leaf .leaf) = Heap.mk 1 (.node (some (.cells b t m)) .leaf .leaf) := by rw [h]
theorem zeros_strs : ∀ (l : List Bs) (n : Nat), n = l.length → zerosI [.string (ByteArray.mk #[])] n = l.map (fun _ => .string (ByteArray.mk #[]))
  | [], _, h => by subst h; rfl
  | _ :: l, _, h => by subst h; rw [List.length_cons, zerosI, zeros_strs l _ rfl]; rfl
theorem refs_strs (l : List Bs) (a b : Nat) : (strsV l).all (refsOK (a + 1) b) = true := by
  rw [List.all_eq_true]
  intro x hx
  simp only [strsV, List.mem_map] at hx
  obtain ⟨p, _, rfl⟩ := hx
  rfl
theorem refs_parts (c : UInt8) (s : ByteArray) (i a b : Nat) : (partsL c s i).all (refsOK (a + 1) b) = true := by
  unfold partsL
  rw [List.all_append, refs_strs, Bool.true_and, List.all_eq_true]
  intro x hx
  obtain ⟨_, _, rfl⟩ := List.mem_map.1 hx
  rfl
end Go.Proofs.YtidlganponfccaaDoor

end
