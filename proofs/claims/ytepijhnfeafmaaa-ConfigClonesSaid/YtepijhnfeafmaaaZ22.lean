/- Texts packed together: CClone CCloneLaw CCloneBor. -/
import Derived.OwnWalk
import Derived.Tactics
import Derived.WalkKit
import Derived.Test.YtepijhnfeafmaaaZ21
section
/- slices.Clone: what it does to memory. -/
set_option linter.unusedVariables false
set_option linter.unusedSimpArgs false
set_option maxRecDepth 100000
namespace Go.Proofs.Ytepijhnfeafmaaa
open Go Go.Ideal Go.RowKit
theorem wpList_append_run {P : Program} {ops : Array Oper} {rest : List Oper} {o : Oper} {a : Act} {w w' : World} {Q : Exit → Act → World → Prop} (hgd : o.guard = none) (s x : Operand) (t ty : TypeId)
    (ho : o.op = .call { callee := .builtin .append, args := #[s, x], argTypes := #[t, t] }) (hty : o.type = ty) {v' sv xv : Value} (hs : a.eval s = sv) (hx : a.eval x = xv)
    (hr : (Builtin.append_ #[t, t] ty #[sv, xv]).run P w = .ok v' w') (h : wpList P ops Q rest (a.put o.dst v') w') : wpList P ops Q (o :: rest) a w :=
  wpList_plain hgd fun K hK => by
    subst hty
    unfold Oper.wp execOp
    simp only [ho, resolve, invoke, builtin, Sem.run_bind, Sem.run_pure, Result.andThen_ok, List.map_toArray, List.map_cons, List.map_nil, hs, hx, hr]
    exact hK _ _ h
theorem run_eqNil {P : Program} {t e : TypeId} (hu : P.underlying t = some (.slice e)) (x : Option Addr) (k c : Nat) (w : World) : (binOp .eql t (.slice x k c) (.slice none 0 0)).run P w = .ok (.bool x.isNone) w := by
  have hd : ∀ d, (Op.equalIn (d + 1) t (.slice x k c) (.slice none 0 0)).run P w = .ok x.isNone w := fun d => by cases x <;> simp [Op.equalIn, run_underlying hu]
  have he : (Op.equal t (.slice x k c) (.slice none 0 0)).run P w = .ok x.isNone w := hd 9999
  show ((do pure (.bool (← Op.equal t (.slice x k c) (.slice none 0 0))) : Sem Value)).run P w = _
  simp only [Sem.run_bind, he, Result.andThen_ok, Sem.run_pure]
set_option maxHeartbeats 2000000 in
set_option maxRecDepth 100000 in
theorem clonesInterface : ClonesAs Try.prog 66 22 22 := fun w s' => ⟨fun k c e => by
    subst e
    go_enter Try.func66, Try.ntmps66
    go_wp2
    rw [run_eqNil Try.underlying22]
    simp only [Result.andThen, Option.isNone_none]
    rw [Oper.upon_value]
    go_wp2
    go_ret
    exact ⟨rfl, rfl⟩, fun a k c e => by
    subst e
    refine ⟨some ⟨w.heap.size, 0, none⟩, w.alloc (.cells #[] 46), (Below.refl _ _).alloc (Nat.le_refl _) _, fun v' w2 hr => ?_⟩
    go_enter Try.func66, Try.ntmps66
    go_wp2
    rw [run_eqNil Try.underlying22]
    simp only [Result.andThen, Option.isNone_some]
    rw [Oper.upon_value]
    go_wp2_with (at_builtin; refine wpList_append_run rfl _ _ 22 22 rfl rfl rfl rfl hr ?_)
    go_wp2
    go_ret
    exact ⟨rfl, rfl⟩⟩
set_option maxHeartbeats 2000000 in
set_option maxRecDepth 100000 in
theorem clonesLabel : ClonesAs Try.prog 67 23 23 := fun w s' => ⟨fun k c e => by
    subst e
    go_enter Try.func67, Try.ntmps67
    go_wp2
    rw [run_eqNil Try.underlying23]
    simp only [Result.andThen, Option.isNone_none]
    rw [Oper.upon_value]
    go_wp2
    go_ret
    exact ⟨rfl, rfl⟩, fun a k c e => by
    subst e
    refine ⟨some ⟨w.heap.size, 0, none⟩, w.alloc (.cells #[] 44), (Below.refl _ _).alloc (Nat.le_refl _) _, fun v' w2 hr => ?_⟩
    go_enter Try.func67, Try.ntmps67
    go_wp2
    rw [run_eqNil Try.underlying23]
    simp only [Result.andThen, Option.isNone_some]
    rw [Oper.upon_value]
    go_wp2_with (at_builtin; refine wpList_append_run rfl _ _ 23 23 rfl rfl rfl rfl hr ?_)
    go_wp2
    go_ret
    exact ⟨rfl, rfl⟩⟩
set_option maxHeartbeats 2000000 in
set_option maxRecDepth 100000 in
theorem clonesRelabel : ClonesAs Try.prog 68 25 25 := fun w s' => ⟨fun k c e => by
    subst e
    go_enter Try.func68, Try.ntmps68
    go_wp2
    rw [run_eqNil Try.underlying25]
    simp only [Result.andThen, Option.isNone_none]
    rw [Oper.upon_value]
    go_wp2
    go_ret
    exact ⟨rfl, rfl⟩, fun a k c e => by
    subst e
    refine ⟨some ⟨w.heap.size, 0, none⟩, w.alloc (.cells #[] 110), (Below.refl _ _).alloc (Nat.le_refl _) _, fun v' w2 hr => ?_⟩
    go_enter Try.func68, Try.ntmps68
    go_wp2
    rw [run_eqNil Try.underlying25]
    simp only [Result.andThen, Option.isNone_some]
    rw [Oper.upon_value]
    go_wp2_with (at_builtin; refine wpList_append_run rfl _ _ 25 25 rfl rfl rfl rfl hr ?_)
    go_wp2
    go_ret
    exact ⟨rfl, rfl⟩⟩
set_option maxHeartbeats 2000000 in
set_option maxRecDepth 100000 in
theorem clonesRule : ClonesAs Try.prog 69 26 26 := fun w s' => ⟨fun k c e => by
    subst e
    go_enter Try.func69, Try.ntmps69
    go_wp2
    rw [run_eqNil Try.underlying26]
    simp only [Result.andThen, Option.isNone_none]
    rw [Oper.upon_value]
    go_wp2
    go_ret
    exact ⟨rfl, rfl⟩, fun a k c e => by
    subst e
    refine ⟨some ⟨w.heap.size, 0, none⟩, w.alloc (.cells #[] 50), (Below.refl _ _).alloc (Nat.le_refl _) _, fun v' w2 hr => ?_⟩
    go_enter Try.func69, Try.ntmps69
    go_wp2
    rw [run_eqNil Try.underlying26]
    simp only [Result.andThen, Option.isNone_some]
    rw [Oper.upon_value]
    go_wp2_with (at_builtin; refine wpList_append_run rfl _ _ 26 26 rfl rfl rfl rfl hr ?_)
    go_wp2
    go_ret
    exact ⟨rfl, rfl⟩⟩
set_option maxHeartbeats 2000000 in
set_option maxRecDepth 100000 in
theorem clonesRoute : ClonesAs Try.prog 70 27 27 := fun w s' => ⟨fun k c e => by
    subst e
    go_enter Try.func70, Try.ntmps70
    go_wp2
    rw [run_eqNil Try.underlying27]
    simp only [Result.andThen, Option.isNone_none]
    rw [Oper.upon_value]
    go_wp2
    go_ret
    exact ⟨rfl, rfl⟩, fun a k c e => by
    subst e
    refine ⟨some ⟨w.heap.size, 0, none⟩, w.alloc (.cells #[] 113), (Below.refl _ _).alloc (Nat.le_refl _) _, fun v' w2 hr => ?_⟩
    go_enter Try.func70, Try.ntmps70
    go_wp2
    rw [run_eqNil Try.underlying27]
    simp only [Result.andThen, Option.isNone_some]
    rw [Oper.upon_value]
    go_wp2_with (at_builtin; refine wpList_append_run rfl _ _ 27 27 rfl rfl rfl rfl hr ?_)
    go_wp2
    go_ret
    exact ⟨rfl, rfl⟩⟩
set_option maxHeartbeats 2000000 in
set_option maxRecDepth 100000 in
theorem clonesPair : ClonesAs Try.prog 113 51 51 := fun w s' => ⟨fun k c e => by
    subst e
    go_enter Try.func113, Try.ntmps113
    go_wp2
    rw [run_eqNil Try.underlying51]
    simp only [Result.andThen, Option.isNone_none]
    rw [Oper.upon_value]
    go_wp2
    go_ret
    exact ⟨rfl, rfl⟩, fun a k c e => by
    subst e
    refine ⟨some ⟨w.heap.size, 0, none⟩, w.alloc (.cells #[] 55), (Below.refl _ _).alloc (Nat.le_refl _) _, fun v' w2 hr => ?_⟩
    go_enter Try.func113, Try.ntmps113
    go_wp2
    rw [run_eqNil Try.underlying51]
    simp only [Result.andThen, Option.isNone_some]
    rw [Oper.upon_value]
    go_wp2_with (at_builtin; refine wpList_append_run rfl _ _ 51 51 rfl rfl rfl rfl hr ?_)
    go_wp2
    go_ret
    exact ⟨rfl, rfl⟩⟩
end Go.Proofs.Ytepijhnfeafmaaa

end
section
/- Clones: rows of pools, and what they hold. -/
set_option linter.unusedVariables false
set_option linter.unusedSimpArgs false
namespace Go.Proofs.Ytepijhnfeafmaaa
open Go Go.Ideal
/-- What the clones' pool holds of k domains. -/
def rowsD (xs : List Doi) (k : Nat) : List Row := (xs.take k).flatMap fun d => [.dead, .cells (pairsL d.levels), .dead, .cells (pairsL d.cats)]
theorem rowsD_succ (xs : List Doi) {k : Nat} (h : k < xs.length) : rowsD xs (k + 1) = rowsD xs k ++ [.dead, .cells (pairsL (xs.getD k default).levels), .dead, .cells (pairsL (xs.getD k default).cats)] := by
  unfold rowsD
  rw [List.take_succ_eq_append_getElem h, List.flatMap_append, List.flatMap_singleton]
  simp [List.getD, h]
theorem rowsD_len (xs : List Doi) : ∀ {k : Nat}, k ≤ xs.length → (rowsD xs k).length = 4 * k
  | 0, _ => by simp [rowsD]
  | k + 1, h => by
    rw [rowsD_succ xs (by omega), List.length_append, rowsD_len xs (by omega)]
    simp; omega
theorem rowsD_at (xs : List Doi) {j r : Nat} (hr : r < 4) : ∀ {k : Nat}, j < k → k ≤ xs.length → (rowsD xs k)[4 * j + r]? = ([.dead, .cells (pairsL (xs.getD j default).levels), .dead, .cells (pairsL (xs.getD j default).cats)] : List Row)[r]?
  | 0, hj, _ => by omega
  | k + 1, hj, hk => by
    rw [rowsD_succ xs (by omega)]
    by_cases e : j < k
    · rw [List.getElem?_append_left (by rw [rowsD_len xs (by omega)]; omega), rowsD_at xs hr e (by omega)]
    · obtain rfl : j = k := by omega
      rw [List.getElem?_append_right (by rw [rowsD_len xs (by omega)]; omega), rowsD_len xs (by omega)]
      congr 1
      omega
theorem rowsD_lev (xs : List Doi) {j k : Nat} (hj : j < k) (hk : k ≤ xs.length) : (rowsD xs k)[4 * j + 1]? = some (.cells (pairsL (xs.getD j default).levels)) := rowsD_at xs (r := 1) (by decide) hj hk
theorem rowsD_cat (xs : List Doi) {j k : Nat} (hj : j < k) (hk : k ≤ xs.length) : (rowsD xs k)[4 * j + 3]? = some (.cells (pairsL (xs.getD j default).cats)) := rowsD_at xs (r := 3) (by decide) hj hk
/-- A cloned domain's cells. -/
def doiX (p : Nat) (d : Doi) (j : Nat) : List Value := [.int .u32 d.number, rsl p (4 * j + 1) 2 0 (d.levels.length : Nat), rsl p (4 * j + 3) 2 0 (d.cats.length : Nat)]
def cloneL (p : Nat) (xs : List Doi) (k : Nat) : List Value := (List.range k).flatMap fun j => doiX p (xs.getD j default) j
theorem cloneL_succ (p : Nat) (xs : List Doi) (k : Nat) : cloneL p xs (k + 1) = cloneL p xs k ++ doiX p (xs.getD k default) k := by
  unfold cloneL
  rw [List.range_succ, List.flatMap_append, List.flatMap_singleton]
theorem cloneL_len (p : Nat) (xs : List Doi) : ∀ k, (cloneL p xs k).length = k * 3
  | 0 => rfl
  | k + 1 => by
    rw [cloneL_succ, List.length_append, cloneL_len p xs k]
    simp [doiX]; omega
theorem cloneL_at (p : Nat) (xs : List Doi) {j r : Nat} (hr : r < 3) : ∀ {k : Nat}, j < k → (cloneL p xs k)[j * 3 + r]? = (doiX p (xs.getD j default) j)[r]?
  | 0, hj => by omega
  | k + 1, hj => by
    rw [cloneL_succ]
    by_cases e : j < k
    · rw [List.getElem?_append_left (by rw [cloneL_len]; omega), cloneL_at p xs hr e]
    · obtain rfl : j = k := by omega
      rw [List.getElem?_append_right (by rw [cloneL_len]; omega), cloneL_len]
      congr 1
      omega
/-- The list's own pool: what was there is dead, and the list. -/
def rowsB (k : Nat) (X : List Value) : List Row := List.replicate k .dead ++ [.cells X]
theorem rowsB_len (k : Nat) (X : List Value) : (rowsB k X).length = k + 1 := by simp [rowsB]
theorem rowsB_get (k : Nat) (X : List Value) : (rowsB k X)[k]? = some (.cells X) := by simp [rowsB]
theorem rowsB_cells (k : Nat) (X : List Value) : cellsAt (rowsB k X) k = X := by unfold cellsAt; rw [rowsB_get]
theorem rowsB_live (k : Nat) (X : List Value) : liveAt (rowsB k X) k = true := by unfold liveAt; rw [rowsB_get]
theorem rowsB_move (k : Nat) (X new : List Value) : moveAt (rowsB k X) k new = rowsB (k + 1) (X ++ new) := by
  unfold moveAt
  rw [rowsB_cells]
  unfold rowsB
  rw [List.set_append_right _ _ (by simp)]
  simp [List.replicate_succ']
/-- The same of clones; an element's cells; how many rows. -/
def rowsC (p : Nat) (xs : List Doi) (k : Nat) : List Row := rowsB k (cloneL p xs k)
def rowsCAt (p : Nat) (xs : List Doi) (_k _r i : Nat) : List Value := doiX p (xs.getD i default) i
def rowsCLen (_p : Nat) (_xs : List Doi) (k : Nat) : Nat := k + 1
def rowsDLen (_xs : List Doi) (k : Nat) : Nat := 4 * k
def rowsDAt (xs : List Doi) (_k r i : Nat) : List Value := [((cellsAt (rowsD xs xs.length) r).getD i Go.undef)]
end Go.Proofs.Ytepijhnfeafmaaa

end
section
/- Clones: what they read as, as they stand. -/
set_option linter.unusedVariables false
set_option linter.unusedSimpArgs false
namespace Go.Proofs.Ytepijhnfeafmaaa
open Go Go.Ideal
def plainV : Value → Bool
  | .int _ _ => true
  | .bool _ => true
  | _ => false
theorem plain_bor (h : Heap) {v : Value} (e : plainV v = true) : BorR h v v := by
  cases v <;> first | exact .of 1 rfl | (exact Bool.noConfusion e)
theorem plain_one {v : Value} (e : plainV v = true) : Go.Ideal.oneCell v = true := by
  cases v <;> first | rfl | (exact Bool.noConfusion e)
theorem all_one {l : List Value} (e : l.all plainV = true) : l.all Go.Ideal.oneCell = true := List.all_eq_true.2 fun v hv => plain_one (List.all_eq_true.1 e v hv)
theorem cellsOf_all {α : Type} {f : α → List Value} {p : Value → Bool} (h : ∀ a, (f a).all p = true) : ∀ l : List α, (cellsOf f l).all p = true
  | [] => rfl
  | a :: l => by
    show (f a ++ cellsOf f l).all p = true
    rw [List.all_append, h a, cellsOf_all h l]; rfl
theorem cellsOf_len {α : Type} {f : α → List Value} {n : Nat} (h : ∀ a, (f a).length = n) : ∀ l : List α, (cellsOf f l).length = l.length * n
  | [] => by simp [cellsOf]
  | a :: l => by
    show (f a ++ cellsOf f l).length = _
    rw [List.length_append, h a, cellsOf_len h l, List.length_cons, Nat.add_mul]; omega
theorem faces_plain (xs : List Face) : (facesL xs).all plainV = true := cellsOf_all (fun _ => rfl) xs
theorem lbls_plain (xs : List Lbl) : (lblsL xs).all plainV = true := cellsOf_all (fun _ => rfl) xs
theorem relabs_plain (xs : List Relab) : (relabsL xs).all plainV = true := cellsOf_all (fun _ => rfl) xs
theorem rules_plain (xs : List Rule) : (rulesL xs).all plainV = true := cellsOf_all (fun _ => rfl) xs
theorem routs_plain (xs : List Rout) : (routsL xs).all plainV = true := cellsOf_all (fun _ => rfl) xs
theorem pairs_plain (xs : List Pair) : (pairsL xs).all plainV = true := cellsOf_all (fun _ => rfl) xs
theorem faces_len (xs : List Face) : (facesL xs).length = xs.length * 97 := cellsOf_len faceL_length xs
theorem lbls_len (xs : List Lbl) : (lblsL xs).length = xs.length * 31 := cellsOf_len lblL_length xs
theorem relabs_len (xs : List Relab) : (relabsL xs).length = xs.length * 8 := cellsOf_len relabL_length xs
theorem rules_len (xs : List Rule) : (rulesL xs).length = xs.length * 12 := cellsOf_len ruleL_length xs
theorem routs_len (xs : List Rout) : (routsL xs).length = xs.length * 3 := cellsOf_len routL_length xs
theorem pairs_len (xs : List Pair) : (pairsL xs).length = xs.length * 2 := cellsOf_len pairL_length xs
theorem row_bor {h : Heap} {p r es n : Nat} {rows : List Row} {cs : List Value} (hg : h.get p = some (.pool rows)) (hc : rows[r]? = some (.cells cs)) (hp : cs.all plainV = true) (hl : cs.length = n * es) : BorR h (rsl p r es 0 n) (vsl n cs.toArray) :=
  .row hg hc (by omega) (fun e => List.length_eq_zero_iff.1 (by rw [hl, e]; omega)) fun j hj => by
    rw [Nat.zero_add]
    refine plain_bor h (List.all_eq_true.1 hp _ ?_)
    simp only [List.getD, List.getElem?_eq_getElem hj, Option.getD_some]
    exact List.getElem_mem hj
theorem doisL_at (xs : List Doi) {j r : Nat} (hj : j < xs.length) (hr : r < 3) : (doisL xs)[j * 3 + r]? = (doiL (xs.getD j default))[r]? := by
  unfold doisL
  have h1 := cellsOf_drop (f := doiL) doiL_length xs j (by omega)
  have h2 : (cellsOf doiL xs)[j * 3 + r]? = ((cellsOf doiL xs).drop (j * 3))[r]? := by rw [List.getElem?_drop]
  rw [h2, h1, List.drop_eq_getElem_cons hj]
  show (doiL xs[j] ++ cellsOf doiL (xs.drop (j + 1)))[r]? = _
  rw [List.getElem?_append_left (by rw [doiL_length]; exact hr)]
  simp [List.getD, hj]
/-- The list of clones reads as what was cloned. -/
theorem dois_bor {h : Heap} {p q k : Nat} {rows : List Row} {xs : List Doi} (hB : h.get q = some (.pool rows)) (hc : rows[k]? = some (.cells (cloneL p xs xs.length))) (hA : h.get p = some (.pool (rowsD xs xs.length))) : BorR h (rsl q k 3 0 xs.length) (doisV xs) := by
  have hlen : (doisL xs).length = xs.length * 3 := cellsOf_len doiL_length xs
  refine .row hB hc (by rw [hlen, cloneL_len]; omega) (fun e => List.length_eq_zero_iff.1 (by rw [hlen, e])) fun j hj => ?_
  rw [Nat.zero_add]
  rw [hlen] at hj
  have e0 : j = (j / 3) * 3 + j % 3 := by omega
  have hj3 : j / 3 < xs.length := by omega
  have hr : j % 3 < 3 := by omega
  generalize j / 3 = i at e0 hj3
  generalize j % 3 = r at e0 hr
  subst e0
  have e1 := cloneL_at p xs (k := xs.length) hr hj3
  have e2 := doisL_at xs hj3 hr
  simp only [List.getD, e1, e2]
  match r, hr with
  | 0, _ => exact .of 1 rfl
  | 1, _ => exact row_bor hA (rowsD_lev xs hj3 (Nat.le_refl _)) (pairs_plain _) (pairs_len _)
  | 2, _ => exact row_bor hA (rowsD_cat xs hj3 (Nat.le_refl _)) (pairs_plain _) (pairs_len _)
/-! ### calls that copy -/
def infoOK (P : Program) (t : TypeId) (es m : Nat) : Bool := match P.info? t with
  | some i => match i.zero with
    | some z => (z.cells.size == i.size) && (i.size == es) && decide (i.bytes ≤ m)
    | none => false
  | none => false
theorem info_of {P : Program} {t : TypeId} {es m : Nat} (h : infoOK P t es m = true) : ∃ ti zv, P.info? t = some ti ∧ ti.zero = some zv ∧ zv.cells.size = ti.size ∧ ti.size = es ∧ ti.bytes ≤ m := by
  unfold infoOK at h
  split at h
  · rename_i i hi
    split at h
    · rename_i z hz
      simp only [Bool.and_eq_true, beq_iff_eq, decide_eq_true_eq] at h
      exact ⟨i, z, hi, hz, h.1.1, h.1.2, h.2⟩
    · cases h
  · cases h
theorem bytes_fit {n b : Nat} (h1 : n ≤ 100000) (h2 : b ≤ 5000) : n * (b + 1) ≤ 1099511627776 := Nat.le_trans (Nat.mul_le_mul h1 (Nat.succ_le_succ h2)) (by decide)
theorem new_s {P : Program} {f : FuncId} {st elem : TypeId} {es : Nat} (hC : ClonesAs P f st st) (hu : P.underlying st = some (.slice elem)) (hi : infoOK P elem es 5000 = true) {s v : Value} {h h2 : Heap} {n : Nat} {cs : List Value} (e : cloneNew es [s] h = some (v, h2))
    (hs : sliceNow h s = some ((n : Int), cs)) (hlv : liveNow h s) (hc : cs.length = n * es) (hp : cs.all plainV = true) (hb : n ≤ 100000) : CallS P f [s] h fun v1 h1 => v1 = v ∧ h1 = h2 := by
  obtain ⟨ti, zv, i1, i2, i3, i4, i5⟩ := info_of hi
  subst i4
  exact hC.new hu i1 i2 i3 e hs hlv hc (all_one hp) (bytes_fit hb i5)
theorem last_s {P : Program} {f : FuncId} {st elem : TypeId} {es : Nat} (hC : ClonesAs P f st st) (hu : P.underlying st = some (.slice elem)) (hi : infoOK P elem es 5000 = true) {s v : Value} {h h2 : Heap} {n : Nat} {cs : List Value} (e : cloneTo es [s] h = some (v, h2))
    (hs : sliceNow h s = some ((n : Int), cs)) (hlv : liveNow h s) (hc : cs.length = n * es) (hp : cs.all plainV = true) (hb : n ≤ 100000) : CallS P f [s] h fun v1 h1 => v1 = v ∧ h1 = h2 := by
  obtain ⟨ti, zv, i1, i2, i3, i4, i5⟩ := info_of hi
  subst i4
  exact hC.last hu i1 i2 i3 e hs hlv hc (all_one hp) (bytes_fit hb i5)
theorem plain_refs {a b : Nat} {l : List Value} (h : l.all plainV = true) : l.all (refsOK (a + 1) b) = true := List.all_eq_true.2 fun v hv => by
  have := List.all_eq_true.1 h v hv
  cases v <;> first | rfl | (exact Bool.noConfusion this)
theorem rowsOK_one {N : Nat} {l : List Value} (h : l.all plainV = true) : Ideal.rowsOK N [.dead, .cells l] := by
  intro row hr
  simp only [List.mem_cons, List.not_mem_nil, or_false] at hr
  rcases hr with rfl | rfl
  · trivial
  · exact plain_refs h
theorem rowsOK_D {N : Nat} (xs : List Doi) (k : Nat) : Ideal.rowsOK N (rowsD xs k) := by
  intro row hr
  unfold rowsD at hr
  obtain ⟨d, _, hd⟩ := List.mem_flatMap.1 hr
  simp only [List.mem_cons, List.not_mem_nil, or_false] at hd
  rcases hd with rfl | rfl | rfl | rfl
  · trivial
  · exact plain_refs (pairs_plain _)
  · trivial
  · exact plain_refs (pairs_plain _)
theorem cloneL_refs {N p : Nat} (hN : Nat.blt p N = true) (xs : List Doi) (k : Nat) : (cloneL p xs k).all (refsOK 8 N) = true := by
  refine List.all_eq_true.2 fun v hv => ?_
  unfold cloneL at hv
  obtain ⟨j, _, hd⟩ := List.mem_flatMap.1 hv
  simp only [doiX, List.mem_cons, List.not_mem_nil, or_false] at hd
  rcases hd with rfl | rfl | rfl
  · rfl
  · exact hN
  · exact hN
theorem rowsOK_C {N p : Nat} (hN : Nat.blt p N = true) (xs : List Doi) (k : Nat) : Ideal.rowsOK N (rowsC p xs k) := by
  intro row hr
  unfold rowsC rowsB at hr
  rcases List.mem_append.1 hr with h | h
  · obtain ⟨_, rfl⟩ := List.mem_replicate.1 h
    trivial
  · rw [List.mem_singleton] at h
    subst h
    exact cloneL_refs hN xs k
/-- Rows that are as long as those of domains, and plain. -/
def dRows (xs : List Doi) (R : List Row) : Prop := R.length = 4 * xs.length ∧ (∀ j, j < xs.length → ∃ Y, R[4 * j + 1]? = some (.cells Y) ∧ Y.length = (xs.getD j default).levels.length * 2) ∧ ∀ row ∈ R, row = .dead ∨ ∃ Y, row = .cells Y ∧ Y.all plainV = true
theorem rowsD_ok (xs : List Doi) : dRows xs (rowsD xs xs.length) := by
  refine ⟨rowsD_len xs (Nat.le_refl _), fun j hj => ⟨_, rowsD_lev xs hj (Nat.le_refl _), pairs_len _⟩, fun row hr => ?_⟩
  unfold rowsD at hr
  obtain ⟨d, _, hd⟩ := List.mem_flatMap.1 hr
  simp only [List.mem_cons, List.not_mem_nil, or_false] at hd
  rcases hd with rfl | rfl | rfl | rfl
  · exact .inl rfl
  · exact .inr ⟨_, rfl, pairs_plain _⟩
  · exact .inl rfl
  · exact .inr ⟨_, rfl, pairs_plain _⟩
/-! ### the loops -/
theorem rowsC_len (p : Nat) (xs : List Doi) (k : Nat) : (rowsC p xs k).length = k + 1 := rowsB_len _ _
theorem slot_next (q p : Nat) (xs : List Doi) (k : Nat) : rsl q (List.length (rowsC p xs k)) 3 0 ((k : Int) + ((1 : Nat) : Int)) = rsl q (k + 1) 3 0 ((k + 1 : Nat) : Int) := by
  rw [rowsC_len]; rfl
theorem rowsD_next {xs : List Doi} {k : Nat} (h : k < xs.length) : rowsD xs k ++ [.dead, .cells (pairsL (xs.getD k default).levels)] ++ [.dead, .cells (pairsL (xs.getD k default).cats)] = rowsD xs (k + 1) := by
  rw [rowsD_succ xs h, List.append_assoc]; rfl
theorem rowsC_next {p : Nat} {xs : List Doi} {k : Nat} (h : k < xs.length) (A : List Value) : moveAt (rowsC p xs k) k [.int .u32 (xs.getD k default).number, rsl p (List.length (rowsD xs k) + 1) 2 0 ((xs.getD k default).levels.length : Nat), rsl p (List.length (rowsD xs k ++ [.dead, .cells A]) + 1) 2 0 ((xs.getD k default).cats.length : Nat)] = rowsC p xs (k + 1) := by
  unfold rowsC
  rw [rowsB_move, cloneL_succ, List.length_append, rowsD_len xs (by omega)]
  rfl
theorem rowsC_full {p : Nat} {P : Program} (xs : List Doi) (k : Nat) : (Ask.full (rowsC p xs k) k (k * Int.toNat (3 : Int))).holds P := Ask.full_of (rowsB_get k _) (cloneL_len p xs k)
theorem cloneL_part (p : Nat) (xs : List Doi) {j k : Nat} (hj : j < k) : ((cloneL p xs k).drop (j * 3)).take 3 = doiX p (xs.getD j default) j := by
  apply List.ext_getElem?
  intro r
  by_cases hr : r < 3
  · rw [List.getElem?_take_of_lt hr, List.getElem?_drop, cloneL_at p xs hr hj]
  · rw [List.getElem?_eq_none (by simp; omega), List.getElem?_eq_none (by simp [doiX]; omega)]
theorem rowsC_row {p : Nat} {P : Program} (xs : List Doi) {j k : Nat} (hj : j < k) : (Ask.row (rowsC p xs k) k (Int.toNat (0 : Int) + j * 3) 3 (doiX p (xs.getD j default) j)).holds P :=
  Ask.row_of (rowsB_get k _) (by rw [cloneL_len]; show 0 + j * 3 + 3 ≤ _; omega) (by rw [show Int.toNat (0 : Int) + j * 3 = j * 3 from Nat.zero_add _]; exact cloneL_part p xs hj)
theorem lev_cells (xs : List Doi) {j k : Nat} (hj : j < k) (hk : k ≤ xs.length) : cellsAt (rowsD xs k) (4 * j + 1) = pairsL (xs.getD j default).levels ∧ liveAt (rowsD xs k) (4 * j + 1) = true := by
  unfold cellsAt liveAt; rw [rowsD_lev xs hj hk]; exact ⟨rfl, rfl⟩
theorem cat_cells (xs : List Doi) {j k : Nat} (hj : j < k) (hk : k ≤ xs.length) : cellsAt (rowsD xs k) (4 * j + 3) = pairsL (xs.getD j default).cats ∧ liveAt (rowsD xs k) (4 * j + 3) = true := by
  unfold cellsAt liveAt; rw [rowsD_cat xs hj hk]; exact ⟨rfl, rfl⟩
theorem splice_plain {X vs : List Value} {o : Nat} (h : X.all plainV = true) (hv : vs.all plainV = true) : (splice X o vs).all plainV = true := by
  unfold splice
  rw [List.all_append, List.all_append, hv]
  have h1 : (X.take o).all plainV = true := List.all_eq_true.2 fun v hm => List.all_eq_true.1 h v (List.mem_of_mem_take hm)
  have h2 : ∀ n, (X.drop n).all plainV = true := fun n => List.all_eq_true.2 fun v hm => List.all_eq_true.1 h v (List.mem_of_mem_drop hm)
  rw [h1, h2]; rfl
theorem dRows_ok {N : Nat} {xs : List Doi} {R : List Row} (h : dRows xs R) : Ideal.rowsOK N R := by
  intro row hr
  rcases h.2.2 row hr with rfl | ⟨Y, rfl, hp⟩
  · trivial
  · exact plain_refs hp
theorem dRows_put {xs : List Doi} {R : List Row} (h : dRows xs R) {j o : Nat} {v : Value} (hj : j < xs.length) (ho : o + 1 ≤ (xs.getD j default).levels.length * 2) (hv : plainV v = true) : dRows xs (putAt R (4 * j + 1) o [v]) := by
  obtain ⟨h1, h2, h3⟩ := h
  obtain ⟨Y, e, hY⟩ := h2 j hj
  have hc : cellsAt R (4 * j + 1) = Y := by unfold cellsAt; rw [e]
  have hlt := (List.getElem?_eq_some_iff.1 e).1
  have hpY : Y.all plainV = true := by
    rcases h3 _ (List.mem_of_getElem? e) with k | ⟨Z, k, hz⟩
    · cases k
    · cases k; exact hz
  unfold putAt
  rw [hc]
  refine ⟨by rw [List.length_set]; exact h1, fun i hi => ?_, fun row hr => ?_⟩
  · by_cases ei : i = j
    · subst ei
      refine ⟨splice Y o [v], by rw [List.getElem?_set_self hlt], ?_⟩
      rw [splice_length _ _ _ (by rw [hY]; exact ho), hY]
    · obtain ⟨Z, ez, hz⟩ := h2 i hi
      exact ⟨Z, by rw [List.getElem?_set_ne (by omega)]; exact ez, hz⟩
  · rcases List.mem_or_eq_of_mem_set hr with k | k
    · exact h3 row k
    · exact .inr ⟨_, k, splice_plain hpY (by rw [List.all_cons, hv]; rfl)⟩
theorem dRows_space {P : Program} {xs : List Doi} {R : List Row} (h : dRows xs R) {j o : Nat} (hj : j < xs.length) (ho : o ≤ (xs.getD j default).levels.length * 2) : (Ask.space R (4 * j + 1) o).holds P := by
  obtain ⟨Y, e, hY⟩ := h.2.1 j hj
  exact Ask.space_of e (by rw [hY]; exact ho)
theorem conf_bor {h : Heap} {c : Conf} {p1 p2 p3 p4 p5 pB pA : Nat} (g1 : h.get p1 = some (.pool [.dead, .cells (facesL c.faces)])) (g2 : h.get p2 = some (.pool [.dead, .cells (lblsL c.labels)])) (g3 : h.get p3 = some (.pool [.dead, .cells (relabsL c.relabels)]))
    (g4 : h.get p4 = some (.pool [.dead, .cells (rulesL c.rules)])) (g5 : h.get p5 = some (.pool [.dead, .cells (routsL c.routes)])) (gB : h.get pB = some (.pool (rowsC pA c.dois c.dois.length))) (gA : h.get pA = some (.pool (rowsD c.dois c.dois.length))) :
    BorRs h [.agg (Array.mk ([rsl p1 1 97 0 (c.faces.length : Nat), rsl p2 1 31 0 (c.labels.length : Nat), rsl pB c.dois.length 3 0 (c.dois.length : Nat), rsl p3 1 8 0 (c.relabels.length : Nat), rsl p4 1 12 0 (c.rules.length : Nat), rsl p5 1 3 0 (c.routes.length : Nat)] ++ quotL c.quotas))] [confV c] := by
  refine ⟨rfl, fun j hj => ?_⟩
  obtain rfl : j = 0 := by simpa using hj
  refine .agg (l2 := confL c) rfl fun j hj => ?_
  have hj : j < 15 := hj
  match j, hj with
  | 0, _ => exact row_bor g1 rfl (faces_plain _) (faces_len _)
  | 1, _ => exact row_bor g2 rfl (lbls_plain _) (lbls_len _)
  | 2, _ => exact dois_bor gB (rowsB_get _ _) gA
  | 3, _ => exact row_bor g3 rfl (relabs_plain _) (relabs_len _)
  | 4, _ => exact row_bor g4 rfl (rules_plain _) (rules_len _)
  | 5, _ => exact row_bor g5 rfl (routs_plain _) (routs_len _)
  | 6, _ => exact .of 1 rfl
  | 7, _ => exact .of 1 rfl
  | 8, _ => exact .of 1 rfl
  | 9, _ => exact .of 1 rfl
  | 10, _ => exact .of 1 rfl
  | 11, _ => exact .of 1 rfl
  | 12, _ => exact .of 1 rfl
  | 13, _ => exact .of 1 rfl
  | 14, _ => exact .of 1 rfl
end Go.Proofs.Ytepijhnfeafmaaa

end
