/- Texts packed together: IOps IOps2 IOps3 IOps4 IOps5. -/
import Derived.Laws.BytesString
import Derived.Laws.Tables
import Derived.Test.YtidlganponfccaaDoorZ3
section
/- Each operation of the ideal interpreter answers as the model's, whatever the world. Plain lemmas, over any program. -/
set_option linter.unusedVariables false
set_option linter.unusedSimpArgs false
namespace Go.Ideal
open Go.RowKit

variable {P : Program} {B : Nat} {w0 : Org}

/-! ### types -/
theorem isAgg_run {t : TypeId} {b : Bool} (h : isAggI P t = some b) (w : World) : (isAgg t).run P w = .ok b w := by
  unfold isAggI at h
  unfold isAgg
  simp only [Sem.run_bind]
  cases hu : P.underlying t with
  | none => simp [hu] at h
  | some d =>
    rw [run_underlying hu]
    simp only [hu] at h
    cases d <;> simp_all
theorem sizeOf_run {t : TypeId} {n : Nat} (h : sizeI P t = some n) (w : World) : (sizeOf t).run P w = .ok n w := by
  unfold sizeI at h
  cases hi : P.info? t with
  | none => simp [hi] at h
  | some i => simp only [hi, Option.map_some, Option.some.injEq] at h; subst h; simp [sizeOf, typeInfo, hi]
theorem zero_run {t : TypeId} {z : List Value} (h : zeroI P t = some z) (w : World) : ∃ v, (zeroValue t).run P w = .ok v w ∧ z = v.cells.toList ∧ flat v = true := by
  unfold zeroI at h
  cases hi : P.info? t with
  | none => simp [hi] at h
  | some i =>
    cases hz : i.zero with
    | none => simp [hi, hz] at h
    | some v =>
      simp only [hi, Option.bind_some, hz, Option.ite_none_right_eq_some, Option.some.injEq] at h
      exact ⟨v, by simp [zeroValue, typeInfo, hi, hz], by rw [← h.2, cellList_eq], h.1⟩
theorem zero_rel {t : TypeId} {z : List Value} (h : zeroI P t = some z) (σ : Sg) : LRel σ z z := by
  obtain ⟨v, _, rfl, hf⟩ := zero_run h default
  have := (flat_rel hf σ).cells
  rwa [cellList_eq] at this

/-! ### load, store -/
theorem load_sound {w : World} {σ : Sg} {h : Heap} (H : HRel P B w0 σ h w) {t : TypeId} {a a' : Addr} {v : Value} (hl : loadI P h t a = some v) (ha : ARel σ a a') :
    ∃ v', (loadVar t a').run P w = .ok v' w ∧ VRel σ v v' := by
  unfold loadI at hl
  split at hl
  · rename_i n h1 h2
    cases hr : rdCells h a n with
    | none => simp [hr] at hl
    | some cs =>
      simp only [hr, Option.map_some, Option.some.injEq] at hl
      subst hl
      obtain ⟨cs', k1, k2, _⟩ := rd_sound H hr ha
      exact ⟨.agg cs'.toArray, by simp [loadVar, isAgg_run h1, sizeOf_run h2, k1], VRel.agg_of (by simpa using k2)⟩
  · rename_i n h1 h2
    split at hl
    · rename_i u hr
      simp only [Option.some.injEq] at hl
      subst hl
      obtain ⟨cs', k1, k2, _⟩ := rd_sound H hr ha
      cases k2 with
      | cons hv ht =>
        cases ht
        rename_i v'
        refine ⟨v', ?_, hv⟩
        simp only [loadCells, loadCellsFrom, Sem.run_bind] at k1
        simp only [loadVar, Sem.run_bind, isAgg_run h1, Result.andThen_ok]
        rw [Addr.add_zero'] at k1
        simp only [Bool.false_eq_true, if_false]
        cases hq : (load a').run P w with
        | ok x y =>
          rw [hq] at k1
          simp only [Result.andThen_ok, Sem.run_pure] at k1
          simp at k1
          obtain ⟨rfl, rfl⟩ := k1
          rfl
        | halt x y => rw [hq] at k1; simp [Result.andThen] at k1
    · cases hl
  · cases hl

theorem store_sound {w : World} {σ : Sg} {h h' : Heap} (H : HRel P B w0 σ h w) {t : TypeId} {a a' : Addr} {v v' : Value} (hs : storeI P h t a v = some h') (ha : ARel σ a a') (hv : VRel σ v v') :
    ∃ w', (storeVar t a' v').run P w = .ok () w' ∧ HRel P B w0 σ h' w' := by
  unfold storeI at hs
  split at hs
  · rename_i n h2
    simp only [Option.ite_none_right_eq_some] at hs
    obtain ⟨h3, h4⟩ := hs
    have hc := hv.cells
    have hl := hc.len
    rw [Nat.beq_eq] at h3
    obtain ⟨w', k1, k2⟩ := wr_sound H h4 ha hc
    refine ⟨w', ?_, k2⟩
    have hn : v'.cells.size = n := by rw [← h3, hl]; simp
    simp only [storeVar, Sem.run_bind, sizeOf_run h2, Result.andThen_ok, hn, ne_eq, not_true_eq_false, if_false, k1]
  · cases hs

/-! ### parts -/
theorem part_sound {w : World} {σ : Sg} {t : TypeId} {cs : List Value} {cs' : Array Value} {off : Nat} {v : Value} (hp : partI P t cs off = some v) (hr : LRel σ cs cs'.toList) :
    ∃ v', (part t cs' off).run P w = .ok v' w ∧ VRel σ v v' := by
  unfold partI at hp
  split at hp
  · rename_i n h1 h2
    simp only [Option.some.injEq] at hp
    subst hp
    refine ⟨.agg (cs'.extract off (off + n)), by simp [part, isAgg_run h1, sizeOf_run h2], VRel.agg_of ?_⟩
    rw [Array.toList_extract, List.extract_eq_take_drop]
    simp only [Nat.add_sub_cancel_left]
    exact (hr.drop _).take _
  · rename_i n h1 h2
    obtain ⟨v', k1, k2⟩ := hr.get? _ _ hp
    refine ⟨v', ?_, k2⟩
    rw [Array.getElem?_toList] at k1
    simp [part, isAgg_run h1, k1]
  · cases hp

/-! ### fill -/
theorem foldl_splice (off : Nat) : ∀ (l : List Value) (k : Nat) (cells : Array Value), off + k + l.length ≤ cells.size →
    ((l.zipIdx k).foldl (fun cs x => cs.setIfInBounds (off + x.2) x.1) cells).toList = splice cells.toList (off + k) l
  | [], k, cells, _ => by simp [splice]
  | v :: l, k, cells, h => by
    simp only [List.length_cons] at h
    rw [List.zipIdx_cons, List.foldl_cons, foldl_splice off l (k + 1) _ (by simp; omega)]
    simp only [Array.toList_setIfInBounds]
    rw [← Nat.add_assoc, set_splice _ _ _ _ (by simp; omega)]

theorem fill_sound {σ : Sg} {place : Nat → Option (Nat × Nat)} : ∀ {parts parts' : List (Nat × Value)} {cs out : List Value} {cells : Array Value},
    fillI place cs parts = some out → LRel σ cs cells.toList → parts.length = parts'.length → (∀ (j : Nat) (x x' : Nat × Value), parts[j]? = some x → parts'[j]? = some x' → x.1 = x'.1 ∧ VRel σ x.2 x'.2) →
    ∃ out', Instr.fill place cells parts' = some out' ∧ LRel σ out out'.toList
  | [], [], cs, out, cells, h, hc, _, _ => by
    simp only [fillI, Option.some.injEq] at h; subst h
    exact ⟨cells, rfl, hc⟩
  | [], _ :: _, _, _, _, _, _, hl, _ => by simp at hl
  | _ :: _, [], _, _, _, _, _, hl, _ => by simp at hl
  | (i, v) :: rest, (i', v') :: rest', cs, out, cells, h, hc, hl, hp => by
    obtain ⟨e, hv⟩ := hp 0 (i, v) (i', v') rfl rfl
    simp only at e hv; subst e
    simp only [fillI] at h
    split at h
    · cases h
    · rename_i off size hpl
      split at h
      · rename_i hb
        simp only [Bool.and_eq_true, Nat.beq_eq, Nat.ble_eq] at hb
        have hvc := hv.cells
        have hlv := hvc.len
        have hlc := hc.len
        simp only [Array.length_toList] at hlv hlc
        have hsz : off + v'.cells.toList.length ≤ cells.size := by rw [Array.length_toList]; omega
        have hfold : (Array.foldl (fun cs x => cs.setIfInBounds (off + x.2) x.1) cells v'.cells.zipIdx).toList = splice cells.toList off v'.cells.toList := by
          rw [← Array.foldl_toList, Array.toList_zipIdx]
          exact foldl_splice off v'.cells.toList 0 cells hsz
        have := fill_sound (place := place) (parts := rest) (parts' := rest') (cells := Array.foldl (fun cs x => cs.setIfInBounds (off + x.2) x.1) cells v'.cells.zipIdx) h
          (by rw [hfold]; exact hc.splice hvc off) (by simpa using hl) (fun j x x' a b => hp (j + 1) x x' (by simpa using a) (by simpa using b))
        obtain ⟨out', k1, k2⟩ := this
        refine ⟨out', ?_, k2⟩
        simp only [Instr.fill, hpl]
        rw [if_neg (by simp; omega)]
        exact k1
      · cases h

theorem sizes_mapM : ∀ {fs : List Field} {pl : List (Nat × Nat)}, sizesI P fs = some pl → fs.mapM (fun f => (P.info? f.type).map fun i => (f.offset, i.size)) = some pl
  | [], pl, h => by simp only [sizesI, Option.some.injEq] at h; subst h; rfl
  | f :: fs, pl, h => by
    simp only [sizesI] at h
    split at h
    · rename_i n l h1 h2
      simp only [Option.some.injEq] at h; subst h
      have := sizes_mapM h2
      unfold sizeI at h1
      cases hi : P.info? f.type with
      | none => simp [hi] at h1
      | some i =>
        simp only [hi, Option.map_some, Option.some.injEq] at h1; subst h1
        simp only [List.mapM_cons, hi, Option.map_some, this]; rfl
    · cases h

theorem zero_info {t : TypeId} {z : List Value} (h : zeroI P t = some z) : ∃ i zv, P.info? t = some i ∧ i.zero = some zv ∧ z = zv.cells.toList ∧ flat zv = true := by
  unfold zeroI at h
  cases hi : P.info? t with
  | none => simp [hi] at h
  | some i =>
    cases hz : i.zero with
    | none => simp [hi, hz] at h
    | some v =>
      simp only [hi, Option.bind_some, hz, Option.ite_none_right_eq_some, Option.some.injEq] at h
      exact ⟨i, v, rfl, hz, by rw [← h.2, cellList_eq], h.1⟩
theorem size_info {t : TypeId} {n : Nat} (h : sizeI P t = some n) : ∃ i, P.info? t = some i ∧ i.size = n := by
  unfold sizeI at h
  cases hi : P.info? t with
  | none => simp [hi] at h
  | some i => simp only [hi, Option.map_some, Option.some.injEq] at h; exact ⟨i, rfl, h⟩

theorem zerosI_length (z : List Value) : ∀ n, (zerosI z n).length = n * z.length
  | 0 => by simp [zerosI]
  | n + 1 => by simp only [zerosI, List.length_append, zerosI_length z n, Nat.succ_mul]; omega
theorem zerosI_get (z : List Value) : ∀ (n i : Nat), i < n * z.length → (zerosI z n)[i]? = z[i % z.length]?
  | 0, i, h => by simp at h
  | n + 1, i, h => by
    rw [Nat.succ_mul] at h
    simp only [zerosI]
    rcases Nat.lt_or_ge i z.length with hi | hi
    · rw [List.getElem?_append_left hi, Nat.mod_eq_of_lt hi]
    · rw [List.getElem?_append_right hi, zerosI_get z n (i - z.length) (by omega), Nat.mod_eq_sub_mod hi]
theorem zeros_eq (z : Array Value) (n m : Nat) (hm : m = n * z.size) : ((Array.range m).map (fun i => z[i % z.size]!)).toList = zerosI z.toList n := by
  apply List.ext_getElem?
  intro i
  subst hm
  rcases Nat.lt_or_ge i (n * z.size) with hi | hi
  · rw [zerosI_get _ _ _ (by simpa using hi)]
    have hz : 0 < z.size := by
      rcases Nat.eq_zero_or_pos z.size with h | h
      · rw [h] at hi; simp at hi
      · exact h
    have hlt := Nat.mod_lt i hz
    simp [hi, hlt, getElem!_pos, Array.getElem?_eq_getElem hlt]
  · rw [List.getElem?_eq_none (by simpa using hi), List.getElem?_eq_none (by rw [zerosI_length]; simpa using hi)]
theorem zeros_rel {σ : Sg} {z : List Value} (h : LRel σ z z) : ∀ n, LRel σ (zerosI z n) (zerosI z n)
  | 0 => .nil
  | n + 1 => h.append (zeros_rel h n)

end Go.Ideal

end
section
/- Each operation of the ideal interpreter answers as the model's, whatever the world: the operations, one by one. Over any program. -/
set_option linter.unusedVariables false
set_option linter.unusedSimpArgs false
namespace Go.Ideal
open Go.RowKit

variable {P : Program} {B : Nat} {w0 : Org}

def OpRes (P : Program) (B : Nat) (w0 : Org) (σ : Sg) (e : Sem Next) (w : World) (v : Value) (h' : Heap) : Prop :=
  ∃ σ' w' nx v', σ.le σ' ∧ e.run P w = .ok nx w' ∧ (nx = .value v' ∨ (nx = .skip ∧ v' = Go.undef)) ∧ VRel σ' v v' ∧ HRel P B w0 σ' h' w'

theorem OpRes.same {σ : Sg} {e : Sem Next} {w : World} {v v' : Value} {h : Heap} (H : HRel P B w0 σ h w) (hr : e.run P w = .ok (.value v') w) (hv : VRel σ v v') : OpRes P B w0 σ e w v h :=
  ⟨σ, w, _, v', Sg.le_refl σ, hr, .inl rfl, hv, H⟩

theorem ev_sound {w : World} {σ : Sg} {h : Heap} (H : HRel P B w0 σ h w) {ts : List Value} {a : Act} (hts : LRel σ ts a.tmps.toList) {x : Operand} (hx : operandOK P x = true) : VRel σ (evI ts x) (a.eval x) := by
  cases x with
  | tmp t => have := hts.getD t; simpa [evI, Act.eval] using this
  | const v => exact flat_rel hx σ
  | global g =>
    simp only [operandOK, Nat.blt_eq] at hx
    have := VRel.ptr (off := 0) (H.glob g hx)
    simpa [evI, Act.eval] using this
  | func f => exact VRel.func_of .nil .nil

theorem flat_ev {w : World} {σ : Sg} {h : Heap} (H : HRel P B w0 σ h w) {ts : List Value} {a : Act} (hts : LRel σ ts a.tmps.toList) {x : Operand} (hx : operandOK P x = true) (hf : flatOp ts x = true) : a.eval x = evI ts x := by
  have := ev_sound H hts hx
  cases x with
  | global g => simp [flatOp] at hf
  | tmp t => exact flat_eq hf this
  | const v => rfl
  | func f => rfl

theorem op_map {o : Oper} {ρ : Operand → Value} {s : Sem Value} {v : Value} {w w' : World} (ho : execOp ρ o = (do pure (.value (← s)))) (hs : s.run P w = .ok v w') : (execOp ρ o).run P w = .ok (.value v) w' := by
  rw [ho]; simp [hs]
theorem op_unit {o : Oper} {ρ : Operand → Value} {s : Sem Unit} {w w' : World} (ho : execOp ρ o = (do s; pure .skip)) (hs : s.run P w = .ok () w') : (execOp ρ o).run P w = .ok .skip w' := by
  rw [ho]; simp [hs]

theorem OpRes.push_fix {σ : Sg} {e : Sem Next} {w : World} {h : Heap} {cs cs' : List Value} {t : TypeId} (H : HRel P B w0 σ h w) (hc : LRel σ cs cs') {v : Value} {v' : Value}
    (hr : e.run P w = .ok (.value v') (w.alloc (.cells cs'.toArray t)))
    (hv : VRel (σ.put h.next ⟨w.heap.size, 0, .exact⟩) v v') : OpRes P B w0 σ e w v (h.push (.cells cs t .fix)) := by
  obtain ⟨k1, k2⟩ := H.push_fix (t := t) hc
  exact ⟨_, _, _, _, k2, hr, .inl rfl, hv, k1⟩

theorem ptr_new {σ : Sg} {h : Heap} {n : Nat} {k : SK} : VRel (σ.put h.next ⟨n, 0, k⟩) (.pointer (some ⟨h.next, 0, none⟩)) (.pointer (some ⟨n, 0, none⟩)) := by
  have := VRel.ptr (off := 0) (Sg.put_self σ h.next ⟨n, 0, k⟩)
  simpa using this
theorem slice_new {σ : Sg} {h : Heap} {n : Nat} {l c : Nat} : VRel (σ.put h.next ⟨n, 0, .exact⟩) (.slice (some ⟨h.next, 0, none⟩) l c) (.slice (some ⟨n, 0, none⟩) l c) := by
  have := VRel.sfix (off := 0) (n := l) (c := c) (Sg.put_self σ h.next ⟨n, 0, .exact⟩)
  simpa using this

section
variable {w : World} {σ : Sg} {h h' : Heap} {ts : List Value} {a : Act} {v : Value} {dst : Option Tmp} {ty : TypeId} {pos : String} {after : Array Edge} {guard : Option (Nat × Bool)}

theorem pick_sound (H : HRel P B w0 σ h w) (hts : LRel σ ts a.tmps.toList) {c x y : Operand} (hc : operandOK P c = true) (hx : operandOK P x = true) (hy : operandOK P y = true)
    (he : opB P ⟨dst, .pick c x y, ty, pos, after, guard⟩ ts h = some (v, h')) : OpRes P B w0 σ (execOp a.eval ⟨dst, .pick c x y, ty, pos, after, guard⟩) w v h' := by
  have k := ev_sound H hts hc
  simp only [opB] at he
  split at he
  · rename_i e; rw [e] at k; generalize hq : a.eval c = q at k; cases k
    simp only [Option.some.injEq, Prod.mk.injEq] at he; obtain ⟨rfl, rfl⟩ := he
    exact .same H (by simp [execOp, hq, asBool]) (ev_sound H hts hx)
  · rename_i e; rw [e] at k; generalize hq : a.eval c = q at k; cases k
    simp only [Option.some.injEq, Prod.mk.injEq] at he; obtain ⟨rfl, rfl⟩ := he
    exact .same H (by simp [execOp, hq, asBool]) (ev_sound H hts hy)
  · cases he

theorem alloc_sound (H : HRel P B w0 σ h w) {t : TypeId}
    (he : opB P ⟨dst, .alloc t, ty, pos, after, guard⟩ ts h = some (v, h')) : OpRes P B w0 σ (execOp a.eval ⟨dst, .alloc t, ty, pos, after, guard⟩) w v h' := by
  simp only [opB] at he
  split at he
  · rename_i z hz
    simp only [newI, Option.some.injEq, Prod.mk.injEq] at he; obtain ⟨rfl, rfl⟩ := he
    obtain ⟨zv, k1, k2, k3⟩ := zero_run hz w
    refine .push_fix H (zero_rel hz σ) (t := t) (v' := .pointer (some ⟨w.heap.size, 0, none⟩)) ?_ ptr_new
    refine op_map rfl ?_
    subst k2
    simp [Instr.alloc, k1, newVar, newRow, newObj, Sem.run]
  · cases he

theorem box_sound (H : HRel P B w0 σ h w) (hts : LRel σ ts a.tmps.toList) {t : TypeId} {x : Operand} (hx : operandOK P x = true)
    (he : opB P ⟨dst, .box t x, ty, pos, after, guard⟩ ts h = some (v, h')) : OpRes P B w0 σ (execOp a.eval ⟨dst, .box t x, ty, pos, after, guard⟩) w v h' := by
  simp only [opB, newI, Option.some.injEq, Prod.mk.injEq] at he; obtain ⟨rfl, rfl⟩ := he
  refine .push_fix H (ev_sound H hts hx).cells (t := t) (v' := .pointer (some ⟨w.heap.size, 0, none⟩)) ?_ ptr_new
  refine op_map rfl ?_
  simp [Instr.box, newVar, newRow, newObj, Sem.run]

theorem load_op_sound (H : HRel P B w0 σ h w) (hts : LRel σ ts a.tmps.toList) {t : TypeId} {x : Operand} (hx : operandOK P x = true)
    (he : opB P ⟨dst, .load t x, ty, pos, after, guard⟩ ts h = some (v, h')) : OpRes P B w0 σ (execOp a.eval ⟨dst, .load t x, ty, pos, after, guard⟩) w v h' := by
  have k := ev_sound H hts hx
  simp only [opB] at he
  split at he
  · rename_i ad e
    rw [e] at k
    obtain ⟨ad', e', hA⟩ := k.ptr_inv
    cases hl : loadI P h t ad with
    | none => simp [hl] at he
    | some u =>
      simp only [hl, Option.map_some, Option.some.injEq, Prod.mk.injEq] at he; obtain ⟨rfl, rfl⟩ := he
      obtain ⟨v', k1, k2⟩ := load_sound H hl hA
      exact .same H (op_map rfl (by simp [Instr.loadAt, Instr.sureAddr, e', k1])) k2
  · cases he

theorem store_op_sound (H : HRel P B w0 σ h w) (hts : LRel σ ts a.tmps.toList) {t : TypeId} {x y : Operand} (hx : operandOK P x = true) (hy : operandOK P y = true)
    (he : opB P ⟨dst, .store t x y, ty, pos, after, guard⟩ ts h = some (v, h')) : OpRes P B w0 σ (execOp a.eval ⟨dst, .store t x y, ty, pos, after, guard⟩) w v h' := by
  have k := ev_sound H hts hx
  simp only [opB] at he
  split at he
  · rename_i ad e
    rw [e] at k
    obtain ⟨ad', e', hA⟩ := k.ptr_inv
    cases hl : storeI P h t ad (evI ts y) with
    | none => simp [hl] at he
    | some u =>
      simp only [hl, Option.map_some, Option.some.injEq, Prod.mk.injEq] at he; obtain ⟨rfl, rfl⟩ := he
      obtain ⟨w', k1, k2⟩ := store_sound H hl hA (ev_sound H hts hy)
      refine ⟨σ, w', _, _, Sg.le_refl σ, op_unit rfl (?_ : (Instr.storeAt t (a.eval x) (a.eval y)).run P w = .ok () w'), .inr ⟨rfl, rfl⟩, VRel.undef σ, k2⟩
      simp [Instr.storeAt, Instr.sureAddr, e', k1]
  · cases he

theorem nilCheck_sound (H : HRel P B w0 σ h w) (hts : LRel σ ts a.tmps.toList) {x : Operand} (hx : operandOK P x = true)
    (he : opB P ⟨dst, .nilCheck x, ty, pos, after, guard⟩ ts h = some (v, h')) : OpRes P B w0 σ (execOp a.eval ⟨dst, .nilCheck x, ty, pos, after, guard⟩) w v h' := by
  have k := ev_sound H hts hx
  simp only [opB] at he
  split at he
  · rename_i ad e
    rw [e] at k
    obtain ⟨ad', e', hA⟩ := k.ptr_inv
    simp only [Option.some.injEq, Prod.mk.injEq] at he; obtain ⟨rfl, rfl⟩ := he
    exact .same (v' := .pointer (some ad')) H (by simp [execOp, e']) (by rw [← e']; exact k)
  · rename_i t u e
    rw [e] at k
    split at he
    · cases he
    · rename_i ht
      simp only [Option.some.injEq, Prod.mk.injEq] at he; obtain ⟨rfl, rfl⟩ := he
      generalize hq : a.eval x = q at k
      cases k with
      | iface _ _ k => exact .same H (by simp [execOp, hq]) (.iface t ht k)
      | frz _ h0 _ => rw [ht] at h0; cases h0
      | osnil => simp [isV] at ht
      | osome => simp [isV] at ht
      | rsl => simp [isV] at ht
      | rnil => simp [isV] at ht
      | rpt => simp [isV] at ht
      | rch => simp [isV] at ht
  · rename_i f p q e
    rw [e] at k
    simp only [Option.some.injEq, Prod.mk.injEq] at he; obtain ⟨rfl, rfl⟩ := he
    generalize hq : a.eval x = r at k
    cases k with
    | func _ ha hc h1 h2 => exact .same H (by simp [execOp, hq]) (.func _ ha hc h1 h2)
  · cases he

theorem field_sound (H : HRel P B w0 σ h w) (hts : LRel σ ts a.tmps.toList) {s : TypeId} {x : Operand} {f : Nat} (hx : operandOK P x = true)
    (he : opB P ⟨dst, .field s x f, ty, pos, after, guard⟩ ts h = some (v, h')) : OpRes P B w0 σ (execOp a.eval ⟨dst, .field s x f, ty, pos, after, guard⟩) w v h' := by
  have k := ev_sound H hts hx
  simp only [opB, fieldOf] at he
  split at he
  · rename_i fl cs hf e
    rw [e] at k
    generalize hq : a.eval x = q at k
    cases k with
    | agg ha hh =>
      rename_i cs'
      split at hf
      · rename_i fields hu
        cases hp : partI P fl.type cs.toList fl.offset with
        | none => simp [hp] at he
        | some u =>
          simp only [hp, Option.map_some, Option.some.injEq, Prod.mk.injEq] at he; obtain ⟨rfl, rfl⟩ := he
          obtain ⟨v', k1, k2⟩ := part_sound (w := w) hp (VRel.agg_list (.agg ha hh))
          exact .same H (op_map rfl (by simp [Instr.field, run_underlying hu, hf, hq, asAgg, k1])) k2
      · cases hf
  · cases he

theorem fieldAddr_sound (H : HRel P B w0 σ h w) (hts : LRel σ ts a.tmps.toList) {s : TypeId} {x : Operand} {f : Nat} (hx : operandOK P x = true)
    (he : opB P ⟨dst, .fieldAddr s x f, ty, pos, after, guard⟩ ts h = some (v, h')) : OpRes P B w0 σ (execOp a.eval ⟨dst, .fieldAddr s x f, ty, pos, after, guard⟩) w v h' := by
  have k := ev_sound H hts hx
  simp only [opB, fieldOf] at he
  split at he
  · rename_i fl ad hf e
    rw [e] at k
    obtain ⟨ad', e', hA⟩ := k.ptr_inv
    split at hf
    · rename_i fields hu
      cases hs : sizeI P fl.type with
      | none => simp [hs] at he
      | some n =>
        cases n with
        | zero => simp [hs] at he
        | succ n =>
          simp only [hs, Option.some.injEq, Prod.mk.injEq] at he; obtain ⟨rfl, rfl⟩ := he
          exact .same H (op_map rfl (by simp [Instr.fieldAt, run_underlying hu, hf, e', Instr.sureAddr, fieldPlace, sizeOf_run hs])) (VRel.ptr_of (hA.add _))
    · cases hf
  · cases he

theorem asInt_rel {x v' : Value} {i : Int} (hi : intI x = some i) (hv : VRel σ x v') : ∃ k, v' = .int k i := by
  cases hv <;> simp [intI, osl, rsl, rpt, rch] at hi
  subst hi; exact ⟨_, rfl⟩

theorem slice_inv {ad : Addr} {n c : Nat} {v' : Value} (hv : VRel σ (.slice (some ad) n c) v') : ∃ ad' c', v' = .slice (some ad') n c' ∧ (0 < n → ARel σ ad ad') := by
  cases hv with
  | sfix hh => exact ⟨_, _, rfl, fun _ => ⟨_, _, _, hh, rfl, rfl⟩⟩
  | sgrown hh _ _ => exact ⟨_, _, rfl, fun _ => ⟨_, _, _, hh, rfl, rfl⟩⟩
  | sloose hh _ => exact ⟨_, _, rfl, fun hn => absurd hn (Nat.lt_irrefl _)⟩

theorem indexAddr_sound (H : HRel P B w0 σ h w) (hts : LRel σ ts a.tmps.toList) {t : TypeId} {x y : Operand} (hx : operandOK P x = true) (hy : operandOK P y = true)
    (he : opB P ⟨dst, .indexAddr t x y, ty, pos, after, guard⟩ ts h = some (v, h')) : OpRes P B w0 σ (execOp a.eval ⟨dst, .indexAddr t x y, ty, pos, after, guard⟩) w v h' := by
  have k := ev_sound H hts hx
  have ky := ev_sound H hts hy
  simp only [opB] at he
  split at he
  · rename_i i len elem ad hi hu e
    rw [e] at k
    obtain ⟨ad', e', hA⟩ := k.ptr_inv
    obtain ⟨kk, ei⟩ := asInt_rel hi ky
    split at he
    · rename_i size hs
      simp only [Option.ite_none_right_eq_some, Option.some.injEq, Prod.mk.injEq] at he; obtain ⟨hb, rfl, rfl⟩ := he
      exact .same H (op_map rfl (by simp [Instr.indexAt, asIntOf, ei, run_underlying hu, e', Instr.sureAddr, hb, sizeOf_run hs])) (VRel.ptr_of (hA.add _))
    · cases he
  · rename_i i elem ad len cap hi hu e
    rw [e] at k
    obtain ⟨ad', c', e', hA⟩ := slice_inv k
    obtain ⟨kk, ei⟩ := asInt_rel hi ky
    split at he
    · rename_i size hs
      simp only [Option.ite_none_right_eq_some, Option.some.injEq, Prod.mk.injEq] at he; obtain ⟨hb, rfl, rfl⟩ := he
      exact .same H (op_map rfl (by simp [Instr.indexAt, asIntOf, ei, run_underlying hu, e', hb, sizeOf_run hs])) (VRel.ptr_of ((hA (by omega)).add _))
    · cases he
  · cases he

theorem index_sound (H : HRel P B w0 σ h w) (hts : LRel σ ts a.tmps.toList) {t : TypeId} {x y : Operand} (hx : operandOK P x = true) (hy : operandOK P y = true)
    (he : opB P ⟨dst, .index t x y, ty, pos, after, guard⟩ ts h = some (v, h')) : OpRes P B w0 σ (execOp a.eval ⟨dst, .index t x y, ty, pos, after, guard⟩) w v h' := by
  have k := ev_sound H hts hx
  have ky := ev_sound H hts hy
  simp only [opB] at he
  split at he
  · rename_i i len elem cs hi hu e
    rw [e] at k
    obtain ⟨kk, ei⟩ := asInt_rel hi ky
    generalize hq : a.eval x = q at k
    cases k with
    | agg ha hh =>
      split at he
      · rename_i size hs
        simp only [Option.ite_none_right_eq_some] at he
        obtain ⟨hb, he⟩ := he
        cases hp : partI P elem cs.toList (i.toNat * size) with
        | none => simp [hp] at he
        | some u =>
          simp only [hp, Option.map_some, Option.some.injEq, Prod.mk.injEq] at he; obtain ⟨rfl, rfl⟩ := he
          obtain ⟨v', k1, k2⟩ := part_sound (w := w) hp (VRel.agg_list (.agg ha hh))
          exact .same H (op_map rfl (by simp [Instr.index, asIntOf, ei, run_underlying hu, hq, hb, sizeOf_run hs, k1])) k2
      · cases he
  · rename_i i s hi hu e
    rw [e] at k
    obtain ⟨kk, ei⟩ := asInt_rel hi ky
    generalize hq : a.eval x = q at k
    cases k
    split at he
    · rename_i h0
      split at he
      · rename_i b hb
        simp only [Option.some.injEq, Prod.mk.injEq] at he; obtain ⟨rfl, rfl⟩ := he
        refine .same H (op_map rfl ?_) (.int _ _)
        have hb' : s[i.toNat]? = some b := by rw [← hb]; rw [Array.getElem?_toList]; rfl
        simp [Instr.index, asIntOf, ei, run_underlying hu, hq, h0, hb']
      · cases he
    · cases he
  · cases he

theorem extract_sound (H : HRel P B w0 σ h w) (hts : LRel σ ts a.tmps.toList) {x : Operand} {i : Nat} (hx : operandOK P x = true)
    (he : opB P ⟨dst, .extract x i, ty, pos, after, guard⟩ ts h = some (v, h')) : OpRes P B w0 σ (execOp a.eval ⟨dst, .extract x i, ty, pos, after, guard⟩) w v h' := by
  have k := ev_sound H hts hx
  simp only [opB] at he
  split at he
  · rename_i vs e
    rw [e] at k
    generalize hq : a.eval x = q at k
    cases k with
    | tuple ha hh =>
      cases hp : vs.toList[i]? with
      | none => simp [hp] at he
      | some u =>
        simp only [hp, Option.map_some, Option.some.injEq, Prod.mk.injEq] at he; obtain ⟨rfl, rfl⟩ := he
        obtain ⟨v', k1, k2⟩ := (VRel.tuple_list (.tuple ha hh)).get? _ _ hp
        rw [Array.getElem?_toList] at k1
        exact .same H (op_map rfl (by simp [Instr.extract, hq, k1])) k2
  · cases he

theorem makeInterface_sound (H : HRel P B w0 σ h w) (hts : LRel σ ts a.tmps.toList) {t : TypeId} {x : Operand} (hx : operandOK P x = true)
    (he : opB P ⟨dst, .makeInterface t x, ty, pos, after, guard⟩ ts h = some (v, h')) : OpRes P B w0 σ (execOp a.eval ⟨dst, .makeInterface t x, ty, pos, after, guard⟩) w v h' := by
  have k := ev_sound H hts hx
  simp only [opB] at he
  cases hu : P.underlying t with
  | none => simp [hu] at he
  | some d =>
    simp only [hu] at he
    cases d <;> first
      | (simp at he; done)
      | (cases ht : isV t with
         | true => simp [ht] at he
         | false =>
           simp only [ht, Option.some.injEq, Prod.mk.injEq] at he; obtain ⟨rfl, rfl⟩ := he
           exact .same H (op_map rfl (by simp [Instr.makeInterface, run_underlying hu])) (.iface t ht k))

theorem makeFunc_sound (H : HRel P B w0 σ h w) (hts : LRel σ ts a.tmps.toList) {fn : Fn} {x y : Array Operand} (hx : x.toList.all (operandOK P) = true) (hy : y.toList.all (operandOK P) = true)
    (he : opB P ⟨dst, .makeFunc fn x y, ty, pos, after, guard⟩ ts h = some (v, h')) : OpRes P B w0 σ (execOp a.eval ⟨dst, .makeFunc fn x y, ty, pos, after, guard⟩) w v h' := by
  simp only [opB, Option.some.injEq, Prod.mk.injEq] at he; obtain ⟨rfl, rfl⟩ := he
  refine .same (v' := .func fn (x.map a.eval) (y.map a.eval)) H (op_map rfl (by simp [Instr.makeFunc])) (VRel.func_of ?_ ?_)
  · simp only [Array.toList_map, List.toList_toArray]
    exact LRel.map fun z hz => ev_sound H hts (List.all_eq_true.1 hx z hz)
  · simp only [Array.toList_map, List.toList_toArray]
    exact LRel.map fun z hz => ev_sound H hts (List.all_eq_true.1 hy z hz)

theorem typeAssert_sound (H : HRel P B w0 σ h w) (hts : LRel σ ts a.tmps.toList) {x : Operand} {xt at_ : TypeId} {ok : Bool} (hx : operandOK P x = true)
    (he : opB P ⟨dst, .typeAssert x xt at_ ok, ty, pos, after, guard⟩ ts h = some (v, h')) : OpRes P B w0 σ (execOp a.eval ⟨dst, .typeAssert x xt at_ ok, ty, pos, after, guard⟩) w v h' := by
  have k := ev_sound H hts hx
  simp only [opB] at he
  split at he
  · cases he
  · cases he
  · rename_i t u e hn1 hn2
    cases hu : P.underlying at_ with
    | none => exact absurd hu hn2
    | some d =>
      simp only [Option.ite_none_right_eq_some, Option.some.injEq, Prod.mk.injEq] at he; obtain ⟨⟨ht, rfl⟩, rfl, rfl⟩ := he
      rw [e] at k
      generalize hq : a.eval x = q at k
      cases k with
      | frz _ h0 _ => rw [ht] at h0; cases h0
      | osnil => simp [isV] at ht
      | osome => simp [isV] at ht
      | rsl => simp [isV] at ht
      | rnil => simp [isV] at ht
      | rpt => simp [isV] at ht
      | rch => simp [isV] at ht
      | iface _ hti k =>
        rename_i u'
        have hni : ∀ ms, d ≠ .interface ms := fun ms hd => by subst hd; exact hn1 _ hu
        refine .same H (op_map (v := if ok then .tuple #[u', .bool true] else u') rfl ?_) ?_
        · simp only [Instr.typeAssert, Sem.run_bind, run_underlying hu, Result.andThen_ok, hq]
          cases d <;> first | exact absurd rfl (hni _) | (cases ok <;> simp)
        · cases ok
          · simpa using k
          · exact VRel.tuple_of (.cons k (.cons (.bool _) .nil))
  · cases he

end
end Go.Ideal

end
section
/- Each operation of the ideal interpreter answers as the model's: what makes slices, aggregates and strings; built-in functions. Over any program. -/
set_option linter.unusedVariables false
set_option linter.unusedSimpArgs false
namespace Go.Ideal
open Go.RowKit

variable {P : Program} {B : Nat} {w0 : Org}

theorem HRel.drew {w : World} {σ : Sg} {h : Heap} (H : HRel P B w0 σ h w) : HRel P B w0 σ h { w with drawn := w.drawn + 1 } :=
  ⟨⟨H.below.os, H.below.tape, H.below.output, H.below.size, H.below.block⟩, H.size, H.dom, H.codom, H.glob, fun i b hb => (H.blk i b hb).same fun _ _ _ => rfl, H.inj, ⟨H.frz.c, H.frz.m⟩, H.old, H.tdom⟩

theorem HRel.fresh {w : World} {σ : Sg} {h : Heap} (H : HRel P B w0 σ h w) : σ h.next = none := by
  cases e : σ h.next with
  | none => rfl
  | some x => exact absurd (H.dom _ _ e) (Nat.lt_irrefl _)

/-- A new block that may have more room than is known. -/
theorem HRel.push_grow {w : World} {σ : Sg} {h : Heap} (H : HRel P B w0 σ h w) {cs cs' rest : List Value} {t t' : TypeId} {es : Nat} (hes : sizeI P t = some es) (hc : LRel σ cs cs') {fz : Nat × Nat}
    (hf : okFrozen (cs' ++ rest).length fz) :
    HRel P B w0 (σ.put h.next ⟨w.heap.size, 0, .grown es (cs' ++ rest).length⟩) (h.push (.cells cs t .grow)) (w.alloc (.cells (cs' ++ rest).toArray t' fz)) ∧ σ.le (σ.put h.next ⟨w.heap.size, 0, .grown es (cs' ++ rest).length⟩) := by
  refine H.push ?_
  have hle : σ.le (σ.put h.next ⟨w.heap.size, 0, .grown es (cs' ++ rest).length⟩) := Sg.le_put H.fresh
  have hl := hc.len
  refine ⟨w.heap.size, es, (cs' ++ rest).toArray, t', fz, by simp [Sg.put_self], hes, H.size, by show (w.heap.push _)[w.heap.size]? = _; simp, by simpa using hf, by simp; omega, ?_⟩
  simp only [hl, List.take_left']
  exact ⟨hc.mono hle, H.frz.off (Nat.le_refl _)⟩

section
variable {w : World} {σ : Sg} {h h' : Heap} {ts : List Value} {a : Act} {v : Value} {dst : Option Tmp} {ty : TypeId} {pos : String} {after : Array Edge} {guard : Option (Nat × Bool)}

theorem parts_rel (H : HRel P B w0 σ h w) (hts : LRel σ ts a.tmps.toList) : ∀ {l : List (Nat × Operand)}, (l.map (·.2)).all (operandOK P) = true →
    (l.map fun p => (p.1, evI ts p.2)).length = (l.map fun p => (p.1, a.eval p.2)).length ∧
    ∀ (j : Nat) (x x' : Nat × Value), (l.map fun p => (p.1, evI ts p.2))[j]? = some x → (l.map fun p => (p.1, a.eval p.2))[j]? = some x' → x.1 = x'.1 ∧ VRel σ x.2 x'.2 := fun {l} hl => by
  refine ⟨by simp, fun j x x' hx hx' => ?_⟩
  rw [List.getElem?_map] at hx hx'
  cases hj : l[j]? with
  | none => simp [hj] at hx
  | some p =>
    simp only [hj, Option.map_some, Option.some.injEq] at hx hx'
    subst hx; subst hx'
    refine ⟨rfl, ev_sound H hts ?_⟩
    exact List.all_eq_true.1 hl p.2 (List.mem_map.2 ⟨p, List.mem_of_getElem? hj, rfl⟩)

theorem parts_toList (ps : Array (Nat × Operand)) (ρ : Operand → Value) : (ps.map fun (i, x) => (i, ρ x)).toList = ps.toList.map fun p => (p.1, ρ p.2) := by
  rw [Array.toList_map]

theorem build_sound (H : HRel P B w0 σ h w) (hts : LRel σ ts a.tmps.toList) {t : TypeId} {ps : Array (Nat × Operand)} (hps : (ps.toList.map (·.2)).all (operandOK P) = true)
    (he : opB P ⟨dst, .build t ps, ty, pos, after, guard⟩ ts h = some (v, h')) : OpRes P B w0 σ (execOp a.eval ⟨dst, .build t ps, ty, pos, after, guard⟩) w v h' := by
  obtain ⟨pl, pr⟩ := parts_rel H hts hps
  simp only [opB] at he
  split at he
  · rename_i z fields hz hu
    obtain ⟨i, zv, hi, hiz, rfl, hf⟩ := zero_info hz
    split at he
    · rename_i places hpl
      cases hfi : fillI (places[·]?) zv.cells.toList (ps.toList.map fun p => (p.1, evI ts p.2)) with
      | none => simp [hfi] at he
      | some cs =>
        simp only [hfi, Option.map_some, Option.some.injEq, Prod.mk.injEq] at he; obtain ⟨rfl, rfl⟩ := he
        obtain ⟨out, k1, k2⟩ := fill_sound hfi (zero_rel hz σ) pl pr
        refine .same (v' := .agg out) H (op_map rfl (run_build w t _ out ?_)) (VRel.agg_of (by simpa using k2))
        unfold Program.built
        rw [parts_toList]
        simp only [hi, hu, hiz, sizes_mapM hpl]
        simpa using k1
    · cases he
  · rename_i z n elem hz hu
    obtain ⟨i, zv, hi, hiz, rfl, hf⟩ := zero_info hz
    split at he
    · rename_i size hs
      obtain ⟨ie, hie, rfl⟩ := size_info hs
      cases hfi : fillI (fun i => some (i * ie.size, ie.size)) zv.cells.toList (ps.toList.map fun p => (p.1, evI ts p.2)) with
      | none => simp [hfi] at he
      | some cs =>
        simp only [hfi, Option.map_some, Option.some.injEq, Prod.mk.injEq] at he; obtain ⟨rfl, rfl⟩ := he
        obtain ⟨out, k1, k2⟩ := fill_sound hfi (zero_rel hz σ) pl pr
        refine .same (v' := .agg out) H (op_map rfl (run_build w t _ out ?_)) (VRel.agg_of (by simpa using k2))
        unfold Program.built
        rw [parts_toList]
        simp only [hi, hu, hiz, hie]
        exact k1
    · cases he
  · cases he

theorem buildSlice_sound (H : HRel P B w0 σ h w) (hts : LRel σ ts a.tmps.toList) {t : TypeId} {len : Nat} {ps : Array (Nat × Operand)} (hps : (ps.toList.map (·.2)).all (operandOK P) = true)
    (he : opB P ⟨dst, .buildSlice t len ps, ty, pos, after, guard⟩ ts h = some (v, h')) : OpRes P B w0 σ (execOp a.eval ⟨dst, .buildSlice t len ps, ty, pos, after, guard⟩) w v h' := by
  obtain ⟨pl, pr⟩ := parts_rel H hts hps
  simp only [opB] at he
  split at he
  · rename_i elem hu
    split at he
    · rename_i size z hs hz
      simp only [Option.ite_none_right_eq_some, Bool.and_eq_true, Nat.beq_eq, Nat.ble_eq] at he
      obtain ⟨⟨⟨hzl, hsm⟩, _⟩, he⟩ := he
      obtain ⟨i, zv, hi, hiz, rfl, hf⟩ := zero_info hz
      cases hfi : fillI (fun i => some (i * size, size)) (zerosI zv.cells.toList len) (ps.toList.map fun p => (p.1, evI ts p.2)) with
      | none => simp [hfi] at he
      | some cs =>
        simp only [hfi, Option.map_some, Option.some.injEq, Prod.mk.injEq] at he; obtain ⟨rfl, rfl⟩ := he
        have hzz : ((Array.range (len * size)).map (fun i => zv.cells[i % zv.cells.size]!)).toList = zerosI zv.cells.toList len := zeros_eq zv.cells len (len * size) (by rw [← hzl]; simp)
        obtain ⟨out, k1, k2⟩ := fill_sound (cells := (Array.range (len * size)).map (fun i => zv.cells[i % zv.cells.size]!)) hfi (by rw [hzz]; exact zeros_rel (zero_rel hz σ) len) pl pr
        refine .push_fix H k2 (t := elem) (v' := .slice (some ⟨w.heap.size, 0, none⟩) len len) (op_map rfl ?_) slice_new
        rw [← parts_toList] at k1
        have hn : ¬ (len * size > 2 ^ 24) := by omega
        simp only [Instr.buildSlice, Sem.run_bind, run_underlying hu, Result.andThen_ok, sizeOf_run hs, hn, if_false]
        by_cases h0 : len * size = 0
        · have hc : ∀ f : Nat → Value, (Array.range (len * size)).map f = #[] := fun f => by simp [h0]
          rw [hc] at k1
          have k1' : Instr.fill (fun i => some (i * size, size)) #[] (ps.map fun x => (x.fst, a.eval x.snd)).toList = some out := k1
          have hc2 : ∀ f : Nat → Value, (Array.range 0).map f = #[] := fun f => by simp
          simp only [h0, if_true, Sem.run_bind, Sem.run_pure, Result.andThen_ok, hc2, k1']
          simp [newRow, newObj, Sem.run]
        · have hzr : (zeroValue elem).run P w = .ok zv w := by simp [zeroValue, typeInfo, hi, hiz]
          simp only [h0, if_false, Sem.run_bind, hzr, Result.andThen_ok, Sem.run_pure, k1]
          simp [newRow, newObj, Sem.run]
    · cases he
  · cases he

theorem makeSlice_sound (H : HRel P B w0 σ h w) (hts : LRel σ ts a.tmps.toList) {t : TypeId} {x y : Operand} (hx : operandOK P x = true) (hy : operandOK P y = true)
    (he : opB P ⟨dst, .makeSlice t x y, ty, pos, after, guard⟩ ts h = some (v, h')) : OpRes P B w0 σ (execOp a.eval ⟨dst, .makeSlice t x y, ty, pos, after, guard⟩) w v h' := by
  have kx := ev_sound H hts hx
  have ky := ev_sound H hts hy
  simp only [opB] at he
  split at he
  · rename_i elem hu
    split at he
    · rename_i ti z k1 ln k2 cn hti hz ex ey
      simp only [Option.ite_none_right_eq_some, Bool.and_eq_true, Nat.beq_eq, Nat.ble_eq, decide_eq_true_eq, Option.some.injEq, Prod.mk.injEq] at he
      obtain ⟨⟨⟨⟨hzl, h0⟩, h1⟩, h2⟩, rfl, rfl⟩ := he
      obtain ⟨i, zv, hi, hiz, rfl, hf⟩ := zero_info hz
      rw [hti] at hi; simp only [Option.some.injEq] at hi; subst hi
      rw [ex] at kx; rw [ey] at ky
      generalize hqx : a.eval x = qx at kx
      generalize hqy : a.eval y = qy at ky
      cases kx; cases ky
      have hcn : 0 ≤ cn := by omega
      obtain ⟨c, rfl⟩ := Int.eq_ofNat_of_zero_le hcn
      obtain ⟨l, rfl⟩ := Int.eq_ofNat_of_zero_le h0
      simp only [Int.toNat_natCast] at h2 ⊢
      have hm : c * ti.bytes ≤ 1099511627776 := Nat.le_trans (Nat.mul_le_mul_left c (by omega)) h2
      have hm' : ti.bytes * c ≤ 1099511627776 := by rw [Nat.mul_comm]; exact hm
      have hc' : c ≤ 1099511627776 := Nat.le_trans (Nat.le_mul_of_pos_right c (by omega)) h2
      have hlc : l ≤ c := by omega
      have hzz : ((Array.range (c * ti.size)).map (fun i => zv.cells[i % zv.cells.size]!)).toList = zerosI zv.cells.toList c := zeros_eq zv.cells c (c * ti.size) (by rw [← hzl]; simp)
      have hbytes : (ti.bytes : Int) * (c : Int) ≤ 281474976710656 := by
        have h : ((ti.bytes * c : Nat) : Int) ≤ 281474976710656 := by omega
        rwa [Int.natCast_mul] at h
      refine .push_fix H (zeros_rel (zero_rel hz σ) c) (t := elem) (v' := .slice (some ⟨w.heap.size, 0, none⟩) l c) (op_map rfl ?_) slice_new
      have hwl : IntKind.i64.wrap (l : Int) = (l : Int) := by rw [IntKind.wrap_i64]; omega
      have hwc : IntKind.i64.wrap (c : Int) = (c : Int) := by rw [IntKind.wrap_i64]; omega
      have hno : ((decide ((c : Int) < 0) || decide ((ti.bytes : Int) * (c : Int) > 2 ^ 48)) || decide ((l : Int) < 0) || decide ((l : Int) > (c : Int))) = false := by
        simp only [Bool.or_eq_false_iff, decide_eq_false_iff_not]
        refine ⟨⟨⟨by omega, by omega⟩, by omega⟩, by omega⟩
      have hroom : ¬ (c * ti.bytes > roomBytes) := by unfold roomBytes; omega
      simp only [Instr.makeSlice, Sem.run_bind, run_underlying hu, Result.andThen_ok, hqx, hqy, asInt, asIntOf, Sem.run_pure, typeInfo, run_program, hti, hwl, hwc]
      simp only [hno, Bool.false_eq_true, if_false, Int.toNat_natCast, askRoom, hroom, sizeOf, typeInfo, Sem.run_bind, run_program, Result.andThen_ok, hti, Sem.run_pure]
      by_cases h0 : c * ti.size = 0
      · have hc : zerosI zv.cells.toList c = [] := by rw [← hzz]; simp [h0]
        simp [h0, hc, newRow, newObj, Sem.run, Array.range_zero']
      · have hzr : (zeroValue elem).run P w = .ok zv w := by simp [zeroValue, typeInfo, hti, hiz]
        simp only [h0, if_false, Sem.run_bind, hzr, Result.andThen_ok, Sem.run_pure]
        rw [← hzz, Array.toArray_toList]
        simp [newRow, newObj, Sem.run]
    · cases he
  · cases he

end
end Go.Ideal

end
section
/- Each operation of the ideal interpreter answers as the model's: slicing, conversions, operators. Over any program. -/
set_option linter.unusedVariables false
set_option linter.unusedSimpArgs false
namespace Go.Ideal
open Go.RowKit

variable {P : Program} {B : Nat} {w0 : Org}

inductive ORel (σ : Sg) : Option Value → Option Value → Prop
  | none : ORel σ none none
  | some {v v' : Value} (h : VRel σ v v') : ORel σ (some v) (some v')

theorem bound_run {σ : Sg} {v v' : Value} {dflt most most' n : Nat} (hb : boundI (some v) dflt most = some n) (hv : VRel σ v v') (hle : most ≤ most') (code : BoundsCode) (w : World) :
    (Instr.sliceBound v' most' code).run P w = .ok n w ∧ n ≤ most := by
  simp only [boundI] at hb
  split at hb
  · rename_i i hi
    simp only [Option.ite_none_right_eq_some, Option.some.injEq] at hb
    obtain ⟨⟨h0, h1⟩, rfl⟩ := hb
    have : ∃ k, v' = .int k i := by cases hv <;> simp [intI, osl, rsl, rpt, rch] at hi; subst hi; exact ⟨_, rfl⟩
    obtain ⟨k, rfl⟩ := this
    have h2 : i ≤ (most' : Int) := by omega
    exact ⟨by simp [Instr.sliceBound, asIntOf, h0, h2], by omega⟩
  · cases hb

theorem bounds_run {σ : Sg} {isS : Bool} {len cap cap' l hh m : Nat} {lo hi mx lo' hi' mx' : Option Value} (hb : boundsI len cap lo hi mx = some (l, hh, m)) (hlo : ORel σ lo lo') (hhi : ORel σ hi hi') (hmx : ORel σ mx mx')
    (hcap : cap ≤ cap') (w : World) : (Instr.sliceBounds isS len cap' lo' hi' mx').run P w = .ok (l, hh, if mx.isNone then cap' else m) w ∧ (mx = none → m = cap) := by
  have hmm : ∀ {x : Option Value} {m : Nat}, boundI mx cap cap = some m → mx = none → m = cap := fun {x m} h e => by subst e; simpa [boundI] using h.symm
  cases hmx with
  | none =>
    have hb' : (match boundI hi len cap with
      | none => none
      | some hh => match boundI lo 0 hh with
        | none => none
        | some l => some (l, hh, cap)) = some (l, hh, m) := by
      simp only [boundsI, boundI] at hb ⊢
      cases hi <;> exact hb
    split at hb'
    · cases hb'
    · rename_i hh2 eh
      split at hb'
      · cases hb'
      · rename_i l2 el
        simp only [Option.some.injEq, Prod.mk.injEq] at hb'; obtain ⟨rfl, rfl, rfl⟩ := hb'
        refine ⟨?_, fun _ => rfl⟩
        cases hhi with
        | none =>
          simp only [boundI, Option.some.injEq] at eh; subst eh
          cases hlo with
          | none => simp only [boundI, Option.some.injEq] at el; subst el; simp [Instr.sliceBounds]
          | some hv => simp [Instr.sliceBounds, (bound_run el hv (Nat.le_refl _) _ w).1]
        | some hu =>
          have e1 := bound_run (P := P) eh hu hcap (if isS then .sliceAcap else .sliceAlen) w
          cases hlo with
          | none => simp only [boundI, Option.some.injEq] at el; subst el; simp [Instr.sliceBounds, e1.1]
          | some hv => simp [Instr.sliceBounds, e1.1, (bound_run el hv (Nat.le_refl _) _ w).1]
  | some hx =>
    cases hhi with
    | none => simp [boundsI] at hb
    | some hu =>
      simp only [boundsI] at hb
      split at hb
      · cases hb
      · rename_i m2 em
        split at hb
        · cases hb
        · rename_i hh2 eh
          split at hb
          · cases hb
          · rename_i l2 el
            simp only [Option.some.injEq, Prod.mk.injEq] at hb; obtain ⟨rfl, rfl, rfl⟩ := hb
            refine ⟨?_, fun e => by cases e⟩
            have e0 := bound_run (P := P) em hx hcap (if isS then .slice3Acap else .slice3Alen) w
            have e1 := bound_run (P := P) eh hu (Nat.le_refl _) .slice3B w
            cases hlo with
            | none => simp only [boundI, Option.some.injEq] at el; subst el; simp [Instr.sliceBounds, e0.1, e1.1]
            | some hv => simp [Instr.sliceBounds, e0.1, e1.1, (bound_run el hv (Nat.le_refl _) _ w).1]

/-- What a readable block's kind is. -/
theorem kind_exact {w : World} {σ : Sg} {h : Heap} (H : HRel P B w0 σ h w) {i : Nat} {cs : List Value} {t : TypeId} {m : Mode} (hg : h.get i = some (.cells cs t m)) (hm : m = .fix ∨ m = .ro) : ∃ b o, σ i = some ⟨b, o, .exact⟩ := by
  have := H.blk _ _ hg
  rcases hm with rfl | rfl
  · obtain ⟨b, cc, t', fz, h1, _⟩ := this; exact ⟨b, 0, h1⟩
  · obtain ⟨b, o, cc, t', fz, h1, _⟩ := this; exact ⟨b, o, h1⟩
theorem kind_grow {w : World} {σ : Sg} {h : Heap} (H : HRel P B w0 σ h w) {i : Nat} {cs : List Value} {t : TypeId} (hg : h.get i = some (.cells cs t .grow)) : ∃ b es sz, σ i = some ⟨b, 0, .grown es sz⟩ ∧ sizeI P t = some es := by
  obtain ⟨b, es, cc, t', fz, h1, h2, _⟩ := H.blk _ _ hg
  exact ⟨b, es, _, h1, h2⟩

theorem slice_exact {σ : Sg} {ad : Addr} {n c b o : Nat} {v' : Value} (hv : VRel σ (.slice (some ad) n c) v') (he : σ ad.block = some ⟨b, o, .exact⟩) : ∃ ad', v' = .slice (some ad') n c ∧ ARel σ ad ad' := by
  cases hv with
  | sfix hh => exact ⟨_, rfl, _, _, _, hh, rfl, rfl⟩
  | sgrown hh _ _ => simp [hh] at he
  | sloose hh _ => simp [hh] at he
theorem slice_of_exact {σ : Sg} {ad ad' : Addr} {n c b o : Nat} (ha : ARel σ ad ad') (he : σ ad.block = some ⟨b, o, .exact⟩) : VRel σ (.slice (some ad) n c) (.slice (some ad') n c) := by
  obtain ⟨b', o', k, h1, h2, rfl⟩ := ha
  rw [he] at h1; simp only [Option.some.injEq, Spot.mk.injEq] at h1; obtain ⟨rfl, rfl, rfl⟩ := h1
  obtain ⟨i, off, spot⟩ := ad
  simp only at h2; subst h2
  exact .sfix he
theorem add_block (ad : Addr) (n : Nat) : (ad.add n).block = ad.block := by unfold Addr.add; split <;> rfl

section
variable {w : World} {σ : Sg} {h h' : Heap} {ts : List Value} {a : Act} {v : Value} {dst : Option Tmp} {ty : TypeId} {pos : String} {after : Array Edge} {guard : Option (Nat × Bool)}

theorem slice_val_sound (H : HRel P B w0 σ h w) {t elem : TypeId} {ad : Option Addr} {len cap size : Nat} {lo hi mx lo' hi' mx' : Option Value} {v v' : Value} (hu : P.underlying t = some (.slice elem)) (hs : sizeI P elem = some size)
    (he : sliceI P h size ad len cap lo hi mx = some v) (hv : VRel σ (.slice ad len cap) v') (hlo : ORel σ lo lo') (hhi : ORel σ hi hi') (hmx : ORel σ mx mx') :
    ∃ u', (Instr.slice t v' lo' hi' mx').run P w = .ok u' w ∧ VRel σ v u' := by
  unfold sliceI at he
  split at he
  · cases he
  · rename_i l hh m hb
    split at he
    · simp only [Option.some.injEq] at he; subst he
      cases hv
      have k := bounds_run (P := P) (isS := true) hb hlo hhi hmx (Nat.le_refl cap) w
      refine ⟨.slice none (hh - l) (m - l), ?_, .snil _ _⟩
      have hm : (if mx.isNone then cap else m) = m := by
        cases mx with
        | none => simp [k.2 rfl]
        | some x => simp
      rw [hm] at k
      simp [Instr.slice, run_underlying hu, k.1, sizeOf_run hs]
    · rename_i ad
      split at he
      · rename_i cs bt m' hg
        have exact_case : (m' = .fix ∨ m' = .ro) → some (Value.slice (some (if m = l then ad else ad.add (l * size))) (hh - l) (m - l)) = some v →
            ∃ u', (Instr.slice t v' lo' hi' mx').run P w = .ok u' w ∧ VRel σ v u' := fun hm he => by
          simp only [Option.some.injEq] at he; subst he
          obtain ⟨b, o, hx⟩ := kind_exact H hg hm
          obtain ⟨ad', rfl, hA⟩ := slice_exact hv hx
          have k := bounds_run (P := P) (isS := true) hb hlo hhi hmx (Nat.le_refl cap) w
          have hm : (if mx.isNone then cap else m) = m := by
            cases mx with
            | none => simp [k.2 rfl]
            | some x => simp
          rw [hm] at k
          refine ⟨.slice (some (if m = l then ad' else ad'.add (l * size))) (hh - l) (m - l), ?_, ?_⟩
          · simp only [Instr.slice, Sem.run_bind, run_underlying hu, Result.andThen_ok, k.1, sizeOf_run hs, Sem.run_pure]
            by_cases e : m = l <;> simp [e]
          · by_cases e : m = l
            · simp only [e, if_true]; exact slice_of_exact hA hx
            · simp only [e, if_false]; exact slice_of_exact (hA.add _) (by rw [add_block]; exact hx)
        cases m' with
        | fix => exact exact_case (.inl rfl) he
        | ro => exact exact_case (.inr rfl) he
        | dead => cases he
        | grow =>
          simp only at he
          split at he
          · rename_i hmn s hsz
            simp only [Option.ite_none_right_eq_some, Bool.and_eq_true, Nat.beq_eq, Nat.ble_eq, Option.some.injEq] at he
            obtain ⟨⟨⟨rfl, hlm⟩, hhm⟩, rfl⟩ := he
            obtain ⟨b, es, sz, hx, hes⟩ := kind_grow H hg
            rw [hsz] at hes; simp only [Option.some.injEq] at hes; subst hes
            cases hmx
            cases hv with
            | sfix k => simp [k] at hx
            | sgrown k hc hz =>
              rename_i i off b2 c' es2 sz2
              rw [k] at hx; simp only [Option.some.injEq, Spot.mk.injEq, SK.grown.injEq, true_and] at hx
              obtain ⟨rfl, rfl, rfl⟩ := hx
              have q := bounds_run (P := P) (isS := true) hb hlo hhi .none hc w
              have hmc := q.2 rfl
              subst hmc
              simp only [Option.isNone_none, if_true] at q
              refine ⟨.slice (some (if c' = l then ⟨b2, 0 + off, none⟩ else (⟨b2, 0 + off, none⟩ : Addr).add (l * (s + 1)))) (hh - l) (c' - l), ?_, ?_⟩
              · simp only [Instr.slice, Sem.run_bind, run_underlying hu, Result.andThen_ok, q.1, sizeOf_run hs, Sem.run_pure]
                by_cases e : c' = l <;> simp [e]
              · rw [Addr.add_none]
                by_cases e : c' = l
                · simp only [e, if_true]
                  have e1 : m = l := by omega
                  have e2 : hh - l = 0 := by omega
                  rw [e1, e2, Nat.sub_self]
                  by_cases e3 : off + l * (s + 1) = 0
                  · have : off = 0 := by omega
                    have e4 : l * (s + 1) = 0 := by omega
                    rw [e4]
                    exact .sgrown k (Nat.le_refl _) (by omega)
                  · exact .sloose k e3
                · simp only [e, if_false]
                  rw [Addr.add_none, Nat.add_assoc]
                  refine .sgrown k (by omega) ?_
                  have : c' * (s + 1) = l * (s + 1) + (c' - l) * (s + 1) := by rw [← Nat.add_mul]; congr 1; omega
                  have hz' : off + c' * (s + 1) ≤ sz2 := hz
                  show off + l * (s + 1) + (c' - l) * (s + 1) ≤ sz2
                  omega
            | sloose k ho =>
              rename_i i off b2 c' es2 sz2 a'
              have q := bounds_run (P := P) (isS := true) (cap' := c') hb hlo hhi .none (Nat.zero_le _) w
              have hmc := q.2 rfl
              subst hmc
              have hl : l = 0 := by omega
              have hh0 : hh = 0 := by omega
              subst hl; subst hh0
              simp only [Option.isNone_none, if_true] at q
              refine ⟨.slice (some a') 0 c', ?_, ?_⟩
              · simp only [Instr.slice, Sem.run_bind, run_underlying hu, Result.andThen_ok, q.1, sizeOf_run hs, Sem.run_pure]
                by_cases e : c' = 0 <;> simp [e, Addr.add_zero']
              · simp only [Nat.zero_mul, Addr.add_zero', Nat.sub_zero]; exact .sloose k ho
          · cases he
      · cases he

theorem opt_rel (H : HRel P B w0 σ h w) (hts : LRel σ ts a.tmps.toList) {x : Option Operand} (hx : x.toList.all (operandOK P) = true) : ORel σ (x.map (evI ts)) (x.map a.eval) := by
  cases x with
  | none => exact .none
  | some x => exact .some (ev_sound H hts (by simpa using hx))

theorem slice_sound (H : HRel P B w0 σ h w) (hts : LRel σ ts a.tmps.toList) {t : TypeId} {x : Operand} {lo hi mx : Option Operand} (hx : operandOK P x = true) (hlo : lo.toList.all (operandOK P) = true) (hhi : hi.toList.all (operandOK P) = true) (hmx : mx.toList.all (operandOK P) = true)
    (he : opB P ⟨dst, .slice t x lo hi mx, ty, pos, after, guard⟩ ts h = some (v, h')) : OpRes P B w0 σ (execOp a.eval ⟨dst, .slice t x lo hi mx, ty, pos, after, guard⟩) w v h' := by
  have k := ev_sound H hts hx
  have rlo := opt_rel H hts hlo
  have rhi := opt_rel H hts hhi
  have rmx := opt_rel H hts hmx
  simp only [opB] at he
  split at he
  · rename_i hu
    split at he
    · rename_i s e
      rw [e] at k
      generalize hq : a.eval x = q at k
      cases k
      split at he
      · rename_i hh eh
        split at he
        · rename_i l el
          simp only [Option.some.injEq, Prod.mk.injEq] at he; obtain ⟨rfl, rfl⟩ := he
          refine .same (v' := .string (s.extract l hh)) H (op_map rfl ?_) (.string _)
          have hb : boundsI s.size s.size (lo.map (evI ts)) (hi.map (evI ts)) none = some (l, hh, s.size) := by
            cases hi <;> simp_all [boundsI, boundI]
          have q := bounds_run (P := P) (isS := false) hb rlo rhi .none (Nat.le_refl _) w
          simp only [Option.isNone_none, if_true] at q
          simp [Instr.sliceAt, Instr.slice, run_underlying hu, hq, q.1]
        · cases he
      · cases he
    · cases he
  · rename_i elem hu
    split at he
    · rename_i ad len cap size e hs
      rw [e] at k
      cases hsl : sliceI P h size ad len cap (lo.map (evI ts)) (hi.map (evI ts)) (mx.map (evI ts)) with
      | none => simp [hsl] at he
      | some u =>
        simp only [hsl, Option.map_some, Option.some.injEq, Prod.mk.injEq] at he; obtain ⟨rfl, rfl⟩ := he
        obtain ⟨u', k1, k2⟩ := slice_val_sound H hu hs hsl k rlo rhi rmx
        exact .same H (op_map rfl (by simp [Instr.sliceAt, run_underlying hu, k1])) k2
    · cases he
  · rename_i n elem hu
    split at he
    · rename_i ad size e hs
      rw [e] at k
      obtain ⟨ad', e', hA⟩ := k.ptr_inv
      have key : (∃ m, modeOf h ad.block = some m ∧ (m = .fix ∨ m = .ro)) → ((sliceI P h size (some ad) n n (lo.map (evI ts)) (hi.map (evI ts)) (mx.map (evI ts))).map fun v => (v, h)) = some (v, h') →
          OpRes P B w0 σ (execOp a.eval ⟨dst, .slice t x lo hi mx, ty, pos, after, guard⟩) w v h' := fun ⟨m, hm, hmm⟩ he => by
        unfold modeOf at hm
        split at hm
        · rename_i cs bt m2 hg
          simp only [Option.some.injEq] at hm; subst hm
          obtain ⟨b, o, hxx⟩ := kind_exact H hg hmm
          unfold sliceI at he
          split at he
          · simp at he
          · rename_i l hh mm hb
            simp only [hg] at he
            have he2 : some (Value.slice (some (if mm = l then ad else ad.add (l * size))) (hh - l) (mm - l), h) = some (v, h') := by
              rcases hmm with rfl | rfl <;> simpa using he
            simp only [Option.some.injEq, Prod.mk.injEq] at he2; obtain ⟨rfl, rfl⟩ := he2
            have q := bounds_run (P := P) (isS := false) hb rlo rhi rmx (Nat.le_refl _) w
            have hm2 : (if (mx.map (evI ts)).isNone then n else mm) = mm := by
              cases mx with
              | none => simp [q.2 rfl]
              | some x => simp
            rw [hm2] at q
            refine .same (v' := .slice (some (if mm = l then ad' else ad'.add (l * size))) (hh - l) (mm - l)) H (op_map rfl ?_) ?_
            · simp only [Instr.sliceAt, Sem.run_bind, run_underlying hu, Result.andThen_ok, e', Instr.sureAddr, Sem.run_pure, q.1, sizeOf_run hs]
            · by_cases e : mm = l
              · simp only [e, if_true]; exact slice_of_exact hA hxx
              · simp only [e, if_false]; exact slice_of_exact (hA.add _) (by rw [add_block]; exact hxx)
        · cases hm
      split at he
      · rename_i hm; exact key ⟨_, hm, .inl rfl⟩ he
      · rename_i hm; exact key ⟨_, hm, .inr rfl⟩ he
      · cases he
    · cases he
  · cases he

end
end Go.Ideal

end
section
/- Each operation of the ideal interpreter answers as the model's: append, copy, conversions, operators. Over any program. -/
set_option linter.unusedVariables false
set_option linter.unusedSimpArgs false
namespace Go.Ideal
open Go.RowKit

variable {P : Program} {B : Nat} {w0 : Org}

section
variable {w : World} {σ : Sg} {h h' : Heap}

theorem bytes_take (s : ByteArray) (n : Nat) : (s.extract 0 n).data.toList = s.data.toList.take n := by
  rw [ByteArray.data_extract, Array.toList_extract, List.extract_eq_take_drop]; simp

theorem first_sound (H : HRel P B w0 σ h w) {size n len : Nat} {x x' : Value} {new : List Value} (hf : firstI h size n x = some new) (hl : lenI x = some len) (hn : n ≤ len) (hx : VRel σ x x') :
    ∃ new', (Builtin.firstCells size n x').run P w = .ok new'.toArray w ∧ LRel σ new new' ∧ ((∃ a l c, x = .slice (some a) l c) → new.length = n * size) := by
  cases x <;> simp only [firstI] at hf <;> try (cases hf; done)
  case string s =>
    cases hx
    simp only [Option.some.injEq] at hf; subst hf
    refine ⟨_, ?_, LRel.map (f := fun b : UInt8 => Value.int .u8 b.toNat) (g := fun b : UInt8 => Value.int .u8 b.toNat) fun b _ => .int _ _, fun ⟨a, l, c, e⟩ => by cases e⟩
    simp only [Builtin.firstCells, Sem.run_pure]
    congr 1
    apply Array.toList_inj.1
    rw [Array.toList_map, bytes_take]
  case slice a l c =>
    simp only [lenI, Option.some.injEq] at hl; subst hl
    cases a with
    | none =>
      simp only [Option.some.injEq] at hf; subst hf
      cases hx
      exact ⟨[], by simp [Builtin.firstCells], .nil, fun ⟨a, l, c, e⟩ => by cases e⟩
    | some ad =>
      obtain ⟨ad', c', rfl, hA⟩ := slice_inv hx
      cases n with
      | zero =>
        simp only [Option.some.injEq] at hf; subst hf
        exact ⟨[], by simp [Builtin.firstCells, loadCells, loadCellsFrom], .nil, fun _ => by simp⟩
      | succ n =>
        obtain ⟨cs', k1, k2, k3⟩ := rd_sound H hf (hA (by omega))
        exact ⟨cs', by simp only [Builtin.firstCells]; exact k1, k2, fun _ => k3⟩

/-- A grown block is taken over under a new name. -/
theorem HRel.move (H : HRel P B w0 σ h w) {i b es sz : Nat} {cs : List Value} {t : TypeId} {new : Blk} {o : Obj} (hg : h.get i = some (.cells cs t .grow)) (hx : σ i = some ⟨b, 0, .grown es sz⟩) (hB : B ≤ b)
    (hn : BRel P B (σ.put h.next ⟨b, 0, .grown es sz⟩) (putBlock w b o) h.next new) (hnl : live new = true) :
    HRel P B w0 (σ.put h.next ⟨b, 0, .grown es sz⟩) ((h.set i (.cells [] t .dead)).push new) (putBlock w b o) ∧ σ.le (σ.put h.next ⟨b, 0, .grown es sz⟩) := by
  have hle : σ.le (σ.put h.next ⟨b, 0, .grown es sz⟩) := Sg.le_put H.fresh
  have hb := H.codom _ _ hx
  simp only at hb
  have hin : i ≠ h.next := fun e => by have := H.dom _ _ hx; omega
  have get : ∀ {j blk}, ((h.set i (.cells [] t .dead)).push new).get j = some blk → (j = h.next ∧ blk = new) ∨ (j = i ∧ blk = .cells [] t .dead) ∨ (j ≠ h.next ∧ j ≠ i ∧ h.get j = some blk) := fun {j blk} hj => by
    rw [Heap.get_push, Heap.next_set] at hj
    split at hj
    · rename_i e; simp only [Option.some.injEq] at hj; exact .inl ⟨e, hj.symm⟩
    · rename_i e
      rw [Heap.get_set (Heap.lt_of_get hg)] at hj
      split at hj
      · rename_i e2; simp only [Option.some.injEq] at hj; exact .inr (.inl ⟨e2, hj.symm⟩)
      · rename_i e2; exact .inr (.inr ⟨e, e2, hj⟩)
  have lold : (Blk.cells cs t .grow).loc σ i 0 = some b := loc_some 0 rfl hx
  have lnew : ∀ {r y}, new.loc (σ.put h.next ⟨b, 0, .grown es sz⟩) h.next r = some y → y = b := fun {r y} hy => by
    rw [loc_some r hnl (Sg.put_self _ _ _)] at hy; simpa using hy.symm
  have hoff : σ.f.off b := (H.blk _ _ hg).off rfl hx hB
  refine ⟨⟨below_putBlock H.below hB o, by simpa [putBlock] using H.size, fun j y hj => ?_, fun j y hj => ?_, fun g hg' => hle.pl _ _ (H.glob g hg'), fun j blk hj => ?_, fun j k r s bj bk b' hj hk lj lk hyB => ?_, H.frz.put hb hoff, H.old, fun i n x hx => Nat.lt_succ_of_lt (H.tdom i n x hx)⟩, hle⟩
  · by_cases e : j = h.next
    · subst e; simp [Heap.next_push, Heap.next_set]
    · rw [Sg.put_ne _ _ e] at hj; have := H.dom _ _ hj; simp [Heap.next_push, Heap.next_set]; omega
  · by_cases e : j = h.next
    · subst e; rw [Sg.put_self] at hj; simp only [Option.some.injEq] at hj; subst hj; simpa [putBlock] using hb
    · rw [Sg.put_ne _ _ e] at hj; simpa [putBlock] using H.codom _ _ hj
  · rcases get hj with ⟨rfl, rfl⟩ | ⟨rfl, rfl⟩ | ⟨e1, e2, hj'⟩
    · exact hn
    · trivial
    · refine (H.blk j blk hj').mono hle (fun r y hy => ?_) (fun _ _ _ _ => ⟨rfl, rfl⟩) fun _ => rfl
      rw [putBlock_get _ hb, if_neg]
      intro heq
      exact e2 (H.inj j i r 0 blk _ y hj' hg hy (by rw [heq]; exact lold) (by rw [heq]; exact hB))
  · have other : ∀ {j r bj}, j ≠ h.next → j ≠ i → h.get j = some bj → bj.loc (σ.put h.next ⟨b, 0, .grown es sz⟩) j r = some b' → bj.loc σ j r = some b' ∧ b' ≠ b := fun {j r bj} e1 e2 hj lj => by
      rw [loc_put e1] at lj
      exact ⟨lj, fun heq => e2 (H.inj j i r 0 bj _ b' hj hg lj (by rw [heq]; exact lold) hyB)⟩
    rcases get hj with ⟨rfl, rfl⟩ | ⟨rfl, rfl⟩ | ⟨e1, e2, hj'⟩
    · rcases get hk with ⟨rfl, rfl⟩ | ⟨rfl, rfl⟩ | ⟨f1, f2, hk'⟩
      · rfl
      · cases lk
      · exact absurd (lnew lj) (other f1 f2 hk' lk).2
    · cases lj
    · obtain ⟨lj', hne⟩ := other e1 e2 hj' lj
      rcases get hk with ⟨rfl, rfl⟩ | ⟨rfl, rfl⟩ | ⟨f1, f2, hk'⟩
      · exact absurd (lnew lk) hne
      · cases lk
      · exact H.inj j k r s bj bk b' hj' hk' lj' (other f1 f2 hk' lk).1 hyB

theorem growBy_le (need : Nat) : ∀ (r c : Nat), c ≤ need + (need + 768) / 4 → Builtin.growBy need r c ≤ need + (need + 768) / 4
  | 0, c, h => h
  | r + 1, c, h => by
    simp only [Builtin.growBy]
    split
    · exact h
    · exact growBy_le need r _ (by omega)
theorem nextcap_le (need old : Nat) (h : old < need) : Builtin.nextslicecap need old ≤ 5 * need := by
  unfold Builtin.nextslicecap
  split
  · omega
  · split
    · omega
    · have := growBy_le need 4 old (by omega)
      omega

theorem cap_ge (need old : Nat) (e : TypeId) (t : Nat) : need ≤ (Question.appendCap need old e).cut t := by simp [Question.cut]

theorem askRoom_run (n : Nat) (w : World) : (askRoom n).run P w = .ok () w := by
  unfold askRoom; split <;> simp [mark, Sem.run]

/-- append, where it must grow. -/
theorem grow_sound (H : HRel P B w0 σ h w) {argTypes : Array TypeId} {st xt elem ty : TypeId} {ti : TypeInfo} {zv : Value} {s' x' : Value} {base' : Option Addr} {sl cap' n : Nat} {old new : List Value}
    (h0 : argTypes[0]? = some st) (h1 : argTypes[1]? = some xt) (hus : P.underlying st = some (.slice elem)) (hux : (∃ e, P.underlying xt = some (.slice e)) ∨ P.underlying xt = some .string)
    (hti : P.info? elem = some ti) (hz : ti.zero = some zv) (hzs : zv.cells.size = ti.size) (hs' : s' = .slice base' sl cap')
    (hlen : ∀ w, (Builtin.lenOf x').run P w = .ok n w) (hneed : cap' < sl + n) (hbig : (sl + n) * (ti.bytes + 1) ≤ 1099511627776)
    (hold : ∃ old', (Builtin.firstCells ti.size sl s').run P { w with drawn := w.drawn + 1 } = .ok old'.toArray { w with drawn := w.drawn + 1 } ∧ LRel σ old old') (hol : old.length = sl * ti.size)
    (hnew : ∃ new', (Builtin.firstCells ti.size n x').run P { w with drawn := w.drawn + 1 } = .ok new'.toArray { w with drawn := w.drawn + 1 } ∧ LRel σ new new') (hnl : new.length = n * ti.size) :
    ∃ σ' w' v', σ.le σ' ∧ (Builtin.append_ argTypes ty #[s', x']).run P w = .ok v' w' ∧ VRel σ' (.slice (some ⟨h.next, 0, none⟩) (sl + n) (sl + n)) v' ∧ HRel P B w0 σ' (h.push (.cells (old ++ new) elem .grow)) w' := by
  have hb1 : (sl + n) * ti.bytes ≤ 1099511627776 := Nat.le_trans (Nat.mul_le_mul_left _ (by omega)) hbig
  have hb2 : sl + n ≤ 1099511627776 := Nat.le_trans (Nat.le_mul_of_pos_right _ (by omega)) hbig
  let w1 : World := { w with drawn := w.drawn + 1 }
  have H1 : HRel P B w0 σ h w1 := H.drew
  obtain ⟨old', o1, o2⟩ := hold
  obtain ⟨new', n1, n2⟩ := hnew
  have o1 : (Builtin.firstCells ti.size sl s').run P w1 = .ok old'.toArray w1 := o1
  have n1 : (Builtin.firstCells ti.size n x').run P w1 = .ok new'.toArray w1 := n1
  let nc := (Question.appendCap (sl + n) cap' elem).cut (w.tape w.drawn (Question.appendCap (sl + n) cap' elem))
  have hnc : sl + n ≤ nc := cap_ge _ _ _ _
  let rest := (Builtin.zeroCells zv.cells (nc - (sl + n))).toList
  have hrl : rest.length = (nc - (sl + n)) * ti.size := by simp [rest, Builtin.zeroCells, hzs]
  have hsz : sizeI P elem = some ti.size := by simp [sizeI, hti]
  have hl1 := o2.len
  have hl2 := n2.len
  have hlen2 : ((old' ++ new') ++ rest).length = nc * ti.size := by
    simp only [List.length_append, hrl, ← hl1, ← hl2, hol, hnl, ← Nat.add_mul]
    congr 1; omega
  obtain ⟨k1, k2⟩ := H1.push_grow (rest := rest) (t := elem) (t' := elem) (fz := (0, 0)) hsz (o2.append n2) (okFrozen_zero _)
  refine ⟨_, _, .slice (some ⟨w1.heap.size, 0, none⟩) (sl + n) nc, k2, ?_, ?_, k1⟩
  · subst hs'
    have hnn : ¬ (sl + n ≤ cap') := by omega
    have hnext : ¬ (Builtin.nextslicecap (sl + n) cap' * ti.bytes > 2 ^ 48) := by
      have := nextcap_le (sl + n) cap' hneed
      have h3 : Builtin.nextslicecap (sl + n) cap' * ti.bytes ≤ 5 * (sl + n) * ti.bytes := Nat.mul_le_mul_right _ this
      rw [Nat.mul_assoc] at h3
      omega
    have hmax : ¬ (((sl + n : Nat) : Int) > IntKind.i64.max) := by rw [IntKind.max_i64]; omega
    have hzr : ∀ w, (zeroValue elem).run P w = .ok zv w := fun w => by simp [zeroValue, typeInfo, hti, hz]
    have hz64 : ∀ w, (typeInfo elem).run P w = .ok ti w := fun w => by simp [typeInfo, hti]
    have hb0 : ¬ (((sl + n : Nat) : Int) > IntKind.i64.max ∧ (False ∨ ti.bytes = 0)) := fun h => hmax h.1
    have hch : (choose (Question.appendCap (sl + n) cap' elem)).run P w = .ok nc w1 := by simp [choose, Sem.run, Question.forced, nc, w1]
    unfold Builtin.append_
    simp only [h0, List.getElem?_toArray, List.getElem?_cons_zero, List.getElem?_cons_succ, Sem.run_bind, run_underlying hus, Result.andThen_ok]
    simp only [sizeOf_run hsz, Result.andThen_ok, h1]
    rcases hux with ⟨e, hx⟩ | hx
    all_goals
      simp only [Sem.run_bind, run_underlying hx, Result.andThen_ok, Sem.run_pure, Bool.false_eq_true, if_false, hlen, hnn, hz64, hb0, hnext, hch, askRoom_run, o1, Bool.not_false, if_true, n1, hzr]
      simp only [newRow, newObj, Sem.run_bind, Sem.run, Result.andThen_ok, Sem.run_pure]
      have he : old'.toArray ++ new'.toArray ++ Builtin.zeroCells zv.cells (nc - (sl + n)) = ((old' ++ new') ++ rest).toArray := by
        apply Array.toList_inj.1; simp [rest]
      rw [he]
      rfl
  · exact (by
      have := VRel.sgrown (σ := σ.put h.next ⟨w1.heap.size, 0, .grown ti.size ((old' ++ new') ++ rest).length⟩) (off := 0) (n := sl + n) (c := sl + n) (c' := nc) (Sg.put_self _ _ _) hnc (by rw [hlen2]; omega)
      simpa using this)

theorem HRel.kill (H : HRel P B w0 σ h w) (i : Nat) (t : TypeId) : HRel P B w0 σ (h.set i (.cells [] t .dead)) w := by
  by_cases hi : i < h.next
  case neg =>
    exact ⟨H.below, H.size, H.dom, H.codom, H.glob, fun j b hj => H.blk j b (by rwa [Heap.get_set_ge hi] at hj), fun j k r s bj bk b hj hk => H.inj j k r s bj bk b (by rwa [Heap.get_set_ge hi] at hj) (by rwa [Heap.get_set_ge hi] at hk), H.frz, H.old, H.tdom⟩
  refine ⟨H.below, H.size, H.dom, H.codom, H.glob, fun j b hj => ?_, fun j k r s bj bk b hj hk lj lk hB => ?_, H.frz, H.old, H.tdom⟩
  · rw [Heap.get_set hi] at hj
    split at hj
    · simp only [Option.some.injEq] at hj; subst hj; trivial
    · exact H.blk j b hj
  · rw [Heap.get_set hi] at hj hk
    split at hj
    · simp only [Option.some.injEq] at hj; subst hj; cases lj
    · split at hk
      · simp only [Option.some.injEq] at hk; subst hk; cases lk
      · exact H.inj j k r s bj bk b hj hk lj lk hB

theorem LRel.ones {σ : Sg} {l l' : List Value} (h : LRel σ l l') : l.all oneCell = true → l'.all oneCell = true := by
  induction h with
  | nil => exact fun h => h
  | cons k _ ih => intro h; simp only [List.all_cons, Bool.and_eq_true] at h ⊢; exact ⟨by rw [k.oneCell]; exact h.1, ih h.2⟩

theorem zsize_info {t : TypeId} {n : Nat} (h : zsizeI P t = some n) : ∃ i zv, P.info? t = some i ∧ i.zero = some zv ∧ zv.cells.size = n := by
  unfold zsizeI at h
  cases hi : P.info? t with
  | none => simp [hi] at h
  | some i =>
    cases hz : i.zero with
    | none => simp [hi, hz] at h
    | some v => simp only [hi, Option.bind_some, hz, Option.map_some, Option.some.injEq] at h; exact ⟨i, v, rfl, hz, h⟩

theorem len_run {x x' : Value} {n : Nat} (hl : lenI x = some n) (hx : VRel σ x x') (w : World) : (Builtin.lenOf x').run P w = .ok n w := by
  cases hx <;> simp [lenI, osl, rsl, rpt, rch] at hl <;> subst hl <;> simp [Builtin.lenOf]

/-- append. -/
theorem append_sound (H : HRel P B w0 σ h w) {argTypes : Array TypeId} {st xt elem ty : TypeId} {s s' x x' v : Value} {n size : Nat} {new : List Value}
    (h0 : argTypes[0]? = some st) (h1 : argTypes[1]? = some xt) (hus : P.underlying st = some (.slice elem)) (hux : (∃ e, P.underlying xt = some (.slice e)) ∨ P.underlying xt = some .string)
    (hs : VRel σ s s') (hx : VRel σ x x') (hsz : sizeI P elem = some size) (hl : lenI x = some n) (hf : firstI h size n x = some new) (hnl : new.length = n * size)
    (ha : appendI P h elem s n new = some (v, h')) :
    ∃ σ' w' v', σ.le σ' ∧ (Builtin.append_ argTypes ty #[s', x']).run P w = .ok v' w' ∧ VRel σ' v v' ∧ HRel P B w0 σ' h' w' := by
  obtain ⟨ti, hti, rfl⟩ := size_info hsz
  obtain ⟨new', n1, n2, _⟩ := first_sound H hf hl (Nat.le_refl n) hx
  have hnew : ∃ new', (Builtin.firstCells ti.size n x').run P { w with drawn := w.drawn + 1 } = .ok new'.toArray { w with drawn := w.drawn + 1 } ∧ LRel σ new new' := by
    obtain ⟨new', n1, n2, _⟩ := first_sound H.drew hf hl (Nat.le_refl n) hx
    exact ⟨new', n1, n2⟩
  /- it fits -/
  have fits : ∀ {base' : Option Addr} {sl cap' : Nat}, s' = .slice base' sl cap' → sl + n ≤ cap' → ∀ {w' : World},
      ((match base' with | some a => storeCells (a.add (sl * ti.size)) new' | none => pure ()) : Sem Unit).run P w = .ok () w' →
      (Builtin.append_ argTypes ty #[s', x']).run P w = .ok (.slice base' (sl + n) cap') w' := fun {base' sl cap'} e hfit {w'} hst => by
    subst e
    unfold Builtin.append_
    simp only [h0, List.getElem?_toArray, List.getElem?_cons_zero, List.getElem?_cons_succ, Sem.run_bind, run_underlying hus, Result.andThen_ok]
    simp only [sizeOf_run hsz, Result.andThen_ok, h1]
    rcases hux with ⟨e, hx2⟩ | hx2
    all_goals
      simp only [Sem.run_bind, run_underlying hx2, Result.andThen_ok, Sem.run_pure, Bool.false_eq_true, if_false, len_run hl hx, hfit, if_true, Bool.not_false, n1]
      cases base' with
      | none => simp only [Sem.run_pure] at hst; simp at hst; subst hst; simp
      | some a => simp only at hst; simp only [Sem.run_bind, hst, Result.andThen_ok, Sem.run_pure]
  unfold appendI at ha
  simp only [hti] at ha
  split at ha
  · rename_i size zs hsz1 hzs
    simp only [Option.ite_none_right_eq_some, Nat.beq_eq] at ha
    obtain ⟨rfl, ha⟩ := ha
    obtain ⟨i, zv, hi, hz, hzz⟩ := zsize_info hzs
    rw [hti] at hi; simp only [Option.some.injEq] at hi; subst hi
    have hsz1 : ti.size = size + 1 := hsz1
    rw [← hsz1] at hzz
    split at ha
    · rename_i sl cap
      simp only [Option.ite_none_right_eq_some, Bool.and_eq_true, Nat.beq_eq] at ha
      obtain ⟨⟨rfl, rfl⟩, ha⟩ := ha
      cases hs
      cases n with
      | zero =>
        simp only [Option.some.injEq, Prod.mk.injEq] at ha; obtain ⟨rfl, rfl⟩ := ha
        exact ⟨σ, w, _, Sg.le_refl σ, fits rfl (Nat.le_refl _) (by simp), .snil _ _, H⟩
      | succ n =>
        simp only [Option.ite_none_right_eq_some, Nat.ble_eq, Option.some.injEq, Prod.mk.injEq] at ha; obtain ⟨hbig, rfl, rfl⟩ := ha
        have := grow_sound (ty := ty) (old := []) (sl := 0) (cap' := 0) (base' := none) H h0 h1 hus hux hti hz hzz rfl (len_run hl hx) (by omega) (by simpa using hbig) ⟨[], by simp [Builtin.firstCells], .nil⟩ (by simp) hnew hnl
        simpa using this
    · rename_i ad sl cap
      split at ha
      · rename_i hfit
        simp only [Nat.ble_eq] at hfit
        obtain ⟨ad', c', rfl, hA⟩ := slice_inv hs
        have hcc : sl + n ≤ c' := by
          cases hs with
          | sfix _ => exact hfit
          | sgrown _ hc _ => omega
          | sloose _ _ => omega
        cases n with
        | zero =>
          simp only [Option.some.injEq, Prod.mk.injEq] at ha; obtain ⟨rfl, rfl⟩ := ha
          have hn0 : new' = [] := by
            have := n2.len
            simp only [Nat.zero_mul] at hnl
            exact List.length_eq_zero_iff.1 (by omega)
          exact ⟨σ, w, _, Sg.le_refl σ, fits rfl hcc (by simp [hn0, storeCells]), by simpa using hs, H⟩
        | succ n =>
          simp only at ha
          split at ha
          · rename_i h2 hw
            simp only [Option.some.injEq, Prod.mk.injEq] at ha; obtain ⟨rfl, rfl⟩ := ha
            have hA' : ARel σ ad ad' := by
              cases hs with
              | sfix hh => exact ⟨_, _, _, hh, rfl, rfl⟩
              | sgrown hh _ _ => exact ⟨_, _, _, hh, rfl, rfl⟩
              | sloose _ _ => omega
            obtain ⟨w', k1, k2⟩ := wr_sound H hw (hA'.add _) n2
            rw [← hsz1] at k1
            refine ⟨σ, w', _, Sg.le_refl σ, fits rfl hcc k1, ?_, k2⟩
            cases hs with
            | sfix hh => exact .sfix hh
            | sgrown hh hc hz => exact .sgrown hh (by omega) hz
            | sloose _ _ => omega
          · cases ha
      · rename_i hnf
        have hnf' : ¬ (sl + n ≤ cap) := by rw [← Nat.ble_eq]; exact hnf
        simp only [Option.ite_none_right_eq_some, Nat.ble_eq] at ha
        obtain ⟨hbig, ha⟩ := ha
        split at ha
        · rename_i cs t m hg
          have exact_case : (m = .fix ∨ m = .ro) → (match rdCells h ad (sl * (size + 1)) with
              | some old => some (Value.slice (some ⟨h.next, 0, none⟩) (sl + n) (sl + n), h.push (.cells (old ++ new) elem .grow))
              | none => none) = some (v, h') →
              ∃ σ' w' v', σ.le σ' ∧ (Builtin.append_ argTypes ty #[s', x']).run P w = .ok v' w' ∧ VRel σ' v v' ∧ HRel P B w0 σ' h' w' := fun hm ha => by
            obtain ⟨b, o, hx2⟩ := kind_exact H hg hm
            obtain ⟨ad', rfl, hA⟩ := slice_exact hs hx2
            split at ha
            · rename_i old hr
              simp only [Option.some.injEq, Prod.mk.injEq] at ha; obtain ⟨rfl, rfl⟩ := ha
              have hol : old.length = sl * ti.size := by
                obtain ⟨_, _, _, k⟩ := rd_sound H hr hA
                rw [k, hsz1]
              refine grow_sound H h0 h1 hus hux hti hz hzz rfl (len_run hl hx) (by omega) hbig ?_ hol hnew hnl
              obtain ⟨cs', k1, k2, _⟩ := rd_sound H.drew hr hA
              exact ⟨cs', by simp only [Builtin.firstCells, hsz1]; exact k1, k2⟩
            · cases ha
          cases m with
          | fix => exact exact_case (.inl rfl) ha
          | ro => exact exact_case (.inr rfl) ha
          | dead => cases ha
          | grow =>
            simp only at ha
            split at ha
            · rename_i s2 ho hsp hs2
              simp only [Option.ite_none_right_eq_some, Bool.and_eq_true, Nat.beq_eq, Option.some.injEq, Prod.mk.injEq] at ha; obtain ⟨⟨⟨rfl, hcl⟩, hone⟩, rfl, rfl⟩ := ha
              obtain ⟨b, es, cc, t', fz, k1, k2, k3, k4, k5, k6, k7, kf⟩ := H.blk _ _ hg
              rw [hs2] at k2; simp only [Option.some.injEq] at k2; subst k2
              cases hs with
              | sfix hh => simp [hh] at k1
              | sloose hh hof => exact absurd ho hof
              | sgrown hh hc hz2 =>
                rename_i i off b2 c' es2 sz2
                rw [hh] at k1; simp only [Option.some.injEq, Spot.mk.injEq, SK.grown.injEq, true_and] at k1
                obtain ⟨rfl, rfl, rfl⟩ := k1
                simp only at ho; subst ho
                have hl2 := n2.len
                have hA : ARel σ ⟨i, 0, none⟩ ⟨b2, 0 + 0, none⟩ := ⟨_, _, _, hh, rfl, rfl⟩
                have hrd : rdCells h ⟨i, 0, none⟩ (sl * (size + 1)) = some cs := by
                  simp [rdCells, hg, hcl]
                by_cases hfit : sl + n ≤ c'
                · /- in place -/
                  have hsz3 : sl * (size + 1) + new'.length ≤ cc.size := by
                    rw [← hl2, hnl, hsz1, ← Nat.add_mul]
                    have := Nat.mul_le_mul_right (size + 1) hfit
                    have hz3 : 0 + c' * (size + 1) ≤ cc.size := hz2
                    omega
                  have hone' : new'.all oneCell = true := n2.ones hone
                  have hrun := run_storeCells_put (P := P) (p := 0 + sl * (size + 1)) new' 0 cc w k4 (by omega) k5 hone'
                  have hln : (splice cc.toList (0 + sl * (size + 1) + 0) new').length = cc.size := by rw [splice_length _ _ _ (by simp; omega)]; simp
                  have hB : BRel P B (σ.put h.next ⟨b2, 0, .grown (size + 1) cc.size⟩) (putBlock w b2 (.cells (splice cc.toList (0 + sl * (size + 1) + 0) new').toArray t' fz)) h.next (.cells (cs ++ new) elem .grow) := by
                    have hsa : (splice cc.toList (0 + sl * (size + 1) + 0) new').toArray.size = cc.size := by rw [List.size_toArray]; exact hln
                    refine ⟨b2, size + 1, (splice cc.toList (0 + sl * (size + 1) + 0) new').toArray, t', fz, by rw [Sg.put_self, hsa], by rw [hsz, hsz1], k3, (putBlock_get b2 (H.codom _ _ hh)).trans (if_pos rfl), ?_, ?_, ?_⟩
                    · rw [hsa]; exact k5
                    · rw [hsa, List.length_append, ← hcl, hl2]; exact hsz3
                    · have e : (splice cc.toList (0 + sl * (size + 1) + 0) new').take (cs ++ new).length = cc.toList.take cs.length ++ new' := by
                        rw [List.length_append, ← hcl, hl2]
                        simp only [Nat.zero_add, Nat.add_zero]
                        unfold Go.Ideal.splice
                        rw [List.take_append_of_le_length (by simp; omega)]
                        exact List.take_of_length_le (by simp; omega)
                      rw [e]
                      exact ⟨((k7.append n2)).mono (Sg.le_put H.fresh), kf⟩
                  obtain ⟨q1, q2⟩ := H.move hg hh k3 hB rfl
                  refine ⟨_, _, _, q2, fits (w' := putBlock w b2 (.cells (splice cc.toList (0 + sl * (size + 1) + 0) new').toArray t' fz)) rfl hfit ?_, ?_, q1⟩
                  · simp only [hsz1, Addr.add_none]
                    simpa using hrun
                  · have := VRel.sgrown (σ := σ.put h.next ⟨b2, 0, .grown (size + 1) cc.size⟩) (off := 0) (n := sl + n) (c := sl + n) (c' := c') (Sg.put_self _ _ _) hfit (by simpa using hz2)
                    simpa using this
                · /- anew -/
                  have := grow_sound (ty := ty) (old := cs) (cap' := c') (sl := sl) (n := n) (base' := some ⟨b2, 0 + 0, none⟩) (H.kill i t) h0 h1 hus hux hti hz hzz rfl (len_run hl hx) (by omega) hbig (by
                    obtain ⟨cs', q1, q2, _⟩ := rd_sound H.drew hrd hA
                    exact ⟨cs', by simp only [Builtin.firstCells, hsz1]; exact q1, q2⟩) (by rw [hsz1]; omega) hnew hnl
                  exact this
            · cases ha
        · cases ha
    · cases ha
  · cases ha

end
end Go.Ideal

end
