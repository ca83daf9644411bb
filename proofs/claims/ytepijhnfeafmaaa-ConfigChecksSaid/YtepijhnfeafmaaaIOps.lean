/- Each operation of the ideal interpreter answers as the model's, whatever the world. Plain lemmas, over any program. -/
import Derived.Test.YtepijhnfeafmaaaIMem
import Derived.Laws.BytesString
import Derived.Laws.Tables
set_option linter.unusedVariables false
set_option linter.unusedSimpArgs false
namespace Go.Ideal
open Go.RowKit

variable {P : Program} {B : Nat} {w0 : Org}

/-! ### types -/
theorem isAgg_run {t : TypeId} {b : Bool} (h : isAggI P t = some b) (w : World) : (isAgg t).run P w = .ok b w := by
  unfold isAggI at h
  unfold isAgg
  simp only [Sem.run_bind]
  cases hu : P.underlying t with
  | none => simp [hu] at h
  | some d =>
    rw [run_underlying hu]
    simp only [hu] at h
    cases d <;> simp_all
theorem sizeOf_run {t : TypeId} {n : Nat} (h : sizeI P t = some n) (w : World) : (sizeOf t).run P w = .ok n w := by
  unfold sizeI at h
  cases hi : P.info? t with
  | none => simp [hi] at h
  | some i => simp only [hi, Option.map_some, Option.some.injEq] at h; subst h; simp [sizeOf, typeInfo, hi]
theorem zero_run {t : TypeId} {z : List Value} (h : zeroI P t = some z) (w : World) : ∃ v, (zeroValue t).run P w = .ok v w ∧ z = v.cells.toList ∧ flat v = true := by
  unfold zeroI at h
  cases hi : P.info? t with
  | none => simp [hi] at h
  | some i =>
    cases hz : i.zero with
    | none => simp [hi, hz] at h
    | some v =>
      simp only [hi, Option.bind_some, hz, Option.ite_none_right_eq_some, Option.some.injEq] at h
      exact ⟨v, by simp [zeroValue, typeInfo, hi, hz], by rw [← h.2, cellList_eq], h.1⟩
theorem zero_rel {t : TypeId} {z : List Value} (h : zeroI P t = some z) (σ : Sg) : LRel σ z z := by
  obtain ⟨v, _, rfl, hf⟩ := zero_run h default
  have := (flat_rel hf σ).cells
  rwa [cellList_eq] at this

/-! ### load, store -/
theorem load_sound {w : World} {σ : Sg} {h : Heap} (H : HRel P B w0 σ h w) {t : TypeId} {a a' : Addr} {v : Value} (hl : loadI P h t a = some v) (ha : ARel σ a a') :
    ∃ v', (loadVar t a').run P w = .ok v' w ∧ VRel σ v v' := by
  unfold loadI at hl
  split at hl
  · rename_i n h1 h2
    cases hr : rdCells h a n with
    | none => simp [hr] at hl
    | some cs =>
      simp only [hr, Option.map_some, Option.some.injEq] at hl
      subst hl
      obtain ⟨cs', k1, k2, _⟩ := rd_sound H hr ha
      exact ⟨.agg cs'.toArray, by simp [loadVar, isAgg_run h1, sizeOf_run h2, k1], VRel.agg_of (by simpa using k2)⟩
  · rename_i n h1 h2
    split at hl
    · rename_i u hr
      simp only [Option.some.injEq] at hl
      subst hl
      obtain ⟨cs', k1, k2, _⟩ := rd_sound H hr ha
      cases k2 with
      | cons hv ht =>
        cases ht
        rename_i v'
        refine ⟨v', ?_, hv⟩
        simp only [loadCells, loadCellsFrom, Sem.run_bind] at k1
        simp only [loadVar, Sem.run_bind, isAgg_run h1, Result.andThen_ok]
        rw [Addr.add_zero'] at k1
        simp only [Bool.false_eq_true, if_false]
        cases hq : (load a').run P w with
        | ok x y =>
          rw [hq] at k1
          simp only [Result.andThen_ok, Sem.run_pure] at k1
          simp at k1
          obtain ⟨rfl, rfl⟩ := k1
          rfl
        | halt x y => rw [hq] at k1; simp [Result.andThen] at k1
    · cases hl
  · cases hl

theorem store_sound {w : World} {σ : Sg} {h h' : Heap} (H : HRel P B w0 σ h w) {t : TypeId} {a a' : Addr} {v v' : Value} (hs : storeI P h t a v = some h') (ha : ARel σ a a') (hv : VRel σ v v') :
    ∃ w', (storeVar t a' v').run P w = .ok () w' ∧ HRel P B w0 σ h' w' := by
  unfold storeI at hs
  split at hs
  · rename_i n h2
    simp only [Option.ite_none_right_eq_some] at hs
    obtain ⟨h3, h4⟩ := hs
    have hc := hv.cells
    have hl := hc.len
    rw [Nat.beq_eq] at h3
    obtain ⟨w', k1, k2⟩ := wr_sound H h4 ha hc
    refine ⟨w', ?_, k2⟩
    have hn : v'.cells.size = n := by rw [← h3, hl]; simp
    simp only [storeVar, Sem.run_bind, sizeOf_run h2, Result.andThen_ok, hn, ne_eq, not_true_eq_false, if_false, k1]
  · cases hs

/-! ### parts -/
theorem part_sound {w : World} {σ : Sg} {t : TypeId} {cs : List Value} {cs' : Array Value} {off : Nat} {v : Value} (hp : partI P t cs off = some v) (hr : LRel σ cs cs'.toList) :
    ∃ v', (part t cs' off).run P w = .ok v' w ∧ VRel σ v v' := by
  unfold partI at hp
  split at hp
  · rename_i n h1 h2
    simp only [Option.some.injEq] at hp
    subst hp
    refine ⟨.agg (cs'.extract off (off + n)), by simp [part, isAgg_run h1, sizeOf_run h2], VRel.agg_of ?_⟩
    rw [Array.toList_extract, List.extract_eq_take_drop]
    simp only [Nat.add_sub_cancel_left]
    exact (hr.drop _).take _
  · rename_i n h1 h2
    obtain ⟨v', k1, k2⟩ := hr.get? _ _ hp
    refine ⟨v', ?_, k2⟩
    rw [Array.getElem?_toList] at k1
    simp [part, isAgg_run h1, k1]
  · cases hp

/-! ### fill -/
theorem foldl_splice (off : Nat) : ∀ (l : List Value) (k : Nat) (cells : Array Value), off + k + l.length ≤ cells.size →
    ((l.zipIdx k).foldl (fun cs x => cs.setIfInBounds (off + x.2) x.1) cells).toList = splice cells.toList (off + k) l
  | [], k, cells, _ => by simp [splice]
  | v :: l, k, cells, h => by
    simp only [List.length_cons] at h
    rw [List.zipIdx_cons, List.foldl_cons, foldl_splice off l (k + 1) _ (by simp; omega)]
    simp only [Array.toList_setIfInBounds]
    rw [← Nat.add_assoc, set_splice _ _ _ _ (by simp; omega)]

theorem fill_sound {σ : Sg} {place : Nat → Option (Nat × Nat)} : ∀ {parts parts' : List (Nat × Value)} {cs out : List Value} {cells : Array Value},
    fillI place cs parts = some out → LRel σ cs cells.toList → parts.length = parts'.length → (∀ (j : Nat) (x x' : Nat × Value), parts[j]? = some x → parts'[j]? = some x' → x.1 = x'.1 ∧ VRel σ x.2 x'.2) →
    ∃ out', Instr.fill place cells parts' = some out' ∧ LRel σ out out'.toList
  | [], [], cs, out, cells, h, hc, _, _ => by
    simp only [fillI, Option.some.injEq] at h; subst h
    exact ⟨cells, rfl, hc⟩
  | [], _ :: _, _, _, _, _, _, hl, _ => by simp at hl
  | _ :: _, [], _, _, _, _, _, hl, _ => by simp at hl
  | (i, v) :: rest, (i', v') :: rest', cs, out, cells, h, hc, hl, hp => by
    obtain ⟨e, hv⟩ := hp 0 (i, v) (i', v') rfl rfl
    simp only at e hv; subst e
    simp only [fillI] at h
    split at h
    · cases h
    · rename_i off size hpl
      split at h
      · rename_i hb
        simp only [Bool.and_eq_true, Nat.beq_eq, Nat.ble_eq] at hb
        have hvc := hv.cells
        have hlv := hvc.len
        have hlc := hc.len
        simp only [Array.length_toList] at hlv hlc
        have hsz : off + v'.cells.toList.length ≤ cells.size := by rw [Array.length_toList]; omega
        have hfold : (Array.foldl (fun cs x => cs.setIfInBounds (off + x.2) x.1) cells v'.cells.zipIdx).toList = splice cells.toList off v'.cells.toList := by
          rw [← Array.foldl_toList, Array.toList_zipIdx]
          exact foldl_splice off v'.cells.toList 0 cells hsz
        have := fill_sound (place := place) (parts := rest) (parts' := rest') (cells := Array.foldl (fun cs x => cs.setIfInBounds (off + x.2) x.1) cells v'.cells.zipIdx) h
          (by rw [hfold]; exact hc.splice hvc off) (by simpa using hl) (fun j x x' a b => hp (j + 1) x x' (by simpa using a) (by simpa using b))
        obtain ⟨out', k1, k2⟩ := this
        refine ⟨out', ?_, k2⟩
        simp only [Instr.fill, hpl]
        rw [if_neg (by simp; omega)]
        exact k1
      · cases h

theorem sizes_mapM : ∀ {fs : List Field} {pl : List (Nat × Nat)}, sizesI P fs = some pl → fs.mapM (fun f => (P.info? f.type).map fun i => (f.offset, i.size)) = some pl
  | [], pl, h => by simp only [sizesI, Option.some.injEq] at h; subst h; rfl
  | f :: fs, pl, h => by
    simp only [sizesI] at h
    split at h
    · rename_i n l h1 h2
      simp only [Option.some.injEq] at h; subst h
      have := sizes_mapM h2
      unfold sizeI at h1
      cases hi : P.info? f.type with
      | none => simp [hi] at h1
      | some i =>
        simp only [hi, Option.map_some, Option.some.injEq] at h1; subst h1
        simp only [List.mapM_cons, hi, Option.map_some, this]; rfl
    · cases h

theorem zero_info {t : TypeId} {z : List Value} (h : zeroI P t = some z) : ∃ i zv, P.info? t = some i ∧ i.zero = some zv ∧ z = zv.cells.toList ∧ flat zv = true := by
  unfold zeroI at h
  cases hi : P.info? t with
  | none => simp [hi] at h
  | some i =>
    cases hz : i.zero with
    | none => simp [hi, hz] at h
    | some v =>
      simp only [hi, Option.bind_some, hz, Option.ite_none_right_eq_some, Option.some.injEq] at h
      exact ⟨i, v, rfl, hz, by rw [← h.2, cellList_eq], h.1⟩
theorem size_info {t : TypeId} {n : Nat} (h : sizeI P t = some n) : ∃ i, P.info? t = some i ∧ i.size = n := by
  unfold sizeI at h
  cases hi : P.info? t with
  | none => simp [hi] at h
  | some i => simp only [hi, Option.map_some, Option.some.injEq] at h; exact ⟨i, rfl, h⟩

theorem zerosI_length (z : List Value) : ∀ n, (zerosI z n).length = n * z.length
  | 0 => by simp [zerosI]
  | n + 1 => by simp only [zerosI, List.length_append, zerosI_length z n, Nat.succ_mul]; omega
theorem zerosI_get (z : List Value) : ∀ (n i : Nat), i < n * z.length → (zerosI z n)[i]? = z[i % z.length]?
  | 0, i, h => by simp at h
  | n + 1, i, h => by
    rw [Nat.succ_mul] at h
    simp only [zerosI]
    rcases Nat.lt_or_ge i z.length with hi | hi
    · rw [List.getElem?_append_left hi, Nat.mod_eq_of_lt hi]
    · rw [List.getElem?_append_right hi, zerosI_get z n (i - z.length) (by omega), Nat.mod_eq_sub_mod hi]
theorem zeros_eq (z : Array Value) (n m : Nat) (hm : m = n * z.size) : ((Array.range m).map (fun i => z[i % z.size]!)).toList = zerosI z.toList n := by
  apply List.ext_getElem?
  intro i
  subst hm
  rcases Nat.lt_or_ge i (n * z.size) with hi | hi
  · rw [zerosI_get _ _ _ (by simpa using hi)]
    have hz : 0 < z.size := by
      rcases Nat.eq_zero_or_pos z.size with h | h
      · rw [h] at hi; simp at hi
      · exact h
    have hlt := Nat.mod_lt i hz
    simp [hi, hlt, getElem!_pos, Array.getElem?_eq_getElem hlt]
  · rw [List.getElem?_eq_none (by simpa using hi), List.getElem?_eq_none (by rw [zerosI_length]; simpa using hi)]
theorem zeros_rel {σ : Sg} {z : List Value} (h : LRel σ z z) : ∀ n, LRel σ (zerosI z n) (zerosI z n)
  | 0 => .nil
  | n + 1 => h.append (zeros_rel h n)

end Go.Ideal
