/- Each operation of the ideal interpreter answers as the model's: what makes slices, aggregates and strings; built-in functions. Over any program. -/
import Derived.Test.YtepijhnfeafmaaaIOps2
set_option linter.unusedVariables false
set_option linter.unusedSimpArgs false
namespace Go.Ideal
open Go.RowKit

variable {P : Program} {B : Nat} {w0 : Org}

theorem HRel.drew {w : World} {σ : Sg} {h : Heap} (H : HRel P B w0 σ h w) : HRel P B w0 σ h { w with drawn := w.drawn + 1 } :=
  ⟨⟨H.below.os, H.below.tape, H.below.output, H.below.size, H.below.block⟩, H.size, H.dom, H.codom, H.glob, fun i b hb => (H.blk i b hb).same fun _ _ => rfl, H.inj, ⟨H.frz.c, H.frz.m⟩, H.old, H.tdom⟩

theorem HRel.fresh {w : World} {σ : Sg} {h : Heap} (H : HRel P B w0 σ h w) : σ h.next = none := by
  cases e : σ h.next with
  | none => rfl
  | some x => exact absurd (H.dom _ _ e) (Nat.lt_irrefl _)

/-- A new block that may have more room than is known. -/
theorem HRel.push_grow {w : World} {σ : Sg} {h : Heap} (H : HRel P B w0 σ h w) {cs cs' rest : List Value} {t t' : TypeId} {es : Nat} (hes : sizeI P t = some es) (hc : LRel σ cs cs') {fz : Nat × Nat}
    (hf : okFrozen (cs' ++ rest).length fz) :
    HRel P B w0 (σ.put h.next ⟨w.heap.size, 0, .grown es (cs' ++ rest).length⟩) (h.push (.cells cs t .grow)) (w.alloc (.cells (cs' ++ rest).toArray t' fz)) ∧ σ.le (σ.put h.next ⟨w.heap.size, 0, .grown es (cs' ++ rest).length⟩) := by
  refine H.push ?_
  have hle : σ.le (σ.put h.next ⟨w.heap.size, 0, .grown es (cs' ++ rest).length⟩) := Sg.le_put H.fresh
  have hl := hc.len
  refine ⟨w.heap.size, es, (cs' ++ rest).toArray, t', fz, by simp [Sg.put_self], hes, H.size, by show (w.heap.push _)[w.heap.size]? = _; simp, by simpa using hf, by simp; omega, ?_⟩
  simp only [hl, List.take_left']
  exact ⟨hc.mono hle, H.frz.off (Nat.le_refl _)⟩

section
variable {w : World} {σ : Sg} {h h' : Heap} {ts : List Value} {a : Act} {v : Value} {dst : Option Tmp} {ty : TypeId} {pos : String} {after : Array Edge} {guard : Option (Nat × Bool)}

theorem parts_rel (H : HRel P B w0 σ h w) (hts : LRel σ ts a.tmps.toList) : ∀ {l : List (Nat × Operand)}, (l.map (·.2)).all (operandOK P) = true →
    (l.map fun p => (p.1, evI ts p.2)).length = (l.map fun p => (p.1, a.eval p.2)).length ∧
    ∀ (j : Nat) (x x' : Nat × Value), (l.map fun p => (p.1, evI ts p.2))[j]? = some x → (l.map fun p => (p.1, a.eval p.2))[j]? = some x' → x.1 = x'.1 ∧ VRel σ x.2 x'.2 := fun {l} hl => by
  refine ⟨by simp, fun j x x' hx hx' => ?_⟩
  rw [List.getElem?_map] at hx hx'
  cases hj : l[j]? with
  | none => simp [hj] at hx
  | some p =>
    simp only [hj, Option.map_some, Option.some.injEq] at hx hx'
    subst hx; subst hx'
    refine ⟨rfl, ev_sound H hts ?_⟩
    exact List.all_eq_true.1 hl p.2 (List.mem_map.2 ⟨p, List.mem_of_getElem? hj, rfl⟩)

theorem parts_toList (ps : Array (Nat × Operand)) (ρ : Operand → Value) : (ps.map fun (i, x) => (i, ρ x)).toList = ps.toList.map fun p => (p.1, ρ p.2) := by
  rw [Array.toList_map]

theorem build_sound (H : HRel P B w0 σ h w) (hts : LRel σ ts a.tmps.toList) {t : TypeId} {ps : Array (Nat × Operand)} (hps : (ps.toList.map (·.2)).all (operandOK P) = true)
    (he : opB P ⟨dst, .build t ps, ty, pos, after, guard⟩ ts h = some (v, h')) : OpRes P B w0 σ (execOp a.eval ⟨dst, .build t ps, ty, pos, after, guard⟩) w v h' := by
  obtain ⟨pl, pr⟩ := parts_rel H hts hps
  simp only [opB] at he
  split at he
  · rename_i z fields hz hu
    obtain ⟨i, zv, hi, hiz, rfl, hf⟩ := zero_info hz
    split at he
    · rename_i places hpl
      cases hfi : fillI (places[·]?) zv.cells.toList (ps.toList.map fun p => (p.1, evI ts p.2)) with
      | none => simp [hfi] at he
      | some cs =>
        simp only [hfi, Option.map_some, Option.some.injEq, Prod.mk.injEq] at he; obtain ⟨rfl, rfl⟩ := he
        obtain ⟨out, k1, k2⟩ := fill_sound hfi (zero_rel hz σ) pl pr
        refine .same (v' := .agg out) H (op_map rfl (run_build w t _ out ?_)) (VRel.agg_of (by simpa using k2))
        unfold Program.built
        rw [parts_toList]
        simp only [hi, hu, hiz, sizes_mapM hpl]
        simpa using k1
    · cases he
  · rename_i z n elem hz hu
    obtain ⟨i, zv, hi, hiz, rfl, hf⟩ := zero_info hz
    split at he
    · rename_i size hs
      obtain ⟨ie, hie, rfl⟩ := size_info hs
      cases hfi : fillI (fun i => some (i * ie.size, ie.size)) zv.cells.toList (ps.toList.map fun p => (p.1, evI ts p.2)) with
      | none => simp [hfi] at he
      | some cs =>
        simp only [hfi, Option.map_some, Option.some.injEq, Prod.mk.injEq] at he; obtain ⟨rfl, rfl⟩ := he
        obtain ⟨out, k1, k2⟩ := fill_sound hfi (zero_rel hz σ) pl pr
        refine .same (v' := .agg out) H (op_map rfl (run_build w t _ out ?_)) (VRel.agg_of (by simpa using k2))
        unfold Program.built
        rw [parts_toList]
        simp only [hi, hu, hiz, hie]
        exact k1
    · cases he
  · cases he

theorem buildSlice_sound (H : HRel P B w0 σ h w) (hts : LRel σ ts a.tmps.toList) {t : TypeId} {len : Nat} {ps : Array (Nat × Operand)} (hps : (ps.toList.map (·.2)).all (operandOK P) = true)
    (he : opB P ⟨dst, .buildSlice t len ps, ty, pos, after, guard⟩ ts h = some (v, h')) : OpRes P B w0 σ (execOp a.eval ⟨dst, .buildSlice t len ps, ty, pos, after, guard⟩) w v h' := by
  obtain ⟨pl, pr⟩ := parts_rel H hts hps
  simp only [opB] at he
  split at he
  · rename_i elem hu
    split at he
    · rename_i size z hs hz
      simp only [Option.ite_none_right_eq_some, Bool.and_eq_true, Nat.beq_eq, Nat.ble_eq] at he
      obtain ⟨⟨hzl, hsm⟩, he⟩ := he
      obtain ⟨i, zv, hi, hiz, rfl, hf⟩ := zero_info hz
      cases hfi : fillI (fun i => some (i * size, size)) (zerosI zv.cells.toList len) (ps.toList.map fun p => (p.1, evI ts p.2)) with
      | none => simp [hfi] at he
      | some cs =>
        simp only [hfi, Option.map_some, Option.some.injEq, Prod.mk.injEq] at he; obtain ⟨rfl, rfl⟩ := he
        have hzz : ((Array.range (len * size)).map (fun i => zv.cells[i % zv.cells.size]!)).toList = zerosI zv.cells.toList len := zeros_eq zv.cells len (len * size) (by rw [← hzl]; simp)
        obtain ⟨out, k1, k2⟩ := fill_sound (cells := (Array.range (len * size)).map (fun i => zv.cells[i % zv.cells.size]!)) hfi (by rw [hzz]; exact zeros_rel (zero_rel hz σ) len) pl pr
        refine .push_fix H k2 (t' := elem) (v' := .slice (some ⟨w.heap.size, 0, none⟩) len len) (op_map rfl ?_) slice_new
        rw [← parts_toList] at k1
        have hn : ¬ (len * size > 2 ^ 24) := by omega
        simp only [Instr.buildSlice, Sem.run_bind, run_underlying hu, Result.andThen_ok, sizeOf_run hs, hn, if_false]
        by_cases h0 : len * size = 0
        · have hc : ∀ f : Nat → Value, (Array.range (len * size)).map f = #[] := fun f => by simp [h0]
          rw [hc] at k1
          have k1' : Instr.fill (fun i => some (i * size, size)) #[] (ps.map fun x => (x.fst, a.eval x.snd)).toList = some out := k1
          have hc2 : ∀ f : Nat → Value, (Array.range 0).map f = #[] := fun f => by simp
          simp only [h0, if_true, Sem.run_bind, Sem.run_pure, Result.andThen_ok, hc2, k1']
          simp [newRow, newObj, Sem.run]
        · have hzr : (zeroValue elem).run P w = .ok zv w := by simp [zeroValue, typeInfo, hi, hiz]
          simp only [h0, if_false, Sem.run_bind, hzr, Result.andThen_ok, Sem.run_pure, k1]
          simp [newRow, newObj, Sem.run]
    · cases he
  · cases he

theorem makeSlice_sound (H : HRel P B w0 σ h w) (hts : LRel σ ts a.tmps.toList) {t : TypeId} {x y : Operand} (hx : operandOK P x = true) (hy : operandOK P y = true)
    (he : opB P ⟨dst, .makeSlice t x y, ty, pos, after, guard⟩ ts h = some (v, h')) : OpRes P B w0 σ (execOp a.eval ⟨dst, .makeSlice t x y, ty, pos, after, guard⟩) w v h' := by
  have kx := ev_sound H hts hx
  have ky := ev_sound H hts hy
  simp only [opB] at he
  split at he
  · rename_i elem hu
    split at he
    · rename_i ti z k1 ln k2 cn hti hz ex ey
      simp only [Option.ite_none_right_eq_some, Bool.and_eq_true, Nat.beq_eq, Nat.ble_eq, decide_eq_true_eq, Option.some.injEq, Prod.mk.injEq] at he
      obtain ⟨⟨⟨⟨hzl, h0⟩, h1⟩, h2⟩, rfl, rfl⟩ := he
      obtain ⟨i, zv, hi, hiz, rfl, hf⟩ := zero_info hz
      rw [hti] at hi; simp only [Option.some.injEq] at hi; subst hi
      rw [ex] at kx; rw [ey] at ky
      generalize hqx : a.eval x = qx at kx
      generalize hqy : a.eval y = qy at ky
      cases kx; cases ky
      have hcn : 0 ≤ cn := by omega
      obtain ⟨c, rfl⟩ := Int.eq_ofNat_of_zero_le hcn
      obtain ⟨l, rfl⟩ := Int.eq_ofNat_of_zero_le h0
      simp only [Int.toNat_natCast] at h2 ⊢
      have hm : c * ti.bytes ≤ 1099511627776 := Nat.le_trans (Nat.mul_le_mul_left c (by omega)) h2
      have hm' : ti.bytes * c ≤ 1099511627776 := by rw [Nat.mul_comm]; exact hm
      have hc' : c ≤ 1099511627776 := Nat.le_trans (Nat.le_mul_of_pos_right c (by omega)) h2
      have hlc : l ≤ c := by omega
      have hzz : ((Array.range (c * ti.size)).map (fun i => zv.cells[i % zv.cells.size]!)).toList = zerosI zv.cells.toList c := zeros_eq zv.cells c (c * ti.size) (by rw [← hzl]; simp)
      have hbytes : (ti.bytes : Int) * (c : Int) ≤ 281474976710656 := by
        have h : ((ti.bytes * c : Nat) : Int) ≤ 281474976710656 := by omega
        rwa [Int.natCast_mul] at h
      refine .push_fix H (zeros_rel (zero_rel hz σ) c) (t' := elem) (v' := .slice (some ⟨w.heap.size, 0, none⟩) l c) (op_map rfl ?_) slice_new
      have hwl : IntKind.i64.wrap (l : Int) = (l : Int) := by rw [IntKind.wrap_i64]; omega
      have hwc : IntKind.i64.wrap (c : Int) = (c : Int) := by rw [IntKind.wrap_i64]; omega
      have hno : ((decide ((c : Int) < 0) || decide ((ti.bytes : Int) * (c : Int) > 2 ^ 48)) || decide ((l : Int) < 0) || decide ((l : Int) > (c : Int))) = false := by
        simp only [Bool.or_eq_false_iff, decide_eq_false_iff_not]
        refine ⟨⟨⟨by omega, by omega⟩, by omega⟩, by omega⟩
      have hroom : ¬ (c * ti.bytes > roomBytes) := by unfold roomBytes; omega
      simp only [Instr.makeSlice, Sem.run_bind, run_underlying hu, Result.andThen_ok, hqx, hqy, asInt, asIntOf, Sem.run_pure, typeInfo, run_program, hti, hwl, hwc]
      simp only [hno, Bool.false_eq_true, if_false, Int.toNat_natCast, askRoom, hroom, sizeOf, typeInfo, Sem.run_bind, run_program, Result.andThen_ok, hti, Sem.run_pure]
      by_cases h0 : c * ti.size = 0
      · have hc : zerosI zv.cells.toList c = [] := by rw [← hzz]; simp [h0]
        simp [h0, hc, newRow, newObj, Sem.run, Array.range_zero']
      · have hzr : (zeroValue elem).run P w = .ok zv w := by simp [zeroValue, typeInfo, hti, hiz]
        simp only [h0, if_false, Sem.run_bind, hzr, Result.andThen_ok, Sem.run_pure]
        rw [← hzz, Array.toArray_toList]
        simp [newRow, newObj, Sem.run]
    · cases he
  · cases he

end
end Go.Ideal
