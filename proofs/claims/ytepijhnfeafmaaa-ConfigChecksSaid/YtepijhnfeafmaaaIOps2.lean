/- Each operation of the ideal interpreter answers as the model's, whatever the world: the operations, one by one. Over any program. -/
import Derived.Test.YtepijhnfeafmaaaIOps
set_option linter.unusedVariables false
set_option linter.unusedSimpArgs false
namespace Go.Ideal
open Go.RowKit

variable {P : Program} {B : Nat} {w0 : Org}

def OpRes (P : Program) (B : Nat) (w0 : Org) (σ : Sg) (e : Sem Next) (w : World) (v : Value) (h' : Heap) : Prop :=
  ∃ σ' w' nx v', σ.le σ' ∧ e.run P w = .ok nx w' ∧ (nx = .value v' ∨ (nx = .skip ∧ v' = Go.undef)) ∧ VRel σ' v v' ∧ HRel P B w0 σ' h' w'

theorem OpRes.same {σ : Sg} {e : Sem Next} {w : World} {v v' : Value} {h : Heap} (H : HRel P B w0 σ h w) (hr : e.run P w = .ok (.value v') w) (hv : VRel σ v v') : OpRes P B w0 σ e w v h :=
  ⟨σ, w, _, v', Sg.le_refl σ, hr, .inl rfl, hv, H⟩

theorem ev_sound {w : World} {σ : Sg} {h : Heap} (H : HRel P B w0 σ h w) {ts : List Value} {a : Act} (hts : LRel σ ts a.tmps.toList) {x : Operand} (hx : operandOK P x = true) : VRel σ (evI ts x) (a.eval x) := by
  cases x with
  | tmp t => have := hts.getD t; simpa [evI, Act.eval] using this
  | const v => exact flat_rel hx σ
  | global g =>
    simp only [operandOK, Nat.blt_eq] at hx
    have := VRel.ptr (off := 0) (H.glob g hx)
    simpa [evI, Act.eval] using this
  | func f => exact VRel.func_of .nil .nil

theorem flat_ev {w : World} {σ : Sg} {h : Heap} (H : HRel P B w0 σ h w) {ts : List Value} {a : Act} (hts : LRel σ ts a.tmps.toList) {x : Operand} (hx : operandOK P x = true) (hf : flatOp ts x = true) : a.eval x = evI ts x := by
  have := ev_sound H hts hx
  cases x with
  | global g => simp [flatOp] at hf
  | tmp t => exact flat_eq hf this
  | const v => rfl
  | func f => rfl

theorem op_map {o : Oper} {ρ : Operand → Value} {s : Sem Value} {v : Value} {w w' : World} (ho : execOp ρ o = (do pure (.value (← s)))) (hs : s.run P w = .ok v w') : (execOp ρ o).run P w = .ok (.value v) w' := by
  rw [ho]; simp [hs]
theorem op_unit {o : Oper} {ρ : Operand → Value} {s : Sem Unit} {w w' : World} (ho : execOp ρ o = (do s; pure .skip)) (hs : s.run P w = .ok () w') : (execOp ρ o).run P w = .ok .skip w' := by
  rw [ho]; simp [hs]

theorem OpRes.push_fix {σ : Sg} {e : Sem Next} {w : World} {h : Heap} {cs cs' : List Value} {t t' : TypeId} (H : HRel P B w0 σ h w) (hc : LRel σ cs cs') {v : Value} {v' : Value}
    (hr : e.run P w = .ok (.value v') (w.alloc (.cells cs'.toArray t')))
    (hv : VRel (σ.put h.next ⟨w.heap.size, 0, .exact⟩) v v') : OpRes P B w0 σ e w v (h.push (.cells cs t .fix)) := by
  obtain ⟨k1, k2⟩ := H.push_fix (t := t) (t' := t') hc
  exact ⟨_, _, _, _, k2, hr, .inl rfl, hv, k1⟩

theorem ptr_new {σ : Sg} {h : Heap} {n : Nat} {k : SK} : VRel (σ.put h.next ⟨n, 0, k⟩) (.pointer (some ⟨h.next, 0, none⟩)) (.pointer (some ⟨n, 0, none⟩)) := by
  have := VRel.ptr (off := 0) (Sg.put_self σ h.next ⟨n, 0, k⟩)
  simpa using this
theorem slice_new {σ : Sg} {h : Heap} {n : Nat} {l c : Nat} : VRel (σ.put h.next ⟨n, 0, .exact⟩) (.slice (some ⟨h.next, 0, none⟩) l c) (.slice (some ⟨n, 0, none⟩) l c) := by
  have := VRel.sfix (off := 0) (n := l) (c := c) (Sg.put_self σ h.next ⟨n, 0, .exact⟩)
  simpa using this

section
variable {w : World} {σ : Sg} {h h' : Heap} {ts : List Value} {a : Act} {v : Value} {dst : Option Tmp} {ty : TypeId} {pos : String} {after : Array Edge} {guard : Option (Nat × Bool)}

theorem pick_sound (H : HRel P B w0 σ h w) (hts : LRel σ ts a.tmps.toList) {c x y : Operand} (hc : operandOK P c = true) (hx : operandOK P x = true) (hy : operandOK P y = true)
    (he : opB P ⟨dst, .pick c x y, ty, pos, after, guard⟩ ts h = some (v, h')) : OpRes P B w0 σ (execOp a.eval ⟨dst, .pick c x y, ty, pos, after, guard⟩) w v h' := by
  have k := ev_sound H hts hc
  simp only [opB] at he
  split at he
  · rename_i e; rw [e] at k; generalize hq : a.eval c = q at k; cases k
    simp only [Option.some.injEq, Prod.mk.injEq] at he; obtain ⟨rfl, rfl⟩ := he
    exact .same H (by simp [execOp, hq, asBool]) (ev_sound H hts hx)
  · rename_i e; rw [e] at k; generalize hq : a.eval c = q at k; cases k
    simp only [Option.some.injEq, Prod.mk.injEq] at he; obtain ⟨rfl, rfl⟩ := he
    exact .same H (by simp [execOp, hq, asBool]) (ev_sound H hts hy)
  · cases he

theorem alloc_sound (H : HRel P B w0 σ h w) {t : TypeId}
    (he : opB P ⟨dst, .alloc t, ty, pos, after, guard⟩ ts h = some (v, h')) : OpRes P B w0 σ (execOp a.eval ⟨dst, .alloc t, ty, pos, after, guard⟩) w v h' := by
  simp only [opB] at he
  split at he
  · rename_i z hz
    simp only [newI, Option.some.injEq, Prod.mk.injEq] at he; obtain ⟨rfl, rfl⟩ := he
    obtain ⟨zv, k1, k2, k3⟩ := zero_run hz w
    refine .push_fix H (zero_rel hz σ) (t' := t) (v' := .pointer (some ⟨w.heap.size, 0, none⟩)) ?_ ptr_new
    refine op_map rfl ?_
    subst k2
    simp [Instr.alloc, k1, newVar, newRow, newObj, Sem.run]
  · cases he

theorem box_sound (H : HRel P B w0 σ h w) (hts : LRel σ ts a.tmps.toList) {t : TypeId} {x : Operand} (hx : operandOK P x = true)
    (he : opB P ⟨dst, .box t x, ty, pos, after, guard⟩ ts h = some (v, h')) : OpRes P B w0 σ (execOp a.eval ⟨dst, .box t x, ty, pos, after, guard⟩) w v h' := by
  simp only [opB, newI, Option.some.injEq, Prod.mk.injEq] at he; obtain ⟨rfl, rfl⟩ := he
  refine .push_fix H (ev_sound H hts hx).cells (t' := t) (v' := .pointer (some ⟨w.heap.size, 0, none⟩)) ?_ ptr_new
  refine op_map rfl ?_
  simp [Instr.box, newVar, newRow, newObj, Sem.run]

theorem load_op_sound (H : HRel P B w0 σ h w) (hts : LRel σ ts a.tmps.toList) {t : TypeId} {x : Operand} (hx : operandOK P x = true)
    (he : opB P ⟨dst, .load t x, ty, pos, after, guard⟩ ts h = some (v, h')) : OpRes P B w0 σ (execOp a.eval ⟨dst, .load t x, ty, pos, after, guard⟩) w v h' := by
  have k := ev_sound H hts hx
  simp only [opB] at he
  split at he
  · rename_i ad e
    rw [e] at k
    obtain ⟨ad', e', hA⟩ := k.ptr_inv
    cases hl : loadI P h t ad with
    | none => simp [hl] at he
    | some u =>
      simp only [hl, Option.map_some, Option.some.injEq, Prod.mk.injEq] at he; obtain ⟨rfl, rfl⟩ := he
      obtain ⟨v', k1, k2⟩ := load_sound H hl hA
      exact .same H (op_map rfl (by simp [Instr.loadAt, Instr.sureAddr, e', k1])) k2
  · cases he

theorem store_op_sound (H : HRel P B w0 σ h w) (hts : LRel σ ts a.tmps.toList) {t : TypeId} {x y : Operand} (hx : operandOK P x = true) (hy : operandOK P y = true)
    (he : opB P ⟨dst, .store t x y, ty, pos, after, guard⟩ ts h = some (v, h')) : OpRes P B w0 σ (execOp a.eval ⟨dst, .store t x y, ty, pos, after, guard⟩) w v h' := by
  have k := ev_sound H hts hx
  simp only [opB] at he
  split at he
  · rename_i ad e
    rw [e] at k
    obtain ⟨ad', e', hA⟩ := k.ptr_inv
    cases hl : storeI P h t ad (evI ts y) with
    | none => simp [hl] at he
    | some u =>
      simp only [hl, Option.map_some, Option.some.injEq, Prod.mk.injEq] at he; obtain ⟨rfl, rfl⟩ := he
      obtain ⟨w', k1, k2⟩ := store_sound H hl hA (ev_sound H hts hy)
      refine ⟨σ, w', _, _, Sg.le_refl σ, op_unit rfl (?_ : (Instr.storeAt t (a.eval x) (a.eval y)).run P w = .ok () w'), .inr ⟨rfl, rfl⟩, VRel.undef σ, k2⟩
      simp [Instr.storeAt, Instr.sureAddr, e', k1]
  · cases he

theorem nilCheck_sound (H : HRel P B w0 σ h w) (hts : LRel σ ts a.tmps.toList) {x : Operand} (hx : operandOK P x = true)
    (he : opB P ⟨dst, .nilCheck x, ty, pos, after, guard⟩ ts h = some (v, h')) : OpRes P B w0 σ (execOp a.eval ⟨dst, .nilCheck x, ty, pos, after, guard⟩) w v h' := by
  have k := ev_sound H hts hx
  simp only [opB] at he
  split at he
  · rename_i ad e
    rw [e] at k
    obtain ⟨ad', e', hA⟩ := k.ptr_inv
    simp only [Option.some.injEq, Prod.mk.injEq] at he; obtain ⟨rfl, rfl⟩ := he
    exact .same (v' := .pointer (some ad')) H (by simp [execOp, e']) (by rw [← e']; exact k)
  · rename_i t u e
    rw [e] at k
    split at he
    · cases he
    · rename_i ht
      simp only [Option.some.injEq, Prod.mk.injEq] at he; obtain ⟨rfl, rfl⟩ := he
      generalize hq : a.eval x = q at k
      cases k with
      | iface _ _ k => exact .same H (by simp [execOp, hq]) (.iface t ht k)
      | frz _ h0 _ => rw [ht] at h0; cases h0
      | osnil => simp [isV] at ht
      | osome => simp [isV] at ht
  · rename_i f p q e
    rw [e] at k
    simp only [Option.some.injEq, Prod.mk.injEq] at he; obtain ⟨rfl, rfl⟩ := he
    generalize hq : a.eval x = r at k
    cases k with
    | func _ ha hc h1 h2 => exact .same H (by simp [execOp, hq]) (.func _ ha hc h1 h2)
  · cases he

theorem field_sound (H : HRel P B w0 σ h w) (hts : LRel σ ts a.tmps.toList) {s : TypeId} {x : Operand} {f : Nat} (hx : operandOK P x = true)
    (he : opB P ⟨dst, .field s x f, ty, pos, after, guard⟩ ts h = some (v, h')) : OpRes P B w0 σ (execOp a.eval ⟨dst, .field s x f, ty, pos, after, guard⟩) w v h' := by
  have k := ev_sound H hts hx
  simp only [opB, fieldOf] at he
  split at he
  · rename_i fl cs hf e
    rw [e] at k
    generalize hq : a.eval x = q at k
    cases k with
    | agg ha hh =>
      rename_i cs'
      split at hf
      · rename_i fields hu
        cases hp : partI P fl.type cs.toList fl.offset with
        | none => simp [hp] at he
        | some u =>
          simp only [hp, Option.map_some, Option.some.injEq, Prod.mk.injEq] at he; obtain ⟨rfl, rfl⟩ := he
          obtain ⟨v', k1, k2⟩ := part_sound (w := w) hp (VRel.agg_list (.agg ha hh))
          exact .same H (op_map rfl (by simp [Instr.field, run_underlying hu, hf, hq, asAgg, k1])) k2
      · cases hf
  · cases he

theorem fieldAddr_sound (H : HRel P B w0 σ h w) (hts : LRel σ ts a.tmps.toList) {s : TypeId} {x : Operand} {f : Nat} (hx : operandOK P x = true)
    (he : opB P ⟨dst, .fieldAddr s x f, ty, pos, after, guard⟩ ts h = some (v, h')) : OpRes P B w0 σ (execOp a.eval ⟨dst, .fieldAddr s x f, ty, pos, after, guard⟩) w v h' := by
  have k := ev_sound H hts hx
  simp only [opB, fieldOf] at he
  split at he
  · rename_i fl ad hf e
    rw [e] at k
    obtain ⟨ad', e', hA⟩ := k.ptr_inv
    split at hf
    · rename_i fields hu
      cases hs : sizeI P fl.type with
      | none => simp [hs] at he
      | some n =>
        cases n with
        | zero => simp [hs] at he
        | succ n =>
          simp only [hs, Option.some.injEq, Prod.mk.injEq] at he; obtain ⟨rfl, rfl⟩ := he
          exact .same H (op_map rfl (by simp [Instr.fieldAt, run_underlying hu, hf, e', Instr.sureAddr, fieldPlace, sizeOf_run hs])) (VRel.ptr_of (hA.add _))
    · cases hf
  · cases he

theorem asInt_rel {x v' : Value} {i : Int} (hi : intI x = some i) (hv : VRel σ x v') : ∃ k, v' = .int k i := by
  cases hv <;> simp [intI, osl] at hi
  subst hi; exact ⟨_, rfl⟩

theorem slice_inv {ad : Addr} {n c : Nat} {v' : Value} (hv : VRel σ (.slice (some ad) n c) v') : ∃ ad' c', v' = .slice (some ad') n c' ∧ (0 < n → ARel σ ad ad') := by
  cases hv with
  | sfix hh => exact ⟨_, _, rfl, fun _ => ⟨_, _, _, hh, rfl, rfl⟩⟩
  | sgrown hh _ _ => exact ⟨_, _, rfl, fun _ => ⟨_, _, _, hh, rfl, rfl⟩⟩
  | sloose hh _ => exact ⟨_, _, rfl, fun hn => absurd hn (Nat.lt_irrefl _)⟩

theorem indexAddr_sound (H : HRel P B w0 σ h w) (hts : LRel σ ts a.tmps.toList) {t : TypeId} {x y : Operand} (hx : operandOK P x = true) (hy : operandOK P y = true)
    (he : opB P ⟨dst, .indexAddr t x y, ty, pos, after, guard⟩ ts h = some (v, h')) : OpRes P B w0 σ (execOp a.eval ⟨dst, .indexAddr t x y, ty, pos, after, guard⟩) w v h' := by
  have k := ev_sound H hts hx
  have ky := ev_sound H hts hy
  simp only [opB] at he
  split at he
  · rename_i i len elem ad hi hu e
    rw [e] at k
    obtain ⟨ad', e', hA⟩ := k.ptr_inv
    obtain ⟨kk, ei⟩ := asInt_rel hi ky
    split at he
    · rename_i size hs
      simp only [Option.ite_none_right_eq_some, Option.some.injEq, Prod.mk.injEq] at he; obtain ⟨hb, rfl, rfl⟩ := he
      exact .same H (op_map rfl (by simp [Instr.indexAt, asIntOf, ei, run_underlying hu, e', Instr.sureAddr, hb, sizeOf_run hs])) (VRel.ptr_of (hA.add _))
    · cases he
  · rename_i i elem ad len cap hi hu e
    rw [e] at k
    obtain ⟨ad', c', e', hA⟩ := slice_inv k
    obtain ⟨kk, ei⟩ := asInt_rel hi ky
    split at he
    · rename_i size hs
      simp only [Option.ite_none_right_eq_some, Option.some.injEq, Prod.mk.injEq] at he; obtain ⟨hb, rfl, rfl⟩ := he
      exact .same H (op_map rfl (by simp [Instr.indexAt, asIntOf, ei, run_underlying hu, e', hb, sizeOf_run hs])) (VRel.ptr_of ((hA (by omega)).add _))
    · cases he
  · cases he

theorem index_sound (H : HRel P B w0 σ h w) (hts : LRel σ ts a.tmps.toList) {t : TypeId} {x y : Operand} (hx : operandOK P x = true) (hy : operandOK P y = true)
    (he : opB P ⟨dst, .index t x y, ty, pos, after, guard⟩ ts h = some (v, h')) : OpRes P B w0 σ (execOp a.eval ⟨dst, .index t x y, ty, pos, after, guard⟩) w v h' := by
  have k := ev_sound H hts hx
  have ky := ev_sound H hts hy
  simp only [opB] at he
  split at he
  · rename_i i len elem cs hi hu e
    rw [e] at k
    obtain ⟨kk, ei⟩ := asInt_rel hi ky
    generalize hq : a.eval x = q at k
    cases k with
    | agg ha hh =>
      split at he
      · rename_i size hs
        simp only [Option.ite_none_right_eq_some] at he
        obtain ⟨hb, he⟩ := he
        cases hp : partI P elem cs.toList (i.toNat * size) with
        | none => simp [hp] at he
        | some u =>
          simp only [hp, Option.map_some, Option.some.injEq, Prod.mk.injEq] at he; obtain ⟨rfl, rfl⟩ := he
          obtain ⟨v', k1, k2⟩ := part_sound (w := w) hp (VRel.agg_list (.agg ha hh))
          exact .same H (op_map rfl (by simp [Instr.index, asIntOf, ei, run_underlying hu, hq, hb, sizeOf_run hs, k1])) k2
      · cases he
  · rename_i i s hi hu e
    rw [e] at k
    obtain ⟨kk, ei⟩ := asInt_rel hi ky
    generalize hq : a.eval x = q at k
    cases k
    split at he
    · rename_i h0
      split at he
      · rename_i b hb
        simp only [Option.some.injEq, Prod.mk.injEq] at he; obtain ⟨rfl, rfl⟩ := he
        refine .same H (op_map rfl ?_) (.int _ _)
        have hb' : s[i.toNat]? = some b := by rw [← hb]; rw [Array.getElem?_toList]; rfl
        simp [Instr.index, asIntOf, ei, run_underlying hu, hq, h0, hb']
      · cases he
    · cases he
  · cases he

theorem extract_sound (H : HRel P B w0 σ h w) (hts : LRel σ ts a.tmps.toList) {x : Operand} {i : Nat} (hx : operandOK P x = true)
    (he : opB P ⟨dst, .extract x i, ty, pos, after, guard⟩ ts h = some (v, h')) : OpRes P B w0 σ (execOp a.eval ⟨dst, .extract x i, ty, pos, after, guard⟩) w v h' := by
  have k := ev_sound H hts hx
  simp only [opB] at he
  split at he
  · rename_i vs e
    rw [e] at k
    generalize hq : a.eval x = q at k
    cases k with
    | tuple ha hh =>
      cases hp : vs.toList[i]? with
      | none => simp [hp] at he
      | some u =>
        simp only [hp, Option.map_some, Option.some.injEq, Prod.mk.injEq] at he; obtain ⟨rfl, rfl⟩ := he
        obtain ⟨v', k1, k2⟩ := (VRel.tuple_list (.tuple ha hh)).get? _ _ hp
        rw [Array.getElem?_toList] at k1
        exact .same H (op_map rfl (by simp [Instr.extract, hq, k1])) k2
  · cases he

theorem makeInterface_sound (H : HRel P B w0 σ h w) (hts : LRel σ ts a.tmps.toList) {t : TypeId} {x : Operand} (hx : operandOK P x = true)
    (he : opB P ⟨dst, .makeInterface t x, ty, pos, after, guard⟩ ts h = some (v, h')) : OpRes P B w0 σ (execOp a.eval ⟨dst, .makeInterface t x, ty, pos, after, guard⟩) w v h' := by
  have k := ev_sound H hts hx
  simp only [opB] at he
  cases hu : P.underlying t with
  | none => simp [hu] at he
  | some d =>
    simp only [hu] at he
    cases d <;> first
      | (simp at he; done)
      | (cases ht : isV t with
         | true => simp [ht] at he
         | false =>
           simp only [ht, Option.some.injEq, Prod.mk.injEq] at he; obtain ⟨rfl, rfl⟩ := he
           exact .same H (op_map rfl (by simp [Instr.makeInterface, run_underlying hu])) (.iface t ht k))

theorem makeFunc_sound (H : HRel P B w0 σ h w) (hts : LRel σ ts a.tmps.toList) {fn : Fn} {x y : Array Operand} (hx : x.toList.all (operandOK P) = true) (hy : y.toList.all (operandOK P) = true)
    (he : opB P ⟨dst, .makeFunc fn x y, ty, pos, after, guard⟩ ts h = some (v, h')) : OpRes P B w0 σ (execOp a.eval ⟨dst, .makeFunc fn x y, ty, pos, after, guard⟩) w v h' := by
  simp only [opB, Option.some.injEq, Prod.mk.injEq] at he; obtain ⟨rfl, rfl⟩ := he
  refine .same (v' := .func fn (x.map a.eval) (y.map a.eval)) H (op_map rfl (by simp [Instr.makeFunc])) (VRel.func_of ?_ ?_)
  · simp only [Array.toList_map, List.toList_toArray]
    exact LRel.map fun z hz => ev_sound H hts (List.all_eq_true.1 hx z hz)
  · simp only [Array.toList_map, List.toList_toArray]
    exact LRel.map fun z hz => ev_sound H hts (List.all_eq_true.1 hy z hz)

theorem typeAssert_sound (H : HRel P B w0 σ h w) (hts : LRel σ ts a.tmps.toList) {x : Operand} {xt at_ : TypeId} {ok : Bool} (hx : operandOK P x = true)
    (he : opB P ⟨dst, .typeAssert x xt at_ ok, ty, pos, after, guard⟩ ts h = some (v, h')) : OpRes P B w0 σ (execOp a.eval ⟨dst, .typeAssert x xt at_ ok, ty, pos, after, guard⟩) w v h' := by
  have k := ev_sound H hts hx
  simp only [opB] at he
  split at he
  · cases he
  · cases he
  · rename_i t u e hn1 hn2
    cases hu : P.underlying at_ with
    | none => exact absurd hu hn2
    | some d =>
      simp only [Option.ite_none_right_eq_some, Option.some.injEq, Prod.mk.injEq] at he; obtain ⟨⟨ht, rfl⟩, rfl, rfl⟩ := he
      rw [e] at k
      generalize hq : a.eval x = q at k
      cases k with
      | frz _ h0 _ => rw [ht] at h0; cases h0
      | osnil => simp [isV] at ht
      | osome => simp [isV] at ht
      | iface _ hti k =>
        rename_i u'
        have hni : ∀ ms, d ≠ .interface ms := fun ms hd => by subst hd; exact hn1 _ hu
        refine .same H (op_map (v := if ok then .tuple #[u', .bool true] else u') rfl ?_) ?_
        · simp only [Instr.typeAssert, Sem.run_bind, run_underlying hu, Result.andThen_ok, hq]
          cases d <;> first | exact absurd rfl (hni _) | (cases ok <;> simp)
        · cases ok
          · simpa using k
          · exact VRel.tuple_of (.cons k (.cons (.bool _) .nil))
  · cases he

end
end Go.Ideal
