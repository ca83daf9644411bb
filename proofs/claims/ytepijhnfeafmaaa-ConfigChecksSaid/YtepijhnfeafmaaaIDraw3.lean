/- A region that draws its order: the ideal interpreter's answers in the text's order are the model's in every order. Over any program. -/
import Derived.Test.YtepijhnfeafmaaaIDraw2
set_option linter.unusedVariables false
set_option linter.unusedSimpArgs false
namespace Go.Ideal
open Go.RowKit

variable {P : Program} {B : Nat} {w0 : Org} {pf : FuncId → Bool}

/-- From a to a + d no operation changes the heap. -/
def sameR (fl : List Bool) (a : Nat) : Nat → Bool
  | 0 => true
  | d + 1 => fl.getD (a + d) false && sameR fl a d
def sameTo (fl : List Bool) (i m : Nat) : Bool := match Nat.ble i m with
  | true => sameR fl i (m - i)
  | false => sameR fl m (i - m)
/-- Flagged operations leave the heap as it is. -/
def FlagsOK (fl : List Bool) (ents : List Ent) (hf : Heap) : Prop := ∀ j, fl.getD j false = true → heapAt ents hf (j + 1) = heapAt ents hf j
theorem FlagsOK.nil (ents : List Ent) (hf : Heap) : FlagsOK [] ents hf := fun j h => by simp at h
theorem sameR_eq {fl : List Bool} {ents : List Ent} {hf : Heap} (h : FlagsOK fl ents hf) (a : Nat) : ∀ d, sameR fl a d = true → heapAt ents hf (a + d) = heapAt ents hf a
  | 0, _ => rfl
  | d + 1, hs => by
    simp only [sameR, Bool.and_eq_true] at hs
    rw [← Nat.add_assoc, h _ hs.1]
    exact sameR_eq h a d hs.2
theorem sameTo_eq {fl : List Bool} {ents : List Ent} {hf : Heap} (h : FlagsOK fl ents hf) {i m : Nat} (hs : sameTo fl i m = true) : heapAt ents hf m = heapAt ents hf i := by
  unfold sameTo at hs
  split at hs
  · rename_i hb
    have hb := Nat.le_of_ble_eq_true hb
    have := sameR_eq h i _ hs
    rwa [show i + (m - i) = m by omega] at this
  · rename_i hb
    have hb : ¬ i ≤ m := fun h => by rw [Nat.ble_eq_true_of_le h] at hb; cases hb
    have := sameR_eq h m _ hs
    rw [show m + (i - m) = i by omega] at this
    exact this.symm

/-- What is to be the same where a read comes up elsewhere. -/
def readL (P : Program) (pre louds : List Nat) (fl : List Bool) (ents : List Ent) (hf : Heap) (i : Nat) (o : Oper) (e : Ent) : Nat → Option (List (Value × Value))
  | 0 => some []
  | m + 1 => match feasible pre louds i m && !sameTo fl i m with
    | false => readL P pre louds fl ents hf i o e m
    | true => match readL P pre louds fl ents hf i o e m with
      | none => none
      | some l => match opI P o e.ts (heapAt ents hf m) with
        | some (v, _) => some ((v, e.val) :: l)
        | none => none
def readsL (P : Program) (pf : FuncId → Bool) (pre louds : List Nat) (fl : List Bool) (ents : List Ent) (hf : Heap) : Nat → List Oper → List Ent → Option (List (Value × Value))
  | i, o :: r, e :: es => match readsHeap o.op && !isLoud P pf o.op && e.wanted with
    | false => readsL P pf pre louds fl ents hf (i + 1) r es
    | true => match readL P pre louds fl ents hf i o e (ents.length + 1) with
      | none => none
      | some l => match readsL P pf pre louds fl ents hf (i + 1) r es with
        | some l' => some (l ++ l')
        | none => none
  | _, _, _ => some []
def EqL : List (Value × Value) → Prop
  | [] => True
  | [(a, b)] => a = b
  | (a, b) :: r => a = b ∧ EqL r
theorem EqL.all : ∀ {l : List (Value × Value)}, EqL l → ∀ p ∈ l, p.1 = p.2
  | [], _ => fun p hp => by cases hp
  | [(a, b)], h => fun p hp => by simp at hp; subst hp; exact h
  | (a, b) :: c :: r, h => fun p hp => by
    rcases List.mem_cons.1 hp with rfl | hp
    · exact h.1
    · exact EqL.all h.2 p hp
theorem readL_spec {pre louds : List Nat} {fl : List Bool} {ents : List Ent} {hf : Heap} {i : Nat} {o : Oper} {e : Ent} (hfl : FlagsOK fl ents hf) (h0 : ∃ h2, opI P o e.ts (heapAt ents hf i) = some (e.val, h2)) : ∀ (k : Nat) (l : List (Value × Value)), readL P pre louds fl ents hf i o e k = some l → (∀ p ∈ l, p.1 = p.2) → ∀ m, m < k → feasible pre louds i m = true →
    ∃ v h2, opI P o e.ts (heapAt ents hf m) = some (v, h2) ∧ v = e.val
  | 0, _, _, _, m, hm, _ => absurd hm (Nat.not_lt_zero _)
  | k + 1, l, hr, hl, m, hm, hfe => by
    simp only [readL] at hr
    split at hr
    · rename_i hno
      rcases Nat.lt_or_ge m k with h | h
      · exact readL_spec hfl h0 k l hr hl m h hfe
      · obtain rfl : m = k := by omega
        rw [hfe, Bool.true_and, Bool.not_eq_false'] at hno
        obtain ⟨h2, h0⟩ := h0
        exact ⟨e.val, h2, by rw [sameTo_eq hfl hno]; exact h0, rfl⟩
    · split at hr
      · cases hr
      · rename_i l0 hl0
        split at hr
        · rename_i v h2 hv
          simp only [Option.some.injEq] at hr; subst hr
          rcases Nat.lt_or_ge m k with h | h
          · exact readL_spec hfl h0 k l0 hl0 (fun p hp => hl p (List.mem_cons_of_mem _ hp)) m h hfe
          · obtain rfl : m = k := by omega
            exact ⟨v, h2, hv, hl (v, e.val) (List.mem_cons_self ..)⟩
        · cases hr
theorem readsL_spec {pre louds : List Nat} {fl : List Bool} {ents : List Ent} {hf : Heap} : ∀ (l : List Oper) (es : List Ent) (k : Nat) (L : List (Value × Value)), readsL P pf pre louds fl ents hf k l es = some L → (∀ p ∈ L, p.1 = p.2) → ∀ (i : Nat) (o : Oper) (e : Ent), l[i]? = some o → es[i]? = some e →
    readsHeap o.op = true → isLoud P pf o.op = false → e.wanted = true → ∃ L', readL P pre louds fl ents hf (k + i) o e (ents.length + 1) = some L' ∧ ∀ p ∈ L', p.1 = p.2
  | [], _, _, _, _, _, i, o, e, h, _, _, _, _ => by simp at h
  | _ :: _, [], _, _, _, _, i, o, e, _, h, _, _, _ => by simp at h
  | o' :: l, e' :: es, k, L, hr, hL, i, o, e, hi, he, h1, h2, h3 => by
    simp only [readsL] at hr
    split at hr
    · rename_i hno
      cases i with
      | zero =>
        simp only [List.getElem?_cons_zero, Option.some.injEq] at hi he; subst hi; subst he
        rw [h1, h2, h3] at hno; cases hno
      | succ i =>
        have := readsL_spec l es (k + 1) L hr hL i o e (by simpa using hi) (by simpa using he) h1 h2 h3
        rwa [show k + 1 + i = k + (i + 1) by omega] at this
    · split at hr
      · cases hr
      · rename_i l1 hl1
        split at hr
        · rename_i l2 hl2
          simp only [Option.some.injEq] at hr; subst hr
          cases i with
          | zero =>
            simp only [List.getElem?_cons_zero, Option.some.injEq] at hi he; subst hi; subst he
            exact ⟨l1, hl1, fun p hp => hL p (List.mem_append_left _ hp)⟩
          | succ i =>
            have := readsL_spec l es (k + 1) l2 hl2 (fun p hp => hL p (List.mem_append_right _ hp)) i o e (by simpa using hi) (by simpa using he) h1 h2 h3
            rwa [show k + 1 + i = k + (i + 1) by omega] at this
        · cases hr

/-- What is known of a region and of its run in the text's order. -/
structure Reg (P : Program) (B : Nat) (w0 : Org) (pf : FuncId → Bool) (call : Nat → CallI) (ops : Array Oper) (ents : List Ent) (ts tf : List Value) (hf : Heap) : Prop where
  sound : ∀ k, CallSound P B w0 (call k)
  pure : ∀ k, PureCall (call k) pf
  ok : ops.toList.all (operOK P) = true
  len : ents.length = ops.size
  ts0 : tsAt ents tf 0 = ts
  step : ∀ (i : Nat) (o : Oper), ops[i]? = some o → ∃ e, Step P call ops.toList ents tf hf i o e
  edges : ∀ (i : Nat) (o : Oper), ops[i]? = some o → ∀ e ∈ o.after, Region.binds .any e = true → e.on < i
  pairs : ∀ (i j : Nat) (oi oj : Oper), i < j → ops[i]? = some oi → ops[j]? = some oj → ((pres ops.toList []).getD j 0).testBit i = true ∨ (oi.apart ops oj = true ∧ (isLoud P pf oi.op && isLoud P pf oj.op) = false)
  bits : ∀ (i : Nat) (o : Oper), ops[i]? = some o → ∀ j, ((pres ops.toList []).getD i 0).testBit j = true → ∃ e ∈ o.after, Region.binds .any e = true ∧ (e.on = j ∨ ((pres ops.toList []).getD e.on 0).testBit j = true)
  reads : (∀ (i : Nat) (o : Oper), ops[i]? = some o → readsHeap o.op = true → isLoud P pf o.op = false → ∀ (l : Nat) (ol : Oper), ops[l]? = some ol → isLoud P pf ol.op = true →
    ((pres ops.toList []).getD i 0).testBit l = true ∨ ((pres ops.toList []).getD l 0).testBit i = true ∨ (isLoad o.op = true ∧ i < l ∧ isAlloc ol.op = true)) ∨ ∀ (i : Nat) (o : Oper) (e : Ent), ops[i]? = some o → ents[i]? = some e → readsHeap o.op = true → isLoud P pf o.op = false → e.wanted = true → ∀ m, m ≤ ops.size →
    (∀ (l : Nat) (ol : Oper), ops[l]? = some ol → isLoud P pf ol.op = true → (((pres ops.toList []).getD i 0).testBit l = true → l < m) ∧ (((pres ops.toList []).getD l 0).testBit i = true → m ≤ l)) →
    ∃ h2, opI P o e.ts (heapAt ents hf m) = some (e.val, h2)

variable {call : Nat → CallI} {ops : Array Oper} {ents : List Ent} {ts tf : List Value} {hf : Heap}

theorem Reg.of (hcall : ∀ k, CallSound P B w0 (call k)) (hpure : ∀ k, PureCall (call k) pf) (hok : ops.toList.all (operOK P) = true) {h : Heap} (ht : opsT P call ops.toList ops.toList ts h = some (ents, tf, hf))
    (hp : pairsOK P pf ops (pres ops.toList []) 0 ops.toList = true)
    (hr : drawReads P pf ops ents hf = true ∨ ∃ fl L, FlagsOK fl ents hf ∧ readsL P pf (pres ops.toList []) (loudBits P pf ops.toList 0) fl ents hf 0 ops.toList ents = some L ∧ ∀ p ∈ L, p.1 = p.2) :
    Reg P B w0 pf call ops ents ts tf hf ∧ heapAt ents hf 0 = h := by
  obtain ⟨k1, k2, k3, k4⟩ := trace_facts ht
  obtain ⟨p1, p2⟩ := pairs_spec ops.toList 0 hp
  refine ⟨⟨hcall, hpure, hok, by simpa using k1, k3, fun i o hi => k4 i o (by simpa using hi), fun i o hi e he hb => ?_, fun i j oi oj hij hi hj => ?_, fun i o hi j hb => ?_, ?_⟩, k2⟩
  · have := p1 i o (by simpa using hi)
    simp only [edgesOK, Nat.zero_add] at this
    have := List.all_eq_true.1 this e (by simpa using he)
    simpa [hb] using this
  · have := p2 i j oi oj hij (by simpa using hi) (by simpa using hj)
    simp only [Nat.zero_add, pairOK, Bool.or_eq_true, Bool.and_eq_true, Bool.not_eq_true'] at this
    exact this
  · obtain ⟨e, q1, q2⟩ := pres_bit ops.toList [] i o (by simpa using hi) j (by simpa using hb)
    exact ⟨e, by simpa using q1, q2⟩
  · rw [drawReads, Bool.or_eq_true, or_assoc] at hr
    rcases hr with hr | hr
    · left
      intro i o hi h1 h2 l ol hl hll
      have hmem := louds_mem ops.toList 0 l ol (by simpa using hl) hll
      rw [Nat.zero_add] at hmem
      unfold drawStill at hr
      split at hr
      · rename_i hno; rw [hno] at hmem; cases hmem
      · have := fixed_spec ops.toList 0 hr i o (by simpa using hi) h1 h2 l hmem
        rw [Nat.zero_add] at this
        refine this.imp_right (Or.imp_right fun k => ⟨k.1, k.2.1, ?_⟩)
        have k3 := k.2.2
        unfold allocAt at k3
        rwa [show ops.toList[l]? = some ol by simpa using hl] at k3
    have hfea : ∀ (i m : Nat), (∀ (l : Nat) (ol : Oper), ops[l]? = some ol → isLoud P pf ol.op = true → (((pres ops.toList []).getD i 0).testBit l = true → l < m) ∧ (((pres ops.toList []).getD l 0).testBit i = true → m ≤ l)) → feasible (pres ops.toList []) (loudBits P pf ops.toList 0) i m = true := fun i m hfe => (by
      refine List.all_eq_true.2 fun l hl => ?_
      obtain ⟨l', ol, e1, e2, e3⟩ := louds_spec ops.toList 0 l hl
      rw [Nat.zero_add] at e1; subst e1
      obtain ⟨f1, f2⟩ := hfe l ol (by simpa using e2) e3
      simp only [Bool.and_eq_true, Bool.or_eq_true, Bool.not_eq_true', Nat.blt_eq, Nat.ble_eq]
      refine ⟨?_, ?_⟩
      · cases hb : ((pres ops.toList []).getD i 0).testBit l with
        | false => exact .inl rfl
        | true => exact .inr (f1 hb)
      · cases hb : ((pres ops.toList []).getD l 0).testBit i with
        | false => exact .inl rfl
        | true => exact .inr (f2 hb))
    right
    intro i o e hi he h1 h2 h3 m hm hfe
    rcases hr with hr | ⟨fl, L, hfl, hr, hL⟩
    · have := reads_spec ops.toList ents 0 hr i o e (by simpa using hi) he h1 h2 h3
      rw [Nat.zero_add] at this
      obtain ⟨v, h2', q1, q2⟩ := readOK_spec (ents.length + 1) this m (by rw [k1]; simp; omega) (hfea i m hfe)
      subst q2
      exact ⟨h2', q1⟩
    · obtain ⟨L', e1, e2⟩ := readsL_spec ops.toList ents 0 L hr hL i o e (by simpa using hi) he h1 h2 h3
      rw [Nat.zero_add] at e1
      have h0 : ∃ h2, opI P o e.ts (heapAt ents hf i) = some (e.val, h2) := by
        obtain ⟨e', s⟩ := k4 i o (by simpa using hi)
        have : e' = e := by have := s.at_; rw [he] at this; exact (Option.some.inj this).symm
        subst this
        have hy := s.yes h3
        rw [s.h] at hy
        rw [operI_reads h1] at hy
        exact ⟨_, hy⟩
      obtain ⟨v, h2', q1, q2⟩ := readL_spec hfl h0 (ents.length + 1) L' e1 e2 m (by rw [k1]; simp; omega) (hfea i m hfe)
      subst q2
      exact ⟨h2', q1⟩

theorem Reg.heap_step (R : Reg P B w0 pf call ops ents ts tf hf) {i : Nat} {o : Oper} (hi : ops[i]? = some o) (hq : isLoud P pf o.op = false) : heapAt ents hf (i + 1) = heapAt ents hf i := by
  obtain ⟨e, s⟩ := R.step i o hi
  cases hw : e.wanted with
  | false => rw [(s.no hw).2, s.h]
  | true =>
    rw [(quietI_heap (R.pure i) hq (s.yes hw)).1, s.h]

theorem Reg.heap_const (R : Reg P B w0 pf call ops ents ts tf hf) (m : Nat) : ∀ (d : Nat), m + d ≤ ops.size → (∀ (l : Nat) (o : Oper), m ≤ l → l < m + d → ops[l]? = some o → isLoud P pf o.op = false) → heapAt ents hf (m + d) = heapAt ents hf m
  | 0, _, _ => rfl
  | d + 1, hd, hl => by
    have hi : ops[m + d]? = some ops[m + d] := Array.getElem?_eq_getElem (by omega)
    rw [← R.heap_const m d (by omega) fun l o h1 h2 => hl l o h1 (by omega)]
    exact R.heap_step hi (hl _ _ (by omega) (by omega) hi)

def Grows (h h' : Heap) : Prop := ∀ j x, h.get j = some x → h'.get j = some x
theorem rdCells_grows {h h' : Heap} (g : Grows h h') {a : Addr} {n : Nat} {l : List Value} (hr : rdCells h a n = some l) : rdCells h' a n = some l := by
  unfold rdCells at hr ⊢
  cases hb : h.get a.block with
  | none => rw [hb] at hr; cases hr
  | some b => rw [hb] at hr; rw [g _ _ hb]; exact hr
theorem loadI_grows {h h' : Heap} (g : Grows h h') {t : TypeId} {a : Addr} {v : Value} (hl : loadI P h t a = some v) : loadI P h' t a = some v := by
  unfold loadI at hl ⊢
  split at hl
  · obtain ⟨cs, k1, k2⟩ := Option.map_eq_some_iff.1 hl
    rw [rdCells_grows g k1, ← k2]; rfl
  · split at hl
    · rename_i v' hv; rw [rdCells_grows g hv]; exact hl
    · cases hl
  · cases hl

theorem opI_load_grows {h h2 h' : Heap} {o : Oper} {ts : List Value} {v : Value} (ho : isLoad o.op = true) (g : Grows h h2) (he : opI P o ts h = some (v, h')) : opI P o ts h2 = some (v, h2) := by
  obtain ⟨dst, op, ty, pos, after, guard⟩ := o
  cases op <;> first | (cases ho; done) | skip
  rename_i t a2
  unfold opI at he ⊢
  cases hv2 : evI ts a2 with
  | pointer ad0 =>
    have hV : ∀ told, opV P ⟨dst, .load t a2, ty, pos, after, guard⟩ ts told = none := fun told => by simp only [opV, hv2, asPt]
    simp only [hV, opH] at he ⊢
    simp only [opB, hv2] at he ⊢
    cases ad0 with
    | none => cases he
    | some ad =>
      cases hl : loadI P h t ad with
      | none => simp [hl] at he
      | some u =>
        simp only [hl, Option.map_some, Option.some.injEq, Prod.mk.injEq] at he
        simp only [loadI_grows g hl, Option.map_some, he.1]
  | _ =>
    simp only [opB, hv2] at he ⊢
    split at he
    · rename_i v1 l1 hV
      split at he
      · rename_i ht; simp only [Option.some.injEq, Prod.mk.injEq] at he; simp only [ht, he.1]
      · cases he
    · simp only [opH] at he; cases he

theorem Reg.heap_grow (R : Reg P B w0 pf call ops ents ts tf hf) (m : Nat) : ∀ (d : Nat), m + d ≤ ops.size → (∀ (l : Nat) (o : Oper), m ≤ l → l < m + d → ops[l]? = some o → isLoud P pf o.op = true → isAlloc o.op = true) → Grows (heapAt ents hf m) (heapAt ents hf (m + d))
  | 0, _, _ => fun _ _ h => h
  | d + 1, hd, hl => by
    have hi : ops[m + d]? = some ops[m + d] := Array.getElem?_eq_getElem (by omega)
    have ih := R.heap_grow m d (by omega) fun l o h1 h2 => hl l o h1 (by omega)
    cases hq : isLoud P pf ops[m + d].op with
    | false => rw [show m + (d + 1) = m + d + 1 by omega, R.heap_step hi hq]; exact ih
    | true =>
      have ha := hl _ _ (by omega) (by omega) hi hq
      obtain ⟨e, s⟩ := R.step (m + d) _ hi
      intro j x hj
      have hj := ih j x hj
      rw [show m + (d + 1) = m + d + 1 by omega]
      cases hw : e.wanted with
      | false => rw [(s.no hw).2, s.h]; exact hj
      | true =>
        have hy := s.yes hw
        rw [s.h] at hy
        cases ho : ops[m + d].op <;> rw [ho] at ha <;> first | (cases ha; done) | skip
        rename_i t
        rw [show operI P (call (m + d)) ops[m + d] e.ts (heapAt ents hf (m + d)) = opI P ops[m + d] e.ts (heapAt ents hf (m + d)) by simp only [operI, ho]] at hy
        have hB : opI P ops[m + d] e.ts (heapAt ents hf (m + d)) = opB P ops[m + d] e.ts (heapAt ents hf (m + d)) := by
          unfold opI
          cases hq3 : opB P ops[m + d] e.ts (heapAt ents hf (m + d)) with
          | some r => rfl
          | none => simp only [opV, opH, ho]
        rw [hB] at hy
        simp only [opB, ho] at hy
        split at hy
        · simp only [newI, Option.some.injEq, Prod.mk.injEq] at hy
          rw [← hy.2]; exact Heap.push_mono hj
        · cases hy

/-- The frame of the text's order ahead of operation i. -/
theorem Reg.frame (R : Reg P B w0 pf call ops ents ts tf hf) : ∀ (i : Nat), i ≤ ops.size → (tsAt ents tf i).length = ts.length ∧ ∀ t, (tsAt ents tf i).getD t Go.undef = (curL (fun j => decide (j < i)) (valAt ents) ops.toList 0 ts).getD t Go.undef
  | 0, _ => by
    refine ⟨by rw [R.ts0], fun t => ?_⟩
    have : (fun j => decide (j < 0)) = fun _ : Nat => false := by funext j; simp
    rw [R.ts0, this, curL_none]
  | i + 1, hle => by
    obtain ⟨l1, l2⟩ := R.frame i (by omega)
    have hi : ops[i]? = some ops[i] := Array.getElem?_eq_getElem (by omega)
    obtain ⟨e, s⟩ := R.step i _ hi
    have hv : valAt ents i = e.val := by simp [valAt, s.at_]
    refine ⟨by rw [s.next, putI_length, s.ts, l1], fun t => ?_⟩
    rw [s.next, s.ts]
    by_cases hd : ops[i].dst = some t
    · rcases Nat.lt_or_ge t ts.length with hlt | hge
      · rw [hd, putI_eq (by omega)]
        rw [curL_last ops.toList 0 ts i ops[i] (by simp) hd (by simp) hlt fun j oj hj hoj _ => by simp; omega, Nat.zero_add, hv]
      · rw [getD_ge (by rw [putI_length]; omega), getD_ge (by rw [curL_length]; omega)]
    · rw [putI_ne hd, l2]
      refine curL_agree ops.toList 0 ts ts rfl rfl fun j oj hj hdj => ?_
      rw [Nat.zero_add]
      have : j ≠ i := fun e => by
        subst e
        have : ops[j]? = some oj := by simpa using hj
        rw [hi] at this; simp only [Option.some.injEq] at this
        exact hd (by rw [this]; exact hdj)
      simp only [decide_eq_decide]; omega

/-- How many are still to come. -/
def todo (n : Nat) (listed : Array Bool) : Nat := ((List.range n).filter fun i => !listed.getD i true).length

theorem filter_lt {α : Type} {p q : α → Bool} : ∀ {l : List α}, (∀ x ∈ l, q x = true → p x = true) → (∃ x ∈ l, p x = true ∧ q x = false) → (l.filter q).length < (l.filter p).length
  | [], _, ⟨_, h, _⟩ => by cases h
  | a :: l, hpq, ⟨x, hx, hp, hq⟩ => by
    have hle : (l.filter q).length ≤ (l.filter p).length := by
      clear hx
      induction l with
      | nil => simp
      | cons b l ih =>
        have hb := hpq b (by simp)
        have := ih fun y hy => hpq y (by simp at hy ⊢; exact hy.imp id .inr)
        simp only [List.filter_cons]
        cases hqb : q b with
        | false => simp only [Bool.false_eq_true, if_false]; split <;> simp <;> omega
        | true => simp only [hb hqb, if_true, List.length_cons]; omega
    simp only [List.filter_cons]
    rcases List.mem_cons.1 hx with rfl | hx
    · simp only [hp, hq, if_true, Bool.false_eq_true, if_false, List.length_cons]; omega
    · have := filter_lt (l := l) (fun y hy => hpq y (by simp [hy])) ⟨x, hx, hp, hq⟩
      cases hqa : q a with
      | false => simp only [Bool.false_eq_true, if_false]; split <;> simp <;> omega
      | true => simp only [hpq a (by simp) hqa, if_true, List.length_cons]; omega

theorem todo_set {n i : Nat} {listed : Array Bool} (hn : listed.size = n) (hi : listed.getD i true = false) : todo n (listed.setIfInBounds i true) < todo n listed := by
  have hlt : i < listed.size := by
    rcases Nat.lt_or_ge i listed.size with h | h
    · exact h
    · simp [Array.getElem?_eq_none h] at hi
  refine filter_lt (fun x _ hx => ?_) ⟨i, by simp; omega, by simp [hi], by simp [hlt]⟩
  by_cases e : i = x
  · subst e; simp [hlt] at hx
  · rw [getD_set_ne true e] at hx; exact hx

structure Sim (P : Program) (B : Nat) (w0 : Org) (pf : FuncId → Bool) (σ : Sg) (ops : Array Oper) (ents : List Ent) (ts : List Value) (hf : Heap) (listed : Array Bool) (a : Act) (w : World) : Prop where
  size : listed.size = ops.size
  closed : ∀ (i : Nat) (o : Oper), ops[i]? = some o → listed.getD i false = true → ∀ j, ((pres ops.toList []).getD i 0).testBit j = true → listed.getD j false = true
  st : ∃ m σ', σ.le σ' ∧ m ≤ ops.size ∧ (∀ (l : Nat) (o : Oper), ops[l]? = some o → isLoud P pf o.op = true → (listed.getD l false = true ↔ l < m)) ∧ HRel P B w0 σ' (heapAt ents hf m) w ∧
    LRel σ' (curL (fun j => listed.getD j false) (valAt ents) ops.toList 0 ts) a.tmps.toList
  defers : a.defers = []

theorem draw_any (R : Reg P B w0 pf call ops ents ts tf hf) {σ : Sg} {Q : Exit → Act → World → Prop}
    (hQ : ∀ (σ' : Sg) (a' : Act) (w' : World), σ.le σ' → LRel σ' tf a'.tmps.toList → HRel P B w0 σ' hf w' → a'.defers = [] → Q .normal a' w') :
    ∀ (fuel : Nat) (listed : Array Bool) (a : Act) (w : World), Sim P B w0 pf σ ops ents ts hf listed a w → todo ops.size listed ≤ fuel → wpAny P .any ops Q fuel listed a w := by
  /- all have come up -/
  have done : ∀ (listed : Array Bool) (a : Act) (w : World), Sim P B w0 pf σ ops ents ts hf listed a w → (∀ i, i < ops.size → listed.getD i false = true) → Q .normal a w := fun listed a w S hall => by
    obtain ⟨m, σ', k1, k2, k3, k4, k5⟩ := S.st
    have hh : heapAt ents hf m = hf := by
      have := R.heap_const m (ops.size - m) (by omega) fun l o h1 h2 hl => by
        cases hq : isLoud P pf o.op with
        | false => rfl
        | true => have := (k3 l o hl hq).1 (hall l (by omega)); omega
      rw [show m + (ops.size - m) = ops.size by omega] at this
      rw [← this, ← R.len]
      simp [heapAt]
    rw [hh] at k4
    refine hQ σ' a w k1 ?_ k4 S.defers
    obtain ⟨f1, f2⟩ := R.frame ops.size (Nat.le_refl _)
    have htf : tsAt ents tf ops.size = tf := by rw [← R.len]; simp [tsAt]
    rw [htf] at f1 f2
    have hl := k5.len
    rw [curL_length] at hl
    refine LRel.of_getD (by omega) fun t _ => ?_
    rw [f2 t, ← curL_agree (D := fun j => listed.getD j false) ops.toList 0 ts ts rfl rfl fun i o hi _ => by
      have : i < ops.size := by
        have := (List.getElem?_eq_some_iff.1 hi).1
        simpa using this
      rw [Nat.zero_add, hall i this]; simp [this]]
    exact k5.getD t
  /- one is ready as long as not all have come up -/
  have some_ready : ∀ (listed : Array Bool), listed.size = ops.size → Region.ready .any ops listed = [] → ∀ i, i < ops.size → listed.getD i false = true := fun listed hs hr i => by
    induction i using Nat.strongRecOn with
    | _ i ih =>
      intro hi
      cases hb : listed.getD i false with
      | true => rfl
      | false =>
        have hoi : ops[i]? = some ops[i] := Array.getElem?_eq_getElem hi
        have : i ∈ Region.ready .any ops listed := mem_ready.2 ⟨by
          have hlt : i < listed.size := by omega
          simp [hlt] at hb ⊢; exact hb, ops[i], hoi, fun e he hbi => ih e.on (R.edges i _ hoi e he hbi) (by have := R.edges i _ hoi e he hbi; omega)⟩
        rw [hr] at this; cases this
  intro fuel
  induction fuel with
  | zero =>
    intro listed a w S ht
    have hall : ∀ i, i < ops.size → listed.getD i false = true := fun i hi => by
      have h0 : (List.range ops.size).filter (fun i => !listed.getD i true) = [] := List.length_eq_zero_iff.1 (Nat.le_zero.1 ht)
      have := List.filter_eq_nil_iff.1 h0 i (by simpa using hi)
      have hlt : i < listed.size := by rw [S.size]; exact hi
      simpa [hlt] using this
    refine ⟨?_, done listed a w S hall⟩
    unfold Region.ready
    refine List.filter_eq_nil_iff.2 fun i hi => ?_
    have := hall i (by simpa using hi)
    have hlt : i < listed.size := by rw [S.size]; simpa using hi
    simp only [Array.getD_eq_getD_getElem?, Array.getElem?_eq_getElem hlt, Option.getD_some] at this
    simp [hlt, this]
  | succ fuel ih =>
    intro listed a w S ht
    refine ⟨fun hr => done listed a w S (some_ready listed S.size hr), fun i hi => ?_⟩
    obtain ⟨hun, o, ho, hpre⟩ := mem_ready.1 hi
    have hil : i < listed.size := by
      rcases Nat.lt_or_ge i listed.size with h | h
      · exact h
      · simp [Array.getElem?_eq_none h] at hun
    have hin : i < ops.size := by have := S.size; omega
    have hDi : listed.getD i false = false := by simp [hil] at hun ⊢; exact hun
    obtain ⟨m, σ', k1, k2, k3, k4, k5⟩ := S.st
    obtain ⟨e, s⟩ := R.step i o ho
    have hv : valAt ents i = e.val := by simp [valAt, s.at_]
    /- what must come ahead has come -/
    have ahead : ∀ j, ((pres ops.toList []).getD i 0).testBit j = true → listed.getD j false = true := fun j hj => by
      obtain ⟨ed, q1, q2, q3⟩ := R.bits i o ho j hj
      have hon := hpre ed q1 q2
      rcases q3 with rfl | q3
      · exact hon
      · have hlt : ed.on < ops.size := by
          rw [← S.size]
          rcases Nat.lt_or_ge ed.on listed.size with h | h
          · exact h
          · simp [Array.getElem?_eq_none h] at hon
        exact S.closed ed.on _ (Array.getElem?_eq_getElem hlt) hon j q3
    have behind : ∀ j oj, ops[j]? = some oj → ((pres ops.toList []).getD j 0).testBit i = true → listed.getD j false = false := fun j oj hj hb => by
      cases hD : listed.getD j false with
      | false => rfl
      | true => rw [S.closed j oj hj hD i hb] at hDi; cases hDi
    /- the frame agrees at what the operation looks at -/
    have hlen0 := k5.len
    rw [curL_length] at hlen0
    obtain ⟨f1, f2⟩ := R.frame i (by omega)
    have agree : ∀ t ∈ o.looksAt ops, (curL (fun j => listed.getD j false) (valAt ents) ops.toList 0 ts).getD t Go.undef = e.ts.getD t Go.undef := fun t ht => by
      rw [s.ts, f2 t]
      refine curL_agree ops.toList 0 ts ts rfl rfl fun j oj hj hdj => ?_
      rw [Nat.zero_add]
      have hj' : ops[j]? = some oj := by simpa using hj
      rcases Nat.lt_trichotomy j i with hlt | rfl | hgt
      · have : listed.getD j false = true := by
          rcases R.pairs j i oj o hlt hj' ho with h | ⟨h, _⟩
          · exact ahead j h
          · exact absurd ht ((Oper.apart_spec h).1 t hdj)
        rw [this]; simp [hlt]
      · rw [hDi]; simp
      · have : listed.getD j false = false := by
          rcases R.pairs i j o oj hgt ho hj' with h | ⟨h, _⟩
          · exact behind j oj hj' h
          · exact absurd ht ((Oper.apart_spec h).2.2 t hdj)
        rw [this]; simp; omega
    have hops : ∀ x ∈ o.op.operands, evI (curL (fun j => listed.getD j false) (valAt ents) ops.toList 0 ts) x = evI e.ts x := fun x hx => by
      cases x with
      | tmp t => exact agree t (List.mem_append_left _ (List.mem_filterMap.2 ⟨.tmp t, by simpa using hx, rfl⟩))
      | const v => rfl
      | global g => rfl
      | func f => rfl
    have hwant : wantedI o ops.toList (curL (fun j => listed.getD j false) (valAt ents) ops.toList 0 ts) = e.wanted := by
      rw [s.wanted]
      exact wantedI_congr (by rw [curL_length, s.ts, f1]) agree
    /- behind it -/
    have next : ∀ (σ2 : Sg) (m2 : Nat) (w2 : World) (v' : Value), σ'.le σ2 → m2 ≤ ops.size → (∀ (l : Nat) (ol : Oper), ops[l]? = some ol → isLoud P pf ol.op = true → ((listed.setIfInBounds i true).getD l false = true ↔ l < m2)) →
        HRel P B w0 σ2 (heapAt ents hf m2) w2 → VRel σ2 e.val v' → wpAny P .any ops Q fuel (listed.setIfInBounds i true) (a.put o.dst v') w2 := fun σ2 m2 w2 v' q1 q2 q3 q4 q5 => by
      refine ih _ _ _ ⟨by rw [Array.size_setIfInBounds]; exact S.size, fun j oj hj hD j2 hb => ?_, ⟨m2, σ2, Sg.le_trans k1 q1, q2, q3, q4, ?_⟩, by rw [put_defers]; exact S.defers⟩ (by have := todo_set (n := ops.size) S.size hun; omega)
      · refine getD_set_true ?_
        by_cases e1 : i = j
        · subst e1; exact ahead j2 hb
        · rw [getD_set_ne false e1] at hD
          exact S.closed j oj hj hD j2 hb
      · have hk := k5.mono q1
        have hsz : (a.put o.dst v').tmps.toList.length = a.tmps.toList.length := by cases hdd : o.dst <;> simp [Act.put]
        refine LRel.of_getD (by rw [curL_length, hsz]; exact hlen0) fun t _ => ?_
        by_cases hd : o.dst = some t
        · rcases Nat.lt_or_ge t ts.length with hlt | hge
          · rw [curL_last ops.toList 0 ts i o (by simpa using ho) hd (by simp [hil]) hlt fun j oj hj hoj hdj => ?_, Nat.zero_add, hv]
            · have : (a.put o.dst v').tmps.toList.getD t Go.undef = v' := by
                rw [hd]
                have : t < a.tmps.size := by simp at hlen0; omega
                simp [Act.put, this]
              rw [this]; exact q5
            · rw [Nat.zero_add, getD_set_ne false (by omega)]
              have hoj' : ops[j]? = some oj := by simpa using hoj
              rcases R.pairs i j o oj hj ho hoj' with h | ⟨h, _⟩
              · exact behind j oj hoj' h
              · exact absurd hdj ((Oper.apart_spec h).2.1 t hd)
          · rw [getD_ge (by rw [curL_length]; omega), getD_ge (by rw [hsz, ← hlen0]; omega)]
            exact VRel.undef σ2
        · rw [curL_agree (D2 := fun j => listed.getD j false) ops.toList 0 ts ts rfl rfl fun j oj hj hdj => ?_]
          · have : (a.put o.dst v').tmps.toList.getD t Go.undef = a.tmps.toList.getD t Go.undef := by
              cases hdd : o.dst with
              | none => rfl
              | some d =>
                have hne : d ≠ t := fun e => hd (by rw [hdd, e])
                simp [Act.put, List.getElem?_set_ne hne]
            rw [this]; exact hk.getD t
          · rw [Nat.zero_add]
            refine getD_set_ne false fun e1 => ?_
            subst e1
            have : ops[i]? = some oj := by simpa using hj
            rw [ho] at this; simp only [Option.some.injEq] at this
            exact hd (by rw [this]; exact hdj)
    have louds_keep : isLoud P pf o.op = false → ∀ (l : Nat) (ol : Oper), ops[l]? = some ol → isLoud P pf ol.op = true → ((listed.setIfInBounds i true).getD l false = true ↔ l < m) := fun hq l ol hl hll => by
      have : i ≠ l := fun e1 => by subst e1; rw [ho] at hl; simp only [Option.some.injEq] at hl; subst hl; rw [hq] at hll; cases hll
      rw [getD_set_ne false this]
      exact k3 l ol hl hll
    have loud_next : isLoud P pf o.op = true → heapAt ents hf m = heapAt ents hf i ∧ ∀ (l : Nat) (ol : Oper), ops[l]? = some ol → isLoud P pf ol.op = true → ((listed.setIfInBounds i true).getD l false = true ↔ l < i + 1) := fun hq => by
      have hlow : ∀ (l : Nat) (ol : Oper), ops[l]? = some ol → isLoud P pf ol.op = true → l < i → listed.getD l false = true := fun l ol hl hll hlt => by
        rcases R.pairs l i ol o hlt hl ho with h | ⟨_, h⟩
        · exact ahead l h
        · simp [hll, hq] at h
      have hhigh : ∀ (l : Nat) (ol : Oper), ops[l]? = some ol → isLoud P pf ol.op = true → i < l → listed.getD l false = false := fun l ol hl hll hgt => by
        rcases R.pairs i l o ol hgt ho hl with h | ⟨_, h⟩
        · exact behind l ol hl h
        · simp [hll, hq] at h
      have hmi : m ≤ i := by
        rcases Nat.lt_or_ge i m with h | h
        · have := (k3 i o ho hq).2 h; rw [hDi] at this; cases this
        · exact h
      refine ⟨?_, fun l ol hl hll => ?_⟩
      · have := R.heap_const m (i - m) (by omega) fun l ol h1 h2 hl => by
          cases hll : isLoud P pf ol.op with
          | false => rfl
          | true => have := (k3 l ol hl hll).1 (hlow l ol hl hll (by omega)); omega
        rw [show m + (i - m) = i by omega] at this
        exact this.symm
      · rcases Nat.lt_trichotomy l i with hlt | rfl | hgt
        · rw [getD_set_ne false (by omega), hlow l ol hl hll hlt]; simp; omega
        · simp [hil]
        · rw [getD_set_ne false (by omega), hhigh l ol hl hll hgt]; simp; omega
    unfold wpOp
    simp only [ho]
    rw [← wanted_rel (a := a) k5, hwant]
    cases hw : e.wanted with
    | false =>
      simp only [Bool.false_eq_true, if_false]
      obtain ⟨n1, n2⟩ := s.no hw
      have hvr : ∀ σ2, VRel σ2 e.val Go.undef := fun σ2 => by rw [n1]; exact VRel.undef σ2
      cases hq : isLoud P pf o.op with
      | false => exact next σ' m w _ (Sg.le_refl _) k2 (louds_keep hq) k4 (hvr _)
      | true =>
        obtain ⟨l1, l2⟩ := loud_next hq
        refine next σ' (i + 1) w _ (Sg.le_refl _) (by omega) l2 ?_ (hvr _)
        rw [n2, s.h, ← l1]; exact k4
    | true =>
      simp only [if_true]
      left
      have hok : operOK P o = true := List.all_eq_true.1 R.ok o (by simpa using Array.mem_of_getElem? ho)
      have hyes := s.yes hw
      cases hq : isLoud P pf o.op with
      | true =>
        obtain ⟨l1, l2⟩ := loud_next hq
        refine oper_wp (v := e.val) (h' := heapAt ents hf (i + 1)) (R.sound i) k4 k5 hok ?_ fun σ2 w2 v' q1 q2 q3 => next σ2 (i + 1) w2 v' q1 (by omega) l2 q3 q2
        rw [operI_congr P (call i) _ hops, l1, ← s.h]; exact hyes
      | false =>
        obtain ⟨hq2, hq3⟩ := quietI_heap (R.pure i) hq hyes
        have hopm : operI P (call i) o e.ts (heapAt ents hf m) = some (e.val, heapAt ents hf m) := by
          cases hr : readsHeap o.op with
          | false => exact hq3 hr _
          | true =>
            rcases R.reads with hfix | hreads
            · have pre_lt : ∀ (x : Nat) (ox : Oper), ops[x]? = some ox → ∀ j, ((pres ops.toList []).getD x 0).testBit j = true → j < x := fun x => by
                induction x using Nat.strongRecOn with
                | _ x ihx =>
                  intro ox hx j hj
                  obtain ⟨ed, q1, q2, q3⟩ := R.bits x ox hx j hj
                  have hlt := R.edges x ox hx ed q1 q2
                  rcases q3 with rfl | q3
                  · exact hlt
                  · have hxs : x < ops.size := (Array.getElem?_eq_some_iff.1 hx).1
                    have := ihx ed.on hlt _ (Array.getElem?_eq_getElem (by omega)) j q3
                    omega
              cases hL : isLoad o.op with
              | true =>
                have hlo : ∀ (l : Nat) (ol : Oper), ops[l]? = some ol → isLoud P pf ol.op = true → l < i → l < m := fun l ol hl hll hlt => by
                  rcases hfix i o ho hr hq l ol hl hll with hb | hb | hb
                  · exact (k3 l ol hl hll).1 (ahead l hb)
                  · have h1 := pre_lt l ol hl i hb; omega
                  · omega
                have hhi : ∀ (l : Nat) (ol : Oper), ops[l]? = some ol → isLoud P pf ol.op = true → i ≤ l → l < m → isAlloc ol.op = true := fun l ol hl hll h1 h2 => by
                  rcases hfix i o ho hr hq l ol hl hll with hb | hb | hb
                  · have h1 := pre_lt i o ho l hb; omega
                  · have h3 := behind l ol hl hb
                    rw [(k3 l ol hl hll).2 h2] at h3; cases h3
                  · exact hb.2.2
                have hg : Grows (heapAt ents hf i) (heapAt ents hf m) := by
                  rcases Nat.le_total m i with hle | hle
                  · have := R.heap_const m (i - m) (by omega) fun l ol h1 h2 hl => by
                      cases hll : isLoud P pf ol.op with
                      | false => rfl
                      | true => have := hlo l ol hl hll (by omega); omega
                    rw [show m + (i - m) = i by omega] at this; rw [this]; exact fun _ _ h => h
                  · have := R.heap_grow i (m - i) (by omega) fun l ol h1 h2 hl hll => hhi l ol hl hll h1 (by omega)
                    rw [show i + (m - i) = m by omega] at this; exact this
                rw [s.h] at hyes
                rw [show operI P (call i) o e.ts (heapAt ents hf m) = opI P o e.ts (heapAt ents hf m) from operI_reads hr _ _]
                rw [operI_reads hr] at hyes
                exact opI_load_grows hL hg hyes
              | false =>
              have hiff : ∀ (l : Nat) (ol : Oper), ops[l]? = some ol → isLoud P pf ol.op = true → (l < m ↔ l < i) := fun l ol hl hll => by
                rcases hfix i o ho hr hq l ol hl hll with hb | hb | hb
                · have h1 := pre_lt i o ho l hb
                  have h2 := (k3 l ol hl hll).1 (ahead l hb)
                  omega
                · have h1 := pre_lt l ol hl i hb
                  have h2 := behind l ol hl hb
                  have h3 : ¬ l < m := fun h => by rw [(k3 l ol hl hll).2 h] at h2; cases h2
                  omega
                · rw [hL] at hb; exact absurd hb.1 (by simp)
              have hm0 : heapAt ents hf m = heapAt ents hf i := by
                rcases Nat.le_total m i with hle | hle
                · have := R.heap_const m (i - m) (by omega) fun l ol h1 h2 hl => by
                    cases hll : isLoud P pf ol.op with
                    | false => rfl
                    | true => have := hiff l ol hl hll; omega
                  rw [show m + (i - m) = i by omega] at this; exact this.symm
                · have := R.heap_const i (m - i) (by omega) fun l ol h1 h2 hl => by
                    cases hll : isLoud P pf ol.op with
                    | false => rfl
                    | true => have := hiff l ol hl hll; omega
                  rw [show i + (m - i) = m by omega] at this; exact this
              rw [hm0, ← s.h, hyes, hq2]
            obtain ⟨h2, hh⟩ := hreads i o e ho s.at_ hr hq hw m k2 fun l ol hl hll => ⟨fun hb => (k3 l ol hl hll).1 (ahead l hb), fun hb => by
              have := behind l ol hl hb
              rcases Nat.lt_or_ge l m with h | h
              · rw [(k3 l ol hl hll).2 h] at this; cases this
              · exact h⟩
            rw [operI_reads hr, hh, quiet_heap hq hh]
        refine oper_wp (v := e.val) (h' := heapAt ents hf m) (R.sound i) k4 k5 hok ?_ fun σ2 w2 v' q1 q2 q3 => next σ2 m w2 v' q1 k2 (louds_keep hq) q3 q2
        rw [operI_congr P (call i) _ hops]; exact hopm

theorem draw_soundL (hm : P.follows .mixedOrders = true) (hcall : ∀ k, CallSound P B w0 (call k)) (hpure : ∀ k, PureCall (call k) pf) (hok : ops.toList.all (operOK P) = true) {h : Heap} (ht : opsT P call ops.toList ops.toList ts h = some (ents, tf, hf))
    (hp : pairsOK P pf ops (pres ops.toList []) 0 ops.toList = true)
    (hr : drawReads P pf ops ents hf = true ∨ ∃ fl L, FlagsOK fl ents hf ∧ readsL P pf (pres ops.toList []) (loudBits P pf ops.toList 0) fl ents hf 0 ops.toList ents = some L ∧ ∀ p ∈ L, p.1 = p.2)
    {σ : Sg} {a : Act} {w : World} (H : HRel P B w0 σ h w) (hts : LRel σ ts a.tmps.toList) (hd : a.defers = []) {id : Nat} {Q : Exit → Act → World → Prop}
    (hQ : ∀ (σ' : Sg) (a' : Act) (w' : World), σ.le σ' → LRel σ' tf a'.tmps.toList → HRel P B w0 σ' hf w' → a'.defers = [] → Q .normal a' w') : (Code.region id ops true).wp P Q a w := by
  obtain ⟨R, h0⟩ := Reg.of hcall hpure hok ht hp hr
  have hrep : ∀ j, (Array.replicate ops.size false).getD j false = false := fun j => by
    simp only [Array.getD_eq_getD_getElem?, Array.getElem?_replicate]
    split <;> rfl
  refine wp_region_any hm (draw_any R hQ ops.size _ a _ ⟨by simp, fun i o hi hD => ?_, ⟨0, σ, Sg.le_refl σ, Nat.zero_le _, fun l o hl _ => ?_, by rw [h0]; exact H.drew, ?_⟩, hd⟩ ?_)
  · rw [hrep] at hD; cases hD
  · rw [hrep]; simp
  · have : (fun j => (Array.replicate ops.size false).getD j false) = fun _ => false := by
      funext j
      exact hrep j
    rw [this, curL_none]; exact hts
  · unfold todo
    exact Nat.le_trans (List.length_filter_le _ _) (by simp)

theorem draw_sound (hm : P.follows .mixedOrders = true) (hcall : ∀ k, CallSound P B w0 (call k)) (hpure : ∀ k, PureCall (call k) pf) (hok : ops.toList.all (operOK P) = true) {h : Heap} (ht : opsT P call ops.toList ops.toList ts h = some (ents, tf, hf))
    (hp : pairsOK P pf ops (pres ops.toList []) 0 ops.toList = true) (hr : drawReads P pf ops ents hf = true)
    {σ : Sg} {a : Act} {w : World} (H : HRel P B w0 σ h w) (hts : LRel σ ts a.tmps.toList) (hd : a.defers = []) {id : Nat} {Q : Exit → Act → World → Prop}
    (hQ : ∀ (σ' : Sg) (a' : Act) (w' : World), σ.le σ' → LRel σ' tf a'.tmps.toList → HRel P B w0 σ' hf w' → a'.defers = [] → Q .normal a' w') : (Code.region id ops true).wp P Q a w :=
  draw_soundL hm hcall hpure hok ht hp (.inl hr) H hts hd hQ

end Go.Ideal
