/- Each operation of the ideal interpreter answers as the model's: append, copy, conversions, operators. Over any program. -/
import Derived.Test.YtepijhnfeafmaaaIOps4
set_option linter.unusedVariables false
set_option linter.unusedSimpArgs false
namespace Go.Ideal
open Go.RowKit

variable {P : Program} {B : Nat} {w0 : Org}

section
variable {w : World} {σ : Sg} {h h' : Heap}

theorem bytes_take (s : ByteArray) (n : Nat) : (s.extract 0 n).data.toList = s.data.toList.take n := by
  rw [ByteArray.data_extract, Array.toList_extract, List.extract_eq_take_drop]; simp

theorem first_sound (H : HRel P B w0 σ h w) {size n len : Nat} {x x' : Value} {new : List Value} (hf : firstI h size n x = some new) (hl : lenI x = some len) (hn : n ≤ len) (hx : VRel σ x x') :
    ∃ new', (Builtin.firstCells size n x').run P w = .ok new'.toArray w ∧ LRel σ new new' ∧ ((∃ a l c, x = .slice (some a) l c) → new.length = n * size) := by
  cases x <;> simp only [firstI] at hf <;> try (cases hf; done)
  case string s =>
    cases hx
    simp only [Option.some.injEq] at hf; subst hf
    refine ⟨_, ?_, LRel.map (f := fun b : UInt8 => Value.int .u8 b.toNat) (g := fun b : UInt8 => Value.int .u8 b.toNat) fun b _ => .int _ _, fun ⟨a, l, c, e⟩ => by cases e⟩
    simp only [Builtin.firstCells, Sem.run_pure]
    congr 1
    apply Array.toList_inj.1
    rw [Array.toList_map, bytes_take]
  case slice a l c =>
    simp only [lenI, Option.some.injEq] at hl; subst hl
    cases a with
    | none =>
      simp only [Option.some.injEq] at hf; subst hf
      cases hx
      exact ⟨[], by simp [Builtin.firstCells], .nil, fun ⟨a, l, c, e⟩ => by cases e⟩
    | some ad =>
      obtain ⟨ad', c', rfl, hA⟩ := slice_inv hx
      cases n with
      | zero =>
        simp only [Option.some.injEq] at hf; subst hf
        exact ⟨[], by simp [Builtin.firstCells, loadCells, loadCellsFrom], .nil, fun _ => by simp⟩
      | succ n =>
        obtain ⟨cs', k1, k2, k3⟩ := rd_sound H hf (hA (by omega))
        exact ⟨cs', by simp only [Builtin.firstCells]; exact k1, k2, fun _ => k3⟩

/-- A grown block is taken over under a new name. -/
theorem HRel.move (H : HRel P B w0 σ h w) {i b es sz : Nat} {cs : List Value} {t : TypeId} {new : Blk} {o : Obj} (hg : h.get i = some (.cells cs t .grow)) (hx : σ i = some ⟨b, 0, .grown es sz⟩) (hB : B ≤ b)
    (hn : BRel P B (σ.put h.next ⟨b, 0, .grown es sz⟩) (putBlock w b o) h.next new) (hnl : live new = true) :
    HRel P B w0 (σ.put h.next ⟨b, 0, .grown es sz⟩) ((h.set i (.cells [] t .dead)).push new) (putBlock w b o) ∧ σ.le (σ.put h.next ⟨b, 0, .grown es sz⟩) := by
  have hle : σ.le (σ.put h.next ⟨b, 0, .grown es sz⟩) := Sg.le_put H.fresh
  have hb := H.codom _ _ hx
  simp only at hb
  have hin : i ≠ h.next := fun e => by have := H.dom _ _ hx; omega
  have get : ∀ {j blk}, ((h.set i (.cells [] t .dead)).push new).get j = some blk → (j = h.next ∧ blk = new) ∨ (j = i ∧ blk = .cells [] t .dead) ∨ (j ≠ h.next ∧ j ≠ i ∧ h.get j = some blk) := fun {j blk} hj => by
    rw [Heap.get_push, Heap.next_set] at hj
    split at hj
    · rename_i e; simp only [Option.some.injEq] at hj; exact .inl ⟨e, hj.symm⟩
    · rename_i e
      rw [Heap.get_set (Heap.lt_of_get hg)] at hj
      split at hj
      · rename_i e2; simp only [Option.some.injEq] at hj; exact .inr (.inl ⟨e2, hj.symm⟩)
      · rename_i e2; exact .inr (.inr ⟨e, e2, hj⟩)
  have lold : (Blk.cells cs t .grow).loc σ i = some b := loc_some rfl hx
  have lnew : ∀ {y}, new.loc (σ.put h.next ⟨b, 0, .grown es sz⟩) h.next = some y → y = b := fun {y} hy => by
    rw [loc_some hnl (Sg.put_self _ _ _)] at hy; simpa using hy.symm
  have hoff : σ.f.off b := (H.blk _ _ hg).off rfl hx hB
  refine ⟨⟨below_putBlock H.below hB o, by simpa [putBlock] using H.size, fun j y hj => ?_, fun j y hj => ?_, fun g hg' => hle.pl _ _ (H.glob g hg'), fun j blk hj => ?_, fun j k bj bk b' hj hk lj lk hyB => ?_, H.frz.put hb hoff, H.old, fun i n x hx => Nat.lt_succ_of_lt (H.tdom i n x hx)⟩, hle⟩
  · by_cases e : j = h.next
    · subst e; simp [Heap.next_push, Heap.next_set]
    · rw [Sg.put_ne _ _ e] at hj; have := H.dom _ _ hj; simp [Heap.next_push, Heap.next_set]; omega
  · by_cases e : j = h.next
    · subst e; rw [Sg.put_self] at hj; simp only [Option.some.injEq] at hj; subst hj; simpa [putBlock] using hb
    · rw [Sg.put_ne _ _ e] at hj; simpa [putBlock] using H.codom _ _ hj
  · rcases get hj with ⟨rfl, rfl⟩ | ⟨rfl, rfl⟩ | ⟨e1, e2, hj'⟩
    · exact hn
    · trivial
    · refine (H.blk j blk hj').mono hle (fun y hy => ?_) (fun _ _ _ => ⟨rfl, rfl⟩) fun _ => rfl
      rw [putBlock_get _ hb, if_neg]
      intro heq
      exact e2 (H.inj j i blk _ y hj' hg hy (by rw [heq]; exact lold) (by rw [heq]; exact hB))
  · have other : ∀ {j bj}, j ≠ h.next → j ≠ i → h.get j = some bj → bj.loc (σ.put h.next ⟨b, 0, .grown es sz⟩) j = some b' → bj.loc σ j = some b' ∧ b' ≠ b := fun {j bj} e1 e2 hj lj => by
      rw [loc_put e1] at lj
      exact ⟨lj, fun heq => e2 (H.inj j i bj _ b' hj hg lj (by rw [heq]; exact lold) hyB)⟩
    rcases get hj with ⟨rfl, rfl⟩ | ⟨rfl, rfl⟩ | ⟨e1, e2, hj'⟩
    · rcases get hk with ⟨rfl, rfl⟩ | ⟨rfl, rfl⟩ | ⟨f1, f2, hk'⟩
      · rfl
      · cases lk
      · exact absurd (lnew lj) (other f1 f2 hk' lk).2
    · cases lj
    · obtain ⟨lj', hne⟩ := other e1 e2 hj' lj
      rcases get hk with ⟨rfl, rfl⟩ | ⟨rfl, rfl⟩ | ⟨f1, f2, hk'⟩
      · exact absurd (lnew lk) hne
      · cases lk
      · exact H.inj j k bj bk b' hj' hk' lj' (other f1 f2 hk' lk).1 hyB

theorem growBy_le (need : Nat) : ∀ (r c : Nat), c ≤ need + (need + 768) / 4 → Builtin.growBy need r c ≤ need + (need + 768) / 4
  | 0, c, h => h
  | r + 1, c, h => by
    simp only [Builtin.growBy]
    split
    · exact h
    · exact growBy_le need r _ (by omega)
theorem nextcap_le (need old : Nat) (h : old < need) : Builtin.nextslicecap need old ≤ 5 * need := by
  unfold Builtin.nextslicecap
  split
  · omega
  · split
    · omega
    · have := growBy_le need 4 old (by omega)
      omega

theorem cap_ge (need old : Nat) (e : TypeId) (t : Nat) : need ≤ (Question.appendCap need old e).cut t := by simp [Question.cut]

theorem askRoom_run (n : Nat) (w : World) : (askRoom n).run P w = .ok () w := by
  unfold askRoom; split <;> simp [mark, Sem.run]

/-- append, where it must grow. -/
theorem grow_sound (H : HRel P B w0 σ h w) {argTypes : Array TypeId} {st xt elem ty : TypeId} {ti : TypeInfo} {zv : Value} {s' x' : Value} {base' : Option Addr} {sl cap' n : Nat} {old new : List Value}
    (h0 : argTypes[0]? = some st) (h1 : argTypes[1]? = some xt) (hus : P.underlying st = some (.slice elem)) (hux : (∃ e, P.underlying xt = some (.slice e)) ∨ P.underlying xt = some .string)
    (hti : P.info? elem = some ti) (hz : ti.zero = some zv) (hzs : zv.cells.size = ti.size) (hs' : s' = .slice base' sl cap')
    (hlen : ∀ w, (Builtin.lenOf x').run P w = .ok n w) (hneed : cap' < sl + n) (hbig : (sl + n) * (ti.bytes + 1) ≤ 1099511627776)
    (hold : ∃ old', (Builtin.firstCells ti.size sl s').run P { w with drawn := w.drawn + 1 } = .ok old'.toArray { w with drawn := w.drawn + 1 } ∧ LRel σ old old') (hol : old.length = sl * ti.size)
    (hnew : ∃ new', (Builtin.firstCells ti.size n x').run P { w with drawn := w.drawn + 1 } = .ok new'.toArray { w with drawn := w.drawn + 1 } ∧ LRel σ new new') (hnl : new.length = n * ti.size) :
    ∃ σ' w' v', σ.le σ' ∧ (Builtin.append_ argTypes ty #[s', x']).run P w = .ok v' w' ∧ VRel σ' (.slice (some ⟨h.next, 0, none⟩) (sl + n) (sl + n)) v' ∧ HRel P B w0 σ' (h.push (.cells (old ++ new) elem .grow)) w' := by
  have hb1 : (sl + n) * ti.bytes ≤ 1099511627776 := Nat.le_trans (Nat.mul_le_mul_left _ (by omega)) hbig
  have hb2 : sl + n ≤ 1099511627776 := Nat.le_trans (Nat.le_mul_of_pos_right _ (by omega)) hbig
  let w1 : World := { w with drawn := w.drawn + 1 }
  have H1 : HRel P B w0 σ h w1 := H.drew
  obtain ⟨old', o1, o2⟩ := hold
  obtain ⟨new', n1, n2⟩ := hnew
  have o1 : (Builtin.firstCells ti.size sl s').run P w1 = .ok old'.toArray w1 := o1
  have n1 : (Builtin.firstCells ti.size n x').run P w1 = .ok new'.toArray w1 := n1
  let nc := (Question.appendCap (sl + n) cap' elem).cut (w.tape w.drawn (Question.appendCap (sl + n) cap' elem))
  have hnc : sl + n ≤ nc := cap_ge _ _ _ _
  let rest := (Builtin.zeroCells zv.cells (nc - (sl + n))).toList
  have hrl : rest.length = (nc - (sl + n)) * ti.size := by simp [rest, Builtin.zeroCells, hzs]
  have hsz : sizeI P elem = some ti.size := by simp [sizeI, hti]
  have hl1 := o2.len
  have hl2 := n2.len
  have hlen2 : ((old' ++ new') ++ rest).length = nc * ti.size := by
    simp only [List.length_append, hrl, ← hl1, ← hl2, hol, hnl, ← Nat.add_mul]
    congr 1; omega
  obtain ⟨k1, k2⟩ := H1.push_grow (rest := rest) (t := elem) (t' := elem) (fz := (0, 0)) hsz (o2.append n2) (okFrozen_zero _)
  refine ⟨_, _, .slice (some ⟨w1.heap.size, 0, none⟩) (sl + n) nc, k2, ?_, ?_, k1⟩
  · subst hs'
    have hnn : ¬ (sl + n ≤ cap') := by omega
    have hnext : ¬ (Builtin.nextslicecap (sl + n) cap' * ti.bytes > 2 ^ 48) := by
      have := nextcap_le (sl + n) cap' hneed
      have h3 : Builtin.nextslicecap (sl + n) cap' * ti.bytes ≤ 5 * (sl + n) * ti.bytes := Nat.mul_le_mul_right _ this
      rw [Nat.mul_assoc] at h3
      omega
    have hmax : ¬ (((sl + n : Nat) : Int) > IntKind.i64.max) := by rw [IntKind.max_i64]; omega
    have hzr : ∀ w, (zeroValue elem).run P w = .ok zv w := fun w => by simp [zeroValue, typeInfo, hti, hz]
    have hz64 : ∀ w, (typeInfo elem).run P w = .ok ti w := fun w => by simp [typeInfo, hti]
    have hb0 : ¬ (((sl + n : Nat) : Int) > IntKind.i64.max ∧ (False ∨ ti.bytes = 0)) := fun h => hmax h.1
    have hch : (choose (Question.appendCap (sl + n) cap' elem)).run P w = .ok nc w1 := by simp [choose, Sem.run, Question.forced, nc, w1]
    unfold Builtin.append_
    simp only [h0, List.getElem?_toArray, List.getElem?_cons_zero, List.getElem?_cons_succ, Sem.run_bind, run_underlying hus, Result.andThen_ok]
    simp only [sizeOf_run hsz, Result.andThen_ok, h1]
    rcases hux with ⟨e, hx⟩ | hx
    all_goals
      simp only [Sem.run_bind, run_underlying hx, Result.andThen_ok, Sem.run_pure, Bool.false_eq_true, if_false, hlen, hnn, hz64, hb0, hnext, hch, askRoom_run, o1, Bool.not_false, if_true, n1, hzr]
      simp only [newRow, newObj, Sem.run_bind, Sem.run, Result.andThen_ok, Sem.run_pure]
      have he : old'.toArray ++ new'.toArray ++ Builtin.zeroCells zv.cells (nc - (sl + n)) = ((old' ++ new') ++ rest).toArray := by
        apply Array.toList_inj.1; simp [rest]
      rw [he]
      rfl
  · exact (by
      have := VRel.sgrown (σ := σ.put h.next ⟨w1.heap.size, 0, .grown ti.size ((old' ++ new') ++ rest).length⟩) (off := 0) (n := sl + n) (c := sl + n) (c' := nc) (Sg.put_self _ _ _) hnc (by rw [hlen2]; omega)
      simpa using this)

theorem HRel.kill (H : HRel P B w0 σ h w) (i : Nat) (t : TypeId) : HRel P B w0 σ (h.set i (.cells [] t .dead)) w := by
  by_cases hi : i < h.next
  case neg =>
    exact ⟨H.below, H.size, H.dom, H.codom, H.glob, fun j b hj => H.blk j b (by rwa [Heap.get_set_ge hi] at hj), fun j k bj bk b hj hk => H.inj j k bj bk b (by rwa [Heap.get_set_ge hi] at hj) (by rwa [Heap.get_set_ge hi] at hk), H.frz, H.old, H.tdom⟩
  refine ⟨H.below, H.size, H.dom, H.codom, H.glob, fun j b hj => ?_, fun j k bj bk b hj hk lj lk hB => ?_, H.frz, H.old, H.tdom⟩
  · rw [Heap.get_set hi] at hj
    split at hj
    · simp only [Option.some.injEq] at hj; subst hj; trivial
    · exact H.blk j b hj
  · rw [Heap.get_set hi] at hj hk
    split at hj
    · simp only [Option.some.injEq] at hj; subst hj; cases lj
    · split at hk
      · simp only [Option.some.injEq] at hk; subst hk; cases lk
      · exact H.inj j k bj bk b hj hk lj lk hB

theorem LRel.ones {σ : Sg} {l l' : List Value} (h : LRel σ l l') : l.all oneCell = true → l'.all oneCell = true := by
  induction h with
  | nil => exact fun h => h
  | cons k _ ih => intro h; simp only [List.all_cons, Bool.and_eq_true] at h ⊢; exact ⟨by rw [k.oneCell]; exact h.1, ih h.2⟩

theorem zsize_info {t : TypeId} {n : Nat} (h : zsizeI P t = some n) : ∃ i zv, P.info? t = some i ∧ i.zero = some zv ∧ zv.cells.size = n := by
  unfold zsizeI at h
  cases hi : P.info? t with
  | none => simp [hi] at h
  | some i =>
    cases hz : i.zero with
    | none => simp [hi, hz] at h
    | some v => simp only [hi, Option.bind_some, hz, Option.map_some, Option.some.injEq] at h; exact ⟨i, v, rfl, hz, h⟩

theorem len_run {x x' : Value} {n : Nat} (hl : lenI x = some n) (hx : VRel σ x x') (w : World) : (Builtin.lenOf x').run P w = .ok n w := by
  cases hx <;> simp [lenI, osl] at hl <;> subst hl <;> simp [Builtin.lenOf]

theorem first_len {size n len : Nat} {x : Value} {new : List Value} (hf : firstI h size n x = some new) (hl : lenI x = some len) (hn : n ≤ len) (hsz : size = 1 ∨ ∀ s, x ≠ .string s)
    (hnil : ∀ l c, x = .slice none l c → n = 0) (hr : ∀ a l c, x = .slice (some a) l c → new.length = n * size) : new.length = n * size := by
  cases x <;> simp only [firstI] at hf <;> try (cases hf; done)
  case string s =>
    simp only [Option.some.injEq] at hf; subst hf
    simp only [lenI, Option.some.injEq] at hl; subst hl
    rcases hsz with rfl | hsz
    · have hs : s.data.toList.length = s.size := by rw [Array.length_toList]; rfl
      simp only [List.length_map, List.length_take, hs, Nat.mul_one]; omega
    · exact absurd rfl (hsz s)
  case slice a l c =>
    cases a with
    | none => simp only [Option.some.injEq] at hf; subst hf; rw [hnil l c rfl]; simp
    | some ad => exact hr ad l c rfl

/-- append. -/
theorem append_sound (H : HRel P B w0 σ h w) {argTypes : Array TypeId} {st xt elem ty : TypeId} {s s' x x' v : Value} {n size : Nat} {new : List Value}
    (h0 : argTypes[0]? = some st) (h1 : argTypes[1]? = some xt) (hus : P.underlying st = some (.slice elem)) (hux : (∃ e, P.underlying xt = some (.slice e)) ∨ P.underlying xt = some .string)
    (hs : VRel σ s s') (hx : VRel σ x x') (hsz : sizeI P elem = some size) (hl : lenI x = some n) (hf : firstI h size n x = some new) (hnl : new.length = n * size)
    (ha : appendI P h elem s n new = some (v, h')) :
    ∃ σ' w' v', σ.le σ' ∧ (Builtin.append_ argTypes ty #[s', x']).run P w = .ok v' w' ∧ VRel σ' v v' ∧ HRel P B w0 σ' h' w' := by
  obtain ⟨ti, hti, rfl⟩ := size_info hsz
  obtain ⟨new', n1, n2, _⟩ := first_sound H hf hl (Nat.le_refl n) hx
  have hnew : ∃ new', (Builtin.firstCells ti.size n x').run P { w with drawn := w.drawn + 1 } = .ok new'.toArray { w with drawn := w.drawn + 1 } ∧ LRel σ new new' := by
    obtain ⟨new', n1, n2, _⟩ := first_sound H.drew hf hl (Nat.le_refl n) hx
    exact ⟨new', n1, n2⟩
  /- it fits -/
  have fits : ∀ {base' : Option Addr} {sl cap' : Nat}, s' = .slice base' sl cap' → sl + n ≤ cap' → ∀ {w' : World},
      ((match base' with | some a => storeCells (a.add (sl * ti.size)) new' | none => pure ()) : Sem Unit).run P w = .ok () w' →
      (Builtin.append_ argTypes ty #[s', x']).run P w = .ok (.slice base' (sl + n) cap') w' := fun {base' sl cap'} e hfit {w'} hst => by
    subst e
    unfold Builtin.append_
    simp only [h0, List.getElem?_toArray, List.getElem?_cons_zero, List.getElem?_cons_succ, Sem.run_bind, run_underlying hus, Result.andThen_ok]
    simp only [sizeOf_run hsz, Result.andThen_ok, h1]
    rcases hux with ⟨e, hx2⟩ | hx2
    all_goals
      simp only [Sem.run_bind, run_underlying hx2, Result.andThen_ok, Sem.run_pure, Bool.false_eq_true, if_false, len_run hl hx, hfit, if_true, Bool.not_false, n1]
      cases base' with
      | none => simp only [Sem.run_pure] at hst; simp at hst; subst hst; simp
      | some a => simp only at hst; simp only [Sem.run_bind, hst, Result.andThen_ok, Sem.run_pure]
  unfold appendI at ha
  simp only [hti] at ha
  split at ha
  · rename_i size zs hsz1 hzs
    simp only [Option.ite_none_right_eq_some, Nat.beq_eq] at ha
    obtain ⟨rfl, ha⟩ := ha
    obtain ⟨i, zv, hi, hz, hzz⟩ := zsize_info hzs
    rw [hti] at hi; simp only [Option.some.injEq] at hi; subst hi
    have hsz1 : ti.size = size + 1 := hsz1
    rw [← hsz1] at hzz
    split at ha
    · rename_i sl cap
      simp only [Option.ite_none_right_eq_some, Bool.and_eq_true, Nat.beq_eq] at ha
      obtain ⟨⟨rfl, rfl⟩, ha⟩ := ha
      cases hs
      cases n with
      | zero =>
        simp only [Option.some.injEq, Prod.mk.injEq] at ha; obtain ⟨rfl, rfl⟩ := ha
        exact ⟨σ, w, _, Sg.le_refl σ, fits rfl (Nat.le_refl _) (by simp), .snil _ _, H⟩
      | succ n =>
        simp only [Option.ite_none_right_eq_some, Nat.ble_eq, Option.some.injEq, Prod.mk.injEq] at ha; obtain ⟨hbig, rfl, rfl⟩ := ha
        have := grow_sound (ty := ty) (old := []) (sl := 0) (cap' := 0) (base' := none) H h0 h1 hus hux hti hz hzz rfl (len_run hl hx) (by omega) (by simpa using hbig) ⟨[], by simp [Builtin.firstCells], .nil⟩ (by simp) hnew hnl
        simpa using this
    · rename_i ad sl cap
      split at ha
      · rename_i hfit
        simp only [Nat.ble_eq] at hfit
        obtain ⟨ad', c', rfl, hA⟩ := slice_inv hs
        have hcc : sl + n ≤ c' := by
          cases hs with
          | sfix _ => exact hfit
          | sgrown _ hc _ => omega
          | sloose _ _ => omega
        cases n with
        | zero =>
          simp only [Option.some.injEq, Prod.mk.injEq] at ha; obtain ⟨rfl, rfl⟩ := ha
          have hn0 : new' = [] := by
            have := n2.len
            simp only [Nat.zero_mul] at hnl
            exact List.length_eq_zero_iff.1 (by omega)
          exact ⟨σ, w, _, Sg.le_refl σ, fits rfl hcc (by simp [hn0, storeCells]), by simpa using hs, H⟩
        | succ n =>
          simp only at ha
          split at ha
          · rename_i h2 hw
            simp only [Option.some.injEq, Prod.mk.injEq] at ha; obtain ⟨rfl, rfl⟩ := ha
            have hA' : ARel σ ad ad' := by
              cases hs with
              | sfix hh => exact ⟨_, _, _, hh, rfl, rfl⟩
              | sgrown hh _ _ => exact ⟨_, _, _, hh, rfl, rfl⟩
              | sloose _ _ => omega
            obtain ⟨w', k1, k2⟩ := wr_sound H hw (hA'.add _) n2
            rw [← hsz1] at k1
            refine ⟨σ, w', _, Sg.le_refl σ, fits rfl hcc k1, ?_, k2⟩
            cases hs with
            | sfix hh => exact .sfix hh
            | sgrown hh hc hz => exact .sgrown hh (by omega) hz
            | sloose _ _ => omega
          · cases ha
      · rename_i hnf
        have hnf' : ¬ (sl + n ≤ cap) := by rw [← Nat.ble_eq]; exact hnf
        simp only [Option.ite_none_right_eq_some, Nat.ble_eq] at ha
        obtain ⟨hbig, ha⟩ := ha
        split at ha
        · rename_i cs t m hg
          have exact_case : (m = .fix ∨ m = .ro) → (match rdCells h ad (sl * (size + 1)) with
              | some old => some (Value.slice (some ⟨h.next, 0, none⟩) (sl + n) (sl + n), h.push (.cells (old ++ new) elem .grow))
              | none => none) = some (v, h') →
              ∃ σ' w' v', σ.le σ' ∧ (Builtin.append_ argTypes ty #[s', x']).run P w = .ok v' w' ∧ VRel σ' v v' ∧ HRel P B w0 σ' h' w' := fun hm ha => by
            obtain ⟨b, o, hx2⟩ := kind_exact H hg hm
            obtain ⟨ad', rfl, hA⟩ := slice_exact hs hx2
            split at ha
            · rename_i old hr
              simp only [Option.some.injEq, Prod.mk.injEq] at ha; obtain ⟨rfl, rfl⟩ := ha
              have hol : old.length = sl * ti.size := by
                obtain ⟨_, _, _, k⟩ := rd_sound H hr hA
                rw [k, hsz1]
              refine grow_sound H h0 h1 hus hux hti hz hzz rfl (len_run hl hx) (by omega) hbig ?_ hol hnew hnl
              obtain ⟨cs', k1, k2, _⟩ := rd_sound H.drew hr hA
              exact ⟨cs', by simp only [Builtin.firstCells, hsz1]; exact k1, k2⟩
            · cases ha
          cases m with
          | fix => exact exact_case (.inl rfl) ha
          | ro => exact exact_case (.inr rfl) ha
          | dead => cases ha
          | grow =>
            simp only at ha
            split at ha
            · rename_i s2 ho hsp hs2
              simp only [Option.ite_none_right_eq_some, Bool.and_eq_true, Nat.beq_eq, Option.some.injEq, Prod.mk.injEq] at ha; obtain ⟨⟨⟨rfl, hcl⟩, hone⟩, rfl, rfl⟩ := ha
              obtain ⟨b, es, cc, t', fz, k1, k2, k3, k4, k5, k6, k7, kf⟩ := H.blk _ _ hg
              rw [hs2] at k2; simp only [Option.some.injEq] at k2; subst k2
              cases hs with
              | sfix hh => simp [hh] at k1
              | sloose hh hof => exact absurd ho hof
              | sgrown hh hc hz2 =>
                rename_i i off b2 c' es2 sz2
                rw [hh] at k1; simp only [Option.some.injEq, Spot.mk.injEq, SK.grown.injEq, true_and] at k1
                obtain ⟨rfl, rfl, rfl⟩ := k1
                simp only at ho; subst ho
                have hl2 := n2.len
                have hA : ARel σ ⟨i, 0, none⟩ ⟨b2, 0 + 0, none⟩ := ⟨_, _, _, hh, rfl, rfl⟩
                have hrd : rdCells h ⟨i, 0, none⟩ (sl * (size + 1)) = some cs := by
                  simp [rdCells, hg, hcl]
                by_cases hfit : sl + n ≤ c'
                · /- in place -/
                  have hsz3 : sl * (size + 1) + new'.length ≤ cc.size := by
                    rw [← hl2, hnl, hsz1, ← Nat.add_mul]
                    have := Nat.mul_le_mul_right (size + 1) hfit
                    have hz3 : 0 + c' * (size + 1) ≤ cc.size := hz2
                    omega
                  have hone' : new'.all oneCell = true := n2.ones hone
                  have hrun := run_storeCells_put (P := P) (p := 0 + sl * (size + 1)) new' 0 cc w k4 (by omega) k5 hone'
                  have hln : (splice cc.toList (0 + sl * (size + 1) + 0) new').length = cc.size := by rw [splice_length _ _ _ (by simp; omega)]; simp
                  have hB : BRel P B (σ.put h.next ⟨b2, 0, .grown (size + 1) cc.size⟩) (putBlock w b2 (.cells (splice cc.toList (0 + sl * (size + 1) + 0) new').toArray t' fz)) h.next (.cells (cs ++ new) elem .grow) := by
                    have hsa : (splice cc.toList (0 + sl * (size + 1) + 0) new').toArray.size = cc.size := by rw [List.size_toArray]; exact hln
                    refine ⟨b2, size + 1, (splice cc.toList (0 + sl * (size + 1) + 0) new').toArray, t', fz, by rw [Sg.put_self, hsa], by rw [hsz, hsz1], k3, (putBlock_get b2 (H.codom _ _ hh)).trans (if_pos rfl), ?_, ?_, ?_⟩
                    · rw [hsa]; exact k5
                    · rw [hsa, List.length_append, ← hcl, hl2]; exact hsz3
                    · have e : (splice cc.toList (0 + sl * (size + 1) + 0) new').take (cs ++ new).length = cc.toList.take cs.length ++ new' := by
                        rw [List.length_append, ← hcl, hl2]
                        simp only [Nat.zero_add, Nat.add_zero]
                        unfold Go.Ideal.splice
                        rw [List.take_append_of_le_length (by simp; omega)]
                        exact List.take_of_length_le (by simp; omega)
                      rw [e]
                      exact ⟨((k7.append n2)).mono (Sg.le_put H.fresh), kf⟩
                  obtain ⟨q1, q2⟩ := H.move hg hh k3 hB rfl
                  refine ⟨_, _, _, q2, fits (w' := putBlock w b2 (.cells (splice cc.toList (0 + sl * (size + 1) + 0) new').toArray t' fz)) rfl hfit ?_, ?_, q1⟩
                  · simp only [hsz1, Addr.add_none]
                    simpa using hrun
                  · have := VRel.sgrown (σ := σ.put h.next ⟨b2, 0, .grown (size + 1) cc.size⟩) (off := 0) (n := sl + n) (c := sl + n) (c' := c') (Sg.put_self _ _ _) hfit (by simpa using hz2)
                    simpa using this
                · /- anew -/
                  have := grow_sound (ty := ty) (old := cs) (cap' := c') (sl := sl) (n := n) (base' := some ⟨b2, 0 + 0, none⟩) (H.kill i t) h0 h1 hus hux hti hz hzz rfl (len_run hl hx) (by omega) hbig (by
                    obtain ⟨cs', q1, q2, _⟩ := rd_sound H.drew hrd hA
                    exact ⟨cs', by simp only [Builtin.firstCells, hsz1]; exact q1, q2⟩) (by rw [hsz1]; omega) hnew hnl
                  exact this
            · cases ha
        · cases ha
    · cases ha
  · cases ha

end
end Go.Ideal
