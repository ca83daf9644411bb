/- Reading, writing and making memory: the ideal heap and the model's stay related. Plain lemmas, over any program. -/
import Derived.Test.YtmaajceeaggocaaDoorIRel
import Derived.Laws.Cells
set_option linter.unusedVariables false
set_option linter.unusedSimpArgs false
namespace Go.Ideal
open Go.RowKit

theorem BRel.mono {P : Program} {B : Nat} {σ σ' : Sg} {w w' : World} {i : Nat} {blk : Blk} (h : BRel P B σ w i blk) (hle : σ.le σ')
    (hw : ∀ x, σ i = some x → w'.heap[x.b]? = w.heap[x.b]?) : BRel P B σ' w' i blk := by
  cases blk with
  | cells cs t m =>
    cases m with
    | ro =>
      obtain ⟨b, o, cc, t', fz, h1, h2, h3, h4, h5⟩ := h
      exact ⟨b, o, cc, t', fz, hle _ _ h1, h2, by rw [hw _ h1]; exact h3, h4, h5.mono hle⟩
    | fix =>
      obtain ⟨b, cc, t', fz, h1, h2, h3, h4, h5⟩ := h
      exact ⟨b, cc, t', fz, hle _ _ h1, h2, by rw [hw _ h1]; exact h3, h4, h5.mono hle⟩
    | grow =>
      obtain ⟨b, es, cc, t', fz, h1, h2, h3, h4, h5, h6, h7⟩ := h
      exact ⟨b, es, cc, t', fz, hle _ _ h1, h2, h3, by rw [hw _ h1]; exact h4, h5, h6, h7.mono hle⟩
    | dead => trivial
  | iter s pos =>
    obtain ⟨b, h1, h2, h3⟩ := h
    exact ⟨b, hle _ _ h1, h2, by rw [hw _ h1]; exact h3⟩

/-- What all readable blocks have in common. -/
theorem BRel.read {P : Program} {B : Nat} {σ : Sg} {w : World} {i : Nat} {cs : List Value} {t : TypeId} {m : Mode} (h : BRel P B σ w i (.cells cs t m)) (hm : m ≠ .dead) :
    ∃ b o k cc t' fz, σ i = some ⟨b, o, k⟩ ∧ w.heap[b]? = some (.cells cc t' fz) ∧ o + cs.length ≤ cc.size ∧ LRel σ cs ((cc.toList.drop o).take cs.length) := by
  cases m with
  | ro => obtain ⟨b, o, cc, t', fz, h1, h2, h3, h4, h5⟩ := h; exact ⟨b, o, _, cc, t', fz, h1, h3, h4, h5⟩
  | fix =>
    obtain ⟨b, cc, t', fz, h1, h2, h3, h4, h5⟩ := h
    have hl := h5.len
    refine ⟨b, 0, _, cc, t', fz, h1, h3, by simp at hl; omega, ?_⟩
    rw [List.drop_zero, hl, List.take_length]; exact h5
  | grow =>
    obtain ⟨b, es, cc, t', fz, h1, h2, h3, h4, h5, h6, h7⟩ := h
    exact ⟨b, 0, _, cc, t', fz, h1, h4, by omega, by simpa using h7⟩
  | dead => exact absurd rfl hm

/-- An address and where it lies. -/
def ARel (σ : Sg) (a a' : Addr) : Prop := ∃ b o k, σ a.block = some ⟨b, o, k⟩ ∧ a.spot = none ∧ a' = ⟨b, o + a.off, none⟩

theorem ARel.mono {σ σ' : Sg} (hle : σ.le σ') {a a' : Addr} (h : ARel σ a a') : ARel σ' a a' := by
  obtain ⟨b, o, k, h1, h2, h3⟩ := h
  exact ⟨b, o, k, hle _ _ h1, h2, h3⟩
theorem VRel.ptr_of {σ : Sg} {a a' : Addr} (h : ARel σ a a') : VRel σ (.pointer (some a)) (.pointer (some a')) := by
  obtain ⟨b, o, k, h1, h2, rfl⟩ := h
  obtain ⟨i, off, spot⟩ := a
  simp only at h2; subst h2
  exact .ptr h1
theorem VRel.ptr_inv {σ : Sg} {a : Addr} {v' : Value} (h : VRel σ (.pointer (some a)) v') : ∃ a', v' = .pointer (some a') ∧ ARel σ a a' := by
  cases h with
  | ptr h => exact ⟨_, rfl, _, _, _, h, rfl, rfl⟩
theorem Addr.add_none (b off n : Nat) : (⟨b, off, none⟩ : Addr).add n = ⟨b, off + n, none⟩ := by
  unfold Addr.add; split <;> simp_all
theorem ARel.add {σ : Sg} {a a' : Addr} (h : ARel σ a a') (n : Nat) : ARel σ (a.add n) (a'.add n) := by
  obtain ⟨b, o, k, h1, h2, rfl⟩ := h
  obtain ⟨i, off, spot⟩ := a
  simp only at h2; subst h2
  rw [Addr.add_none, Addr.add_none]
  exact ⟨b, o, k, h1, rfl, by simp [Nat.add_assoc]⟩

theorem cell_of {w : World} {b off : Nat} {cc : Array Value} {t : TypeId} {fz : Nat × Nat} (h : w.heap[b]? = some (.cells cc t fz)) : w.cell? ⟨b, off, none⟩ = cc[off]? := by
  simp [World.cell?, h]
theorem frozen_of {w : World} {b off : Nat} {cc : Array Value} {t : TypeId} {fz : Nat × Nat} (h : w.heap[b]? = some (.cells cc t fz)) :
    w.frozen? ⟨b, off, none⟩ = (decide (fz.1 ≤ off) && decide (off < fz.2)) := by
  obtain ⟨lo, hi⟩ := fz
  simp [World.frozen?, h]

/-- Reading. -/
theorem rd_sound {P : Program} {B : Nat} {w0 w : World} {σ : Sg} {h : Heap} (H : HRel P B w0 σ h w) {a a' : Addr} {n : Nat} {cs : List Value}
    (hr : rdCells h a n = some cs) (ha : ARel σ a a') : ∃ cs', (loadCells a' n).run P w = .ok cs'.toArray w ∧ LRel σ cs cs' ∧ cs.length = n := by
  unfold rdCells at hr
  split at hr
  · rename_i cells t m hg hs
    have key : m ≠ .dead → (if a.off + n ≤ cells.length then some ((cells.drop a.off).take n) else none) = some cs →
        ∃ cs', (loadCells a' n).run P w = .ok cs'.toArray w ∧ LRel σ cs cs' ∧ cs.length = n := fun hm hr => by
      split at hr
      · rename_i hle
        simp only [Option.some.injEq] at hr
        obtain ⟨b, o, k, cc, t', fz, h1, h2, h3, h4⟩ := (H.blk _ _ hg).read hm
        obtain ⟨b', o', k', g1, _, rfl⟩ := ha
        rw [h1] at g1; simp only [Option.some.injEq, Spot.mk.injEq] at g1
        obtain ⟨rfl, rfl, rfl⟩ := g1
        have hlen : ((((cc.toList.drop o).take cells.length).drop a.off).take n).length = n := by simp; omega
        refine ⟨(((cc.toList.drop o).take cells.length).drop a.off).take n, ?_, ?_, ?_⟩
        · have := run_loadCells_list (P := P) (w := w) ⟨b, o + a.off, none⟩ ((((cc.toList.drop o).take cells.length).drop a.off).take n) (fun j v hv => by
            rw [Addr.add_none, cell_of h2]
            have hj : j < n := by
              have := (List.getElem?_eq_some_iff.1 hv).1
              omega
            rw [List.getElem?_take_of_lt hj, List.getElem?_drop, List.getElem?_take_of_lt (by omega), List.getElem?_drop] at hv
            rw [← hv, Array.getElem?_toList]
            congr 1; omega)
          rw [hlen] at this
          exact this
        · rw [← hr]; exact (h4.drop _).take _
        · rw [← hr]; simp; omega
      · cases hr
    cases m with
    | dead => simp at hr
    | ro => exact key (by simp) hr
    | fix => exact key (by simp) hr
    | grow => exact key (by simp) hr
  · cases hr

/-- The world with one block's cells exchanged. -/
def putBlock (w : World) (b : Nat) (o : Obj) : World := { w with heap := w.heap.setIfInBounds b o }

theorem putBlock_get {w : World} {b : Nat} {o : Obj} (k : Nat) (hb : b < w.heap.size) : (putBlock w b o).heap[k]? = if k = b then some o else w.heap[k]? := by
  by_cases h : k = b
  · subst h; simp [putBlock, hb]
  · simp [putBlock, Array.getElem?_setIfInBounds_ne (Ne.symm h), h]

theorem setCell_put {w : World} {b off : Nat} {cc : Array Value} {t : TypeId} {fz : Nat × Nat} {v : Value} (h : w.heap[b]? = some (.cells cc t fz)) :
    w.setCell ⟨b, off, none⟩ v = putBlock w b (.cells (cc.setIfInBounds off v) t fz) := by
  unfold World.setCell putBlock
  congr 1
  apply Array.ext_getElem?
  intro k
  have hb : b < w.heap.size := (Array.getElem?_eq_some_iff.1 h).1
  by_cases e : k = b
  · subst e
    rw [Array.getElem?_modify, if_pos rfl, h, Array.getElem?_setIfInBounds_self_of_lt hb]
    rfl
  · rw [Array.getElem?_modify, if_neg (Ne.symm e), Array.getElem?_setIfInBounds_ne (Ne.symm e)]

theorem putBlock_put {w : World} {b : Nat} {o o' : Obj} : putBlock (putBlock w b o) b o' = putBlock w b o' := by
  simp [putBlock, Array.setIfInBounds_setIfInBounds]

theorem putBlock_self {w : World} {b : Nat} {o : Obj} (h : w.heap[b]? = some o) : putBlock w b o = w := by
  unfold putBlock
  have hb := (Array.getElem?_eq_some_iff.1 h)
  obtain ⟨hlt, he⟩ := hb
  have : w.heap.setIfInBounds b o = w.heap := by
    apply Array.ext_getElem?
    intro k
    by_cases e : b = k
    · subst e; simp [hlt, he]
    · simp [Array.getElem?_setIfInBounds_ne e]
  rw [this]

theorem one_oneCell' {v : Value} (h : oneCell v = true) : v.oneCell' = true := by cases v <;> first | rfl | simp [oneCell] at h

theorem set_splice (v : Value) (vs : List Value) : ∀ (l : List Value) (off : Nat), off + (vs.length + 1) ≤ l.length →
    splice (l.set off v) (off + 1) vs = splice l off (v :: vs)
  | [], _, h => by simp at h
  | x :: l, 0, _ => by simp [splice, Nat.add_comm]
  | x :: l, off + 1, h => by
    have ih := set_splice v vs l off (by simp at h; omega)
    unfold splice at *
    simp only [List.set_cons_succ, List.take_succ_cons, List.cons_append, List.length_cons] at ih ⊢
    rw [show off + 1 + 1 + vs.length = (off + 1 + vs.length) + 1 by omega, show off + 1 + (vs.length + 1) = (off + (vs.length + 1)) + 1 by omega, List.drop_succ_cons, List.drop_succ_cons, ih]

theorem splice_length (l : List Value) (off : Nat) (vs : List Value) (h : off + vs.length ≤ l.length) : (splice l off vs).length = l.length := by
  simp [splice]; omega

theorem run_storeCells_put {P : Program} {b p : Nat} {t : TypeId} {fz : Nat × Nat} : ∀ (vs : List Value) (i : Nat) (cc : Array Value) (w : World),
    w.heap[b]? = some (.cells cc t fz) → p + i + vs.length ≤ cc.size → okFrozen cc.size fz → vs.all oneCell = true →
    (storeCells ⟨b, p, none⟩ vs i).run P w = .ok () (putBlock w b (.cells (splice cc.toList (p + i) vs).toArray t fz))
  | [], i, cc, w, h, _, _, _ => by
    simp only [storeCells, splice, List.append_nil, List.length_nil, Nat.add_zero, List.take_append_drop, Array.toArray_toList]
    rw [putBlock_self h]; rfl
  | v :: rest, i, cc, w, h, hl, hf, h1 => by
    simp only [List.length_cons] at hl
    simp only [List.all_cons, Bool.and_eq_true] at h1
    have hlt : p + i < cc.size := by omega
    simp only [storeCells, Sem.run_bind]
    rw [Addr.add_none, run_store P w _ v _ (one_oneCell' h1.1), cell_of h, frozen_of h, hf _ hlt, Array.getElem?_eq_getElem hlt]
    simp only [Bool.false_eq_true, if_false, Result.andThen_ok]
    rw [setCell_put h]
    have hb : b < w.heap.size := (Array.getElem?_eq_some_iff.1 h).1
    rw [run_storeCells_put rest (i + 1) (cc.setIfInBounds (p + i) v) _ (by rw [putBlock_get _ hb, if_pos rfl]) (by simp; omega) (by simpa using hf) h1.2]
    rw [putBlock_put, ← Nat.add_assoc, Array.toList_setIfInBounds, set_splice _ _ _ _ (by simp; omega)]

theorem LRel.splice {σ : Sg} {l l' vs vs' : List Value} (h : LRel σ l l') (k : LRel σ vs vs') (off : Nat) : LRel σ (splice l off vs) (splice l' off vs') := by
  unfold Go.Ideal.splice
  rw [← k.len]
  exact ((h.take _).append k).append (h.drop _)

theorem below_putBlock {B : Nat} {w0 w : World} (h : Below B w0 w) {b : Nat} (hb : B ≤ b) (o : Obj) : Below B w0 (putBlock w b o) :=
  ⟨h.os, h.tape, h.output, by simpa [putBlock] using h.size, fun k hk => by
    rw [← h.block k hk]; simp [putBlock, Array.getElem?_setIfInBounds_ne (show b ≠ k by omega)]⟩

/-- One block is exchanged, on both sides. -/
theorem HRel.put {P : Program} {B : Nat} {w0 w : World} {σ : Sg} {h : Heap} (H : HRel P B w0 σ h w) {i : Nat} {old new : Blk} {x : Spot} {o : Obj}
    (hg : h.get i = some old) (hl : live old = true) (hl' : live new = true) (hx : σ i = some x) (hB : B ≤ x.b) (hn : BRel P B σ (putBlock w x.b o) i new) :
    HRel P B w0 σ (h.set i new) (putBlock w x.b o) := by
  have hb := H.codom _ _ hx
  refine ⟨below_putBlock H.below hB o, by simpa [putBlock] using H.size, fun j y hj => H.dom j y hj, fun j y hj => by simpa [putBlock] using H.codom j y hj, H.glob, fun j b hj => ?_, fun j k y z bj bk hj hk lj lk => ?_⟩
  · rw [Heap.get_set (Heap.lt_of_get hg)] at hj
    split at hj
    · rename_i e
      simp only [Option.some.injEq] at hj
      subst hj; subst e; exact hn
    · rename_i e
      by_cases hd : live b = true
      · exact (H.blk j b hj).mono (Sg.le_refl σ) fun y hy => by
          rw [putBlock_get _ hb, if_neg]
          intro heq
          exact e (H.inj j i y x b old hj hg hd hl hy hx (by rw [heq]; exact hB) heq)
      · cases b with
        | cells cs t m => cases m <;> first | trivial | exact absurd rfl hd
        | iter s pos => exact absurd rfl hd
  · rw [Heap.get_set (Heap.lt_of_get hg)] at hj hk
    split at hj <;> split at hk
    · rename_i e1 e2; intros; rw [e1, e2]
    · rename_i e1 e2; subst e1; exact fun h1 h2 h3 h4 => H.inj j k y z old bk hg hk hl lk h1 h2 h3 h4
    · rename_i e1 e2; subst e2; exact fun h1 h2 h3 h4 => H.inj j k y z bj old hj hg lj hl h1 h2 h3 h4
    · exact fun h1 h2 h3 h4 => H.inj j k y z bj bk hj hk lj lk h1 h2 h3 h4

/-- Writing. -/
theorem wr_sound {P : Program} {B : Nat} {w0 w : World} {σ : Sg} {h h' : Heap} (H : HRel P B w0 σ h w) {a a' : Addr} {vs vs' : List Value}
    (hw : wrCells h a vs = some h') (ha : ARel σ a a') (hv : LRel σ vs vs') :
    ∃ w', (storeCells a' vs').run P w = .ok () w' ∧ HRel P B w0 σ h' w' := by
  have hone : vs.all oneCell = true → vs'.all oneCell = true := by
    clear hw
    intro h1
    induction hv with
    | nil => rfl
    | cons k _ ih => simp only [List.all_cons, Bool.and_eq_true] at h1 ⊢; exact ⟨by rw [k.oneCell]; exact h1.1, ih h1.2⟩
  have hlen := hv.len
  unfold wrCells at hw
  split at hw
  · rename_i cs t m hg hs
    obtain ⟨b', o', k', g1, _, rfl⟩ := ha
    cases m with
    | ro => simp at hw
    | dead => simp at hw
    | fix =>
      simp only [Option.ite_none_right_eq_some, Option.some.injEq, Bool.and_eq_true, Nat.ble_eq] at hw
      obtain ⟨⟨hle, h1⟩, rfl⟩ := hw
      have h1' := hone h1
      obtain ⟨b, cc, t', fz, k1, k2, k3, k4, k5⟩ := H.blk _ _ hg
      rw [k1] at g1; simp only [Option.some.injEq, Spot.mk.injEq] at g1
      obtain ⟨rfl, rfl, rfl⟩ := g1
      have hl := k5.len
      simp only [Array.length_toList] at hl
      refine ⟨_, run_storeCells_put vs' 0 cc w k3 (by omega) k4 h1', ?_⟩
      refine H.put (x := ⟨b, 0, .exact⟩) hg rfl rfl k1 k2 ?_
      refine ⟨b, _, t', fz, k1, k2, by rw [putBlock_get _ (H.codom _ _ k1), if_pos rfl], ?_, ?_⟩
      · simp only [List.size_toArray]; rw [splice_length _ _ _ (by simp; omega)]; simpa using k4
      · simpa using k5.splice hv a.off
    | grow =>
      simp only [Option.ite_none_right_eq_some, Option.some.injEq, Bool.and_eq_true, Nat.ble_eq] at hw
      obtain ⟨⟨hle, h1⟩, rfl⟩ := hw
      have h1' := hone h1
      obtain ⟨b, es, cc, t', fz, k1, k2, k3, k4, k5, k6, k7⟩ := H.blk _ _ hg
      rw [k1] at g1; simp only [Option.some.injEq, Spot.mk.injEq] at g1
      obtain ⟨rfl, rfl, rfl⟩ := g1
      refine ⟨_, run_storeCells_put vs' 0 cc w k4 (by omega) k5 h1', ?_⟩
      refine H.put (x := ⟨b, 0, .grown es cc.size⟩) hg rfl rfl k1 k3 ?_
      have hsz : (splice cc.toList (0 + a.off + 0) vs').length = cc.size := by rw [splice_length _ _ _ (by simp; omega)]; simp
      refine ⟨b, es, _, t', fz, by rw [List.size_toArray, hsz]; exact k1, k2, k3, by rw [putBlock_get _ (H.codom _ _ k1), if_pos rfl], ?_, ?_, ?_⟩
      · simp only [List.size_toArray]; rw [hsz]; exact k5
      · simp only [List.size_toArray]; rw [hsz, splice_length _ _ _ hle]; exact k6
      · rw [splice_length _ _ _ hle]
        have := k7.splice hv a.off
        have e : splice (cc.toList.take cs.length) a.off vs' = (splice cc.toList (0 + a.off + 0) vs').take cs.length := by
          simp only [Nat.zero_add, Nat.add_zero]
          unfold Go.Ideal.splice
          rw [← hlen, List.take_append, List.take_append, List.take_take, List.take_take]
          simp only [List.length_append, List.length_take, Array.length_toList]
          rw [Nat.min_eq_left (show a.off ≤ cs.length by omega), Nat.min_eq_right (show a.off ≤ cs.length by omega), Nat.min_eq_left (show a.off ≤ cc.size by omega)]
          rw [List.take_of_length_le (l := vs') (by omega), List.drop_take, ← hlen]
        rw [← e]; exact this
  · cases hw

/-- A new block, on both sides. -/
theorem HRel.push {P : Program} {B : Nat} {w0 w : World} {σ : Sg} {h : Heap} (H : HRel P B w0 σ h w) {new : Blk} {o : Obj} {k : SK}
    (hn : BRel P B (σ.put h.next ⟨w.heap.size, 0, k⟩) (w.alloc o) h.next new) :
    HRel P B w0 (σ.put h.next ⟨w.heap.size, 0, k⟩) (h.push new) (w.alloc o) ∧ σ.le (σ.put h.next ⟨w.heap.size, 0, k⟩) := by
  have hfresh : σ h.next = none := by
    cases e : σ h.next with
    | none => rfl
    | some x => exact absurd (H.dom _ _ e) (Nat.lt_irrefl _)
  have hle : σ.le (σ.put h.next ⟨w.heap.size, 0, k⟩) := Sg.le_put hfresh
  refine ⟨⟨H.below.alloc H.size o, by show B ≤ (w.heap.push o).size; rw [Array.size_push]; have := H.size; omega, fun j y hj => ?_, fun j y hj => ?_, fun g hg => hle _ _ (H.glob g hg), fun j b hj => ?_, fun i j x y bi bj hi hj li lj hx hy hB he => ?_⟩, hle⟩
  · by_cases e : j = h.next
    · subst e; simp [Heap.next_push]
    · rw [Sg.put_ne _ _ e] at hj; have := H.dom _ _ hj; simp [Heap.next_push]; omega
  · by_cases e : j = h.next
    · subst e; rw [Sg.put_self] at hj; simp only [Option.some.injEq] at hj; subst hj; show w.heap.size < (w.heap.push o).size; rw [Array.size_push]; omega
    · rw [Sg.put_ne _ _ e] at hj; have := H.codom _ _ hj; show y.b < (w.heap.push o).size; rw [Array.size_push]; omega
  · rw [Heap.get_push] at hj
    split at hj
    · rename_i e; simp only [Option.some.injEq] at hj; subst hj; subst e; exact hn
    · exact (H.blk j b hj).mono hle fun x hx => Below.heap_alloc w o _ (H.codom _ _ hx)
  · have old : ∀ {i x bi}, i ≠ h.next → (σ.put h.next ⟨w.heap.size, 0, k⟩) i = some x → (h.push new).get i = some bi → σ i = some x ∧ h.get i = some bi := fun {i x bi} hne hx hg => by
      rw [Sg.put_ne _ _ hne] at hx; rw [Heap.get_push, if_neg hne] at hg; exact ⟨hx, hg⟩
    by_cases ei : i = h.next <;> by_cases ej : j = h.next
    · rw [ei, ej]
    · obtain ⟨k1, _⟩ := old ej hy hj
      have := H.codom _ _ k1
      subst ei; rw [Sg.put_self] at hx; simp only [Option.some.injEq] at hx; subst hx; simp at he; omega
    · obtain ⟨k1, _⟩ := old ei hx hi
      have := H.codom _ _ k1
      subst ej; rw [Sg.put_self] at hy; simp only [Option.some.injEq] at hy; subst hy; simp at he; omega
    · obtain ⟨k1, g1⟩ := old ei hx hi
      obtain ⟨k2, g2⟩ := old ej hy hj
      exact H.inj i j x y bi bj g1 g2 li lj k1 k2 hB he

theorem okFrozen_zero (n : Nat) : okFrozen n (0, 0) := fun j _ => by simp

theorem HRel.push_fix {P : Program} {B : Nat} {w0 w : World} {σ : Sg} {h : Heap} (H : HRel P B w0 σ h w) {cs cs' : List Value} {t t' : TypeId} (hc : LRel σ cs cs') :
    HRel P B w0 (σ.put h.next ⟨w.heap.size, 0, .exact⟩) (h.push (.cells cs t .fix)) (w.alloc (.cells cs'.toArray t')) ∧ σ.le (σ.put h.next ⟨w.heap.size, 0, .exact⟩) := by
  refine H.push ?_
  have hle : σ.le (σ.put h.next ⟨w.heap.size, 0, .exact⟩) := Sg.le_put (by
    cases e : σ h.next with
    | none => rfl
    | some x => exact absurd (H.dom _ _ e) (Nat.lt_irrefl _))
  exact ⟨w.heap.size, cs'.toArray, t', (0, 0), Sg.put_self _ _ _, H.size, by show (w.heap.push _)[w.heap.size]? = _; simp, okFrozen_zero _, by simpa using hc.mono hle⟩

end Go.Ideal
