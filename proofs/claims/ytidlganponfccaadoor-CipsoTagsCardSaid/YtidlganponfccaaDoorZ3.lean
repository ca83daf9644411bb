/- Texts packed together: IMem. -/
import Derived.Laws.Cells
import Derived.Test.YtidlganponfccaaDoorZ2
section
/- Reading, writing and making memory: the ideal heap and the model's stay related. Plain lemmas, over any program. -/
set_option linter.unusedVariables false
set_option linter.unusedSimpArgs false
namespace Go.Ideal
open Go.RowKit

theorem BRel.mono {P : Program} {B : Nat} {σ σ' : Sg} {w w' : World} {i : Nat} {blk : Blk} (h : BRel P B σ w i blk) (hle : σ.le σ')
    (hw : ∀ r b, blk.loc σ i r = some b → w'.heap[b]? = w.heap[b]?) (hF : ∀ r b, B ≤ b → blk.loc σ i r = some b → σ'.f.c b = σ.f.c b ∧ σ'.f.m b = σ.f.m b) (hT : ∀ m, σ'.T i m = σ.T i m) : BRel P B σ' w' i blk := by
  have off : ∀ r b, B ≤ b → blk.loc σ i r = some b → σ.f.off b → σ'.f.off b := fun r b hB hl ho => by
    obtain ⟨k1, k2⟩ := hF r b hB hl
    exact ⟨fun o => by rw [k1]; exact ho.1 o, by rw [k2]; exact ho.2⟩
  cases blk with
  | cells cs t m =>
    cases m with
    | ro =>
      obtain ⟨b, o, cc, t', fz, h1, h2, h3, h4, h5⟩ := h
      exact ⟨b, o, cc, t', fz, hle.pl _ _ h1, h2, by rw [hw 0 b (loc_some 0 rfl h1)]; exact h3, h4, h5.mono hle⟩
    | fix =>
      obtain ⟨b, cc, t', fz, h1, h2, h3, h4, h5, h6⟩ := h
      exact ⟨b, cc, t', fz, hle.pl _ _ h1, h2, by rw [hw 0 b (loc_some 0 rfl h1)]; exact h3, h4, h5.mono hle, off 0 b h2 (loc_some 0 rfl h1) h6.1, h6.2⟩
    | grow =>
      obtain ⟨b, es, cc, t', fz, h1, h2, h3, h4, h5, h6, h7, h8⟩ := h
      exact ⟨b, es, cc, t', fz, hle.pl _ _ h1, h2, h3, by rw [hw 0 b (loc_some 0 rfl h1)]; exact h4, h5, h6, h7.mono hle, off 0 b h3 (loc_some 0 rfl h1) h8⟩
    | dead => trivial
  | iter s pos =>
    obtain ⟨b, h1, h2, h3, h4⟩ := h
    exact ⟨b, hle.pl _ _ h1, h2, by rw [hw 0 b (loc_some 0 rfl h1)]; exact h3, off 0 b h2 (loc_some 0 rfl h1) h4⟩
  | own n t =>
    rcases h with ⟨h1, h2⟩ | ⟨b, cc, t', fz, h1, h2, h3, h4, h5, h6, h7, h8⟩
    · exact .inl ⟨h1, fun m => by rw [hT]; exact h2 m⟩
    · have hl : (Blk.own n t).loc σ i 0 = some b := by simp [Blk.loc, h1]
      obtain ⟨k1, k2⟩ := hF 0 b h3 hl
      exact .inr ⟨b, cc, t', fz, by rw [hT]; exact h1, fun m x hx => h2 m x (by rw [← hT]; exact hx), h3, by rw [hw 0 b hl]; exact h4, h5, h6, fun o ho => by rw [k1]; exact h7 o ho, by rw [k2]; exact h8.1, h8.2⟩
  | map ks vs =>
    obtain ⟨b, es, cl, h1, h2, h3, h4, h5, h6, h7⟩ := h
    exact ⟨b, es, cl, hle.pl _ _ h1, h2, by rw [hw 0 b (loc_some 0 rfl h1)]; exact h3, h4.mono hle, h5.mono hle, off 0 b h2 (loc_some 0 rfl h1) h6, h7⟩
  | pool rows =>
    obtain ⟨h1, h2, h3⟩ := h
    have hl : ∀ r, (Blk.pool rows).loc σ' i r = (Blk.pool rows).loc σ i r := fun r => by simp only [Blk.loc, hT]
    refine ⟨⟨by rw [hT]; exact h1.1, fun r hr => by rw [hT]; exact h1.2 r hr⟩, fun r row hr => ?_, fun r r' b k k' => h3 r r' b (by rw [← hl]; exact k) (by rw [← hl]; exact k')⟩
    have hrow := h2 r row hr
    cases row with
    | dead => trivial
    | cells cs =>
      rcases hrow with ⟨k1, k2⟩ | ⟨b, cc, t', fz, k1, k2, k3, k4, k5, k6, k7⟩
      · exact .inl ⟨k1, by rw [hT]; exact k2⟩
      · have lo := pool_loc hr (by intro h; cases h) k1
        exact .inr ⟨b, cc, t', fz, by rw [hT]; exact k1, k2, by rw [hw r b lo]; exact k3, k4, k5, k6.mono hle, off r b k2 lo k7⟩
    | chan cap buf =>
      obtain ⟨b, z, buf', s, rc, k1, k2, k3, k4, k5⟩ := hrow
      have lo := pool_loc hr (by intro h; cases h) k1
      exact ⟨b, z, buf', s, rc, by rw [hT]; exact k1, k2, by rw [hw r b lo]; exact k3, k4.mono hle, off r b k2 lo k5⟩

theorem BRel.same {P : Program} {B : Nat} {σ : Sg} {w w' : World} {i : Nat} {blk : Blk} (h : BRel P B σ w i blk) (hw : ∀ r b, blk.loc σ i r = some b → w'.heap[b]? = w.heap[b]?) : BRel P B σ w' i blk :=
  h.mono (Sg.le_refl σ) hw (fun _ _ _ _ => ⟨rfl, rfl⟩) fun _ => rfl

/-- What all readable blocks have in common. -/
theorem BRel.read {P : Program} {B : Nat} {σ : Sg} {w : World} {i : Nat} {cs : List Value} {t : TypeId} {m : Mode} (h : BRel P B σ w i (.cells cs t m)) (hm : m ≠ .dead) :
    ∃ b o k cc t' fz, σ i = some ⟨b, o, k⟩ ∧ w.heap[b]? = some (.cells cc t' fz) ∧ o + cs.length ≤ cc.size ∧ LRel σ cs ((cc.toList.drop o).take cs.length) := by
  cases m with
  | ro => obtain ⟨b, o, cc, t', fz, h1, h2, h3, h4, h5⟩ := h; exact ⟨b, o, _, cc, t', fz, h1, h3, h4, h5⟩
  | fix =>
    obtain ⟨b, cc, t', fz, h1, h2, h3, h4, h5, _⟩ := h
    have hl := h5.len
    refine ⟨b, 0, _, cc, t', fz, h1, h3, by simp at hl; omega, ?_⟩
    rw [List.drop_zero, hl, List.take_length]; exact h5
  | grow =>
    obtain ⟨b, es, cc, t', fz, h1, h2, h3, h4, h5, h6, h7, _⟩ := h
    exact ⟨b, 0, _, cc, t', fz, h1, h4, by omega, by simpa using h7⟩
  | dead => exact absurd rfl hm

/-- An address and where it lies. -/
def ARel (σ : Sg) (a a' : Addr) : Prop := ∃ b o k, σ a.block = some ⟨b, o, k⟩ ∧ a.spot = none ∧ a' = ⟨b, o + a.off, none⟩

theorem ARel.mono {σ σ' : Sg} (hle : σ.le σ') {a a' : Addr} (h : ARel σ a a') : ARel σ' a a' := by
  obtain ⟨b, o, k, h1, h2, h3⟩ := h
  exact ⟨b, o, k, hle.pl _ _ h1, h2, h3⟩
theorem VRel.ptr_of {σ : Sg} {a a' : Addr} (h : ARel σ a a') : VRel σ (.pointer (some a)) (.pointer (some a')) := by
  obtain ⟨b, o, k, h1, h2, rfl⟩ := h
  obtain ⟨i, off, spot⟩ := a
  simp only at h2; subst h2
  exact .ptr h1
theorem VRel.ptr_inv {σ : Sg} {a : Addr} {v' : Value} (h : VRel σ (.pointer (some a)) v') : ∃ a', v' = .pointer (some a') ∧ ARel σ a a' := by
  cases h with
  | ptr h => exact ⟨_, rfl, _, _, _, h, rfl, rfl⟩
theorem Addr.add_none (b off n : Nat) : (⟨b, off, none⟩ : Addr).add n = ⟨b, off + n, none⟩ := by
  unfold Addr.add; split <;> simp_all
theorem ARel.add {σ : Sg} {a a' : Addr} (h : ARel σ a a') (n : Nat) : ARel σ (a.add n) (a'.add n) := by
  obtain ⟨b, o, k, h1, h2, rfl⟩ := h
  obtain ⟨i, off, spot⟩ := a
  simp only at h2; subst h2
  rw [Addr.add_none, Addr.add_none]
  exact ⟨b, o, k, h1, rfl, by simp [Nat.add_assoc]⟩

theorem cell_of {w : World} {b off : Nat} {cc : Array Value} {t : TypeId} {fz : Nat × Nat} (h : w.heap[b]? = some (.cells cc t fz)) : w.cell? ⟨b, off, none⟩ = cc[off]? := by
  simp [World.cell?, h]
theorem frozen_of {w : World} {b off : Nat} {cc : Array Value} {t : TypeId} {fz : Nat × Nat} (h : w.heap[b]? = some (.cells cc t fz)) :
    w.frozen? ⟨b, off, none⟩ = (decide (fz.1 ≤ off) && decide (off < fz.2)) := by
  obtain ⟨lo, hi⟩ := fz
  simp [World.frozen?, h]

/-- Reading. -/
theorem rd_sound {P : Program} {B : Nat} {w0 : Org} {w : World} {σ : Sg} {h : Heap} (H : HRel P B w0 σ h w) {a a' : Addr} {n : Nat} {cs : List Value}
    (hr : rdCells h a n = some cs) (ha : ARel σ a a') : ∃ cs', (loadCells a' n).run P w = .ok cs'.toArray w ∧ LRel σ cs cs' ∧ cs.length = n := by
  unfold rdCells at hr
  split at hr
  · rename_i cells t m hg hs
    have key : m ≠ .dead → (if a.off + n ≤ cells.length then some ((cells.drop a.off).take n) else none) = some cs →
        ∃ cs', (loadCells a' n).run P w = .ok cs'.toArray w ∧ LRel σ cs cs' ∧ cs.length = n := fun hm hr => by
      split at hr
      · rename_i hle
        simp only [Option.some.injEq] at hr
        obtain ⟨b, o, k, cc, t', fz, h1, h2, h3, h4⟩ := (H.blk _ _ hg).read hm
        obtain ⟨b', o', k', g1, _, rfl⟩ := ha
        rw [h1] at g1; simp only [Option.some.injEq, Spot.mk.injEq] at g1
        obtain ⟨rfl, rfl, rfl⟩ := g1
        have hlen : ((((cc.toList.drop o).take cells.length).drop a.off).take n).length = n := by simp; omega
        refine ⟨(((cc.toList.drop o).take cells.length).drop a.off).take n, ?_, ?_, ?_⟩
        · have := run_loadCells_list (P := P) (w := w) ⟨b, o + a.off, none⟩ ((((cc.toList.drop o).take cells.length).drop a.off).take n) (fun j v hv => by
            rw [Addr.add_none, cell_of h2]
            have hj : j < n := by
              have := (List.getElem?_eq_some_iff.1 hv).1
              omega
            rw [List.getElem?_take_of_lt hj, List.getElem?_drop, List.getElem?_take_of_lt (by omega), List.getElem?_drop] at hv
            rw [← hv, Array.getElem?_toList]
            congr 1; omega)
          rw [hlen] at this
          exact this
        · rw [← hr]; exact (h4.drop _).take _
        · rw [← hr]; simp; omega
      · cases hr
    cases m with
    | dead => simp at hr
    | ro => exact key (by simp) hr
    | fix => exact key (by simp) hr
    | grow => exact key (by simp) hr
  · cases hr

/-- The world with one block's cells exchanged. -/
def putBlock (w : World) (b : Nat) (o : Obj) : World := { w with heap := w.heap.setIfInBounds b o }

theorem putBlock_get {w : World} {b : Nat} {o : Obj} (k : Nat) (hb : b < w.heap.size) : (putBlock w b o).heap[k]? = if k = b then some o else w.heap[k]? := by
  by_cases h : k = b
  · subst h; simp [putBlock, hb]
  · simp [putBlock, Array.getElem?_setIfInBounds_ne (Ne.symm h), h]

theorem setCell_put {w : World} {b off : Nat} {cc : Array Value} {t : TypeId} {fz : Nat × Nat} {v : Value} (h : w.heap[b]? = some (.cells cc t fz)) :
    w.setCell ⟨b, off, none⟩ v = putBlock w b (.cells (cc.setIfInBounds off v) t fz) := by
  unfold World.setCell putBlock
  congr 1
  apply Array.ext_getElem?
  intro k
  have hb : b < w.heap.size := (Array.getElem?_eq_some_iff.1 h).1
  by_cases e : k = b
  · subst e
    rw [Array.getElem?_modify, if_pos rfl, h, Array.getElem?_setIfInBounds_self_of_lt hb]
    rfl
  · rw [Array.getElem?_modify, if_neg (Ne.symm e), Array.getElem?_setIfInBounds_ne (Ne.symm e)]

theorem putBlock_put {w : World} {b : Nat} {o o' : Obj} : putBlock (putBlock w b o) b o' = putBlock w b o' := by
  simp [putBlock, Array.setIfInBounds_setIfInBounds]

theorem putBlock_self {w : World} {b : Nat} {o : Obj} (h : w.heap[b]? = some o) : putBlock w b o = w := by
  unfold putBlock
  have hb := (Array.getElem?_eq_some_iff.1 h)
  obtain ⟨hlt, he⟩ := hb
  have : w.heap.setIfInBounds b o = w.heap := by
    apply Array.ext_getElem?
    intro k
    by_cases e : b = k
    · subst e; simp [hlt, he]
    · simp [Array.getElem?_setIfInBounds_ne e]
  rw [this]

theorem one_oneCell' {v : Value} (h : oneCell v = true) : v.oneCell' = true := by cases v <;> first | rfl | simp [oneCell] at h

theorem set_splice (v : Value) (vs : List Value) : ∀ (l : List Value) (off : Nat), off + (vs.length + 1) ≤ l.length →
    splice (l.set off v) (off + 1) vs = splice l off (v :: vs)
  | [], _, h => by simp at h
  | x :: l, 0, _ => by simp [splice, Nat.add_comm]
  | x :: l, off + 1, h => by
    have ih := set_splice v vs l off (by simp at h; omega)
    unfold splice at *
    simp only [List.set_cons_succ, List.take_succ_cons, List.cons_append, List.length_cons] at ih ⊢
    rw [show off + 1 + 1 + vs.length = (off + 1 + vs.length) + 1 by omega, show off + 1 + (vs.length + 1) = (off + (vs.length + 1)) + 1 by omega, List.drop_succ_cons, List.drop_succ_cons, ih]

theorem splice_length (l : List Value) (off : Nat) (vs : List Value) (h : off + vs.length ≤ l.length) : (splice l off vs).length = l.length := by
  simp [splice]; omega

theorem run_storeCells_put {P : Program} {b p : Nat} {t : TypeId} {fz : Nat × Nat} : ∀ (vs : List Value) (i : Nat) (cc : Array Value) (w : World),
    w.heap[b]? = some (.cells cc t fz) → p + i + vs.length ≤ cc.size → okFrozen cc.size fz → vs.all oneCell = true →
    (storeCells ⟨b, p, none⟩ vs i).run P w = .ok () (putBlock w b (.cells (splice cc.toList (p + i) vs).toArray t fz))
  | [], i, cc, w, h, _, _, _ => by
    simp only [storeCells, splice, List.append_nil, List.length_nil, Nat.add_zero, List.take_append_drop, Array.toArray_toList]
    rw [putBlock_self h]; rfl
  | v :: rest, i, cc, w, h, hl, hf, h1 => by
    simp only [List.length_cons] at hl
    simp only [List.all_cons, Bool.and_eq_true] at h1
    have hlt : p + i < cc.size := by omega
    simp only [storeCells, Sem.run_bind]
    rw [Addr.add_none, run_store P w _ v _ (one_oneCell' h1.1), cell_of h, frozen_of h, hf _ hlt, Array.getElem?_eq_getElem hlt]
    simp only [Bool.false_eq_true, if_false, Result.andThen_ok]
    rw [setCell_put h]
    have hb : b < w.heap.size := (Array.getElem?_eq_some_iff.1 h).1
    rw [run_storeCells_put rest (i + 1) (cc.setIfInBounds (p + i) v) _ (by rw [putBlock_get _ hb, if_pos rfl]) (by simp; omega) (by simpa using hf) h1.2]
    rw [putBlock_put, ← Nat.add_assoc, Array.toList_setIfInBounds, set_splice _ _ _ _ (by simp; omega)]

theorem LRel.splice {σ : Sg} {l l' vs vs' : List Value} (h : LRel σ l l') (k : LRel σ vs vs') (off : Nat) : LRel σ (splice l off vs) (splice l' off vs') := by
  unfold Go.Ideal.splice
  rw [← k.len]
  exact ((h.take _).append k).append (h.drop _)

theorem below_putBlock {B : Nat} {w0 w : World} (h : Below B w0 w) {b : Nat} (hb : B ≤ b) (o : Obj) : Below B w0 (putBlock w b o) :=
  ⟨h.os, h.tape, h.output, by simpa [putBlock] using h.size, fun k hk => by
    rw [← h.block k hk]; simp [putBlock, Array.getElem?_setIfInBounds_ne (show b ≠ k by omega)]⟩

theorem FzOK.put {F : Fz} {w : World} (h : FzOK F w) {b : Nat} {o : Obj} (hb : b < w.heap.size) (hF : F.off b) : FzOK F (putBlock w b o) := by
  refine ⟨fun b' o' v hv => ?_, fun b' es he => ?_⟩
  · have hne : b' ≠ b := fun e => by subst e; rw [hF.1] at hv; cases hv
    obtain ⟨cc, t, fz, k1, k2⟩ := h.c b' o' v hv
    exact ⟨cc, t, fz, by rw [putBlock_get _ hb, if_neg hne]; exact k1, k2⟩
  · have hne : b' ≠ b := fun e => by subst e; rw [hF.2] at he; cases he
    obtain ⟨cl, k⟩ := h.m b' es he
    exact ⟨cl, by rw [putBlock_get _ hb, if_neg hne]; exact k⟩

theorem BRel.off {P : Program} {B : Nat} {σ : Sg} {w : World} {i : Nat} {blk : Blk} (h : BRel P B σ w i blk) (hl : live blk = true) {x : Spot} (hx : σ i = some x) (hB : B ≤ x.b) : σ.f.off x.b := by
  cases blk with
  | cells cs t m =>
    cases m with
    | ro => obtain ⟨b, o, cc, t', fz, h1, h2, _⟩ := h; rw [hx] at h1; cases h1; simp only at hB; omega
    | fix => obtain ⟨b, cc, t', fz, h1, _, _, _, _, h6⟩ := h; rw [hx] at h1; cases h1; exact h6.1
    | grow => obtain ⟨b, es, cc, t', fz, h1, _, _, _, _, _, _, h8⟩ := h; rw [hx] at h1; cases h1; exact h8
    | dead => cases hl
  | iter s pos => obtain ⟨b, h1, _, _, h4⟩ := h; rw [hx] at h1; cases h1; exact h4
  | own n t => cases hl
  | pool rows => cases hl
  | map ks vs => obtain ⟨b, es, cl, h1, _, _, _, _, h6, _⟩ := h; rw [hx] at h1; cases h1; exact h6

/-- One block is exchanged, on both sides. -/
theorem HRel.put {P : Program} {B : Nat} {w0 : Org} {w : World} {σ : Sg} {h : Heap} (H : HRel P B w0 σ h w) {i : Nat} {old new : Blk} {x : Spot} {o : Obj}
    (hg : h.get i = some old) (hl : live old = true) (hl' : live new = true) (hx : σ i = some x) (hB : B ≤ x.b) (hn : BRel P B σ (putBlock w x.b o) i new) :
    HRel P B w0 σ (h.set i new) (putBlock w x.b o) := by
  have hb := H.codom _ _ hx
  have hoff := (H.blk _ _ hg).off hl hx hB
  have lo : ∀ r, old.loc σ i r = some x.b := fun r => loc_some r hl hx
  have ln : ∀ r, new.loc σ i r = some x.b := fun r => loc_some r hl' hx
  refine ⟨below_putBlock H.below hB o, by simpa [putBlock] using H.size, fun j y hj => H.dom j y hj, fun j y hj => by simpa [putBlock] using H.codom j y hj, H.glob, fun j b hj => ?_, fun j k r s bj bk b hj hk lj lk hb' => ?_, H.frz.put hb hoff, H.old, H.tdom⟩
  · rw [Heap.get_set (Heap.lt_of_get hg)] at hj
    split at hj
    · rename_i e
      simp only [Option.some.injEq] at hj
      subst hj; subst e; exact hn
    · rename_i e
      refine (H.blk j b hj).same fun r y hy => ?_
      rw [putBlock_get _ hb, if_neg]
      intro heq
      exact e (H.inj j i r 0 b old y hj hg hy (by rw [heq]; exact lo 0) (by rw [heq]; exact hB))
  · rw [Heap.get_set (Heap.lt_of_get hg)] at hj hk
    split at hj <;> split at hk
    · rename_i e1 e2; rw [e1, e2]
    · rename_i e1 e2; subst e1
      simp only [Option.some.injEq] at hj; subst hj
      rw [ln, ← lo 0] at lj
      exact H.inj j k 0 s old bk b hg hk lj lk hb'
    · rename_i e1 e2; subst e2
      simp only [Option.some.injEq] at hk; subst hk
      rw [ln, ← lo 0] at lk
      exact H.inj j k r 0 bj old b hj hg lj lk hb'
    · exact H.inj j k r s bj bk b hj hk lj lk hb'

/-- Writing. -/
theorem wr_sound {P : Program} {B : Nat} {w0 : Org} {w : World} {σ : Sg} {h h' : Heap} (H : HRel P B w0 σ h w) {a a' : Addr} {vs vs' : List Value}
    (hw : wrCells h a vs = some h') (ha : ARel σ a a') (hv : LRel σ vs vs') :
    ∃ w', (storeCells a' vs').run P w = .ok () w' ∧ HRel P B w0 σ h' w' := by
  have hone : vs.all oneCell = true → vs'.all oneCell = true := by
    clear hw
    intro h1
    induction hv with
    | nil => rfl
    | cons k _ ih => simp only [List.all_cons, Bool.and_eq_true] at h1 ⊢; exact ⟨by rw [k.oneCell]; exact h1.1, ih h1.2⟩
  have hlen := hv.len
  unfold wrCells at hw
  split at hw
  · rename_i cs t m hg hs
    obtain ⟨b', o', k', g1, _, rfl⟩ := ha
    cases m with
    | ro => simp at hw
    | dead => simp at hw
    | fix =>
      simp only [Option.ite_none_right_eq_some, Option.some.injEq, Bool.and_eq_true, Nat.ble_eq] at hw
      obtain ⟨⟨hle, h1⟩, rfl⟩ := hw
      have h1' := hone h1
      obtain ⟨b, cc, t', fz, k1, k2, k3, k4, k5, kf⟩ := H.blk _ _ hg
      rw [k1] at g1; simp only [Option.some.injEq, Spot.mk.injEq] at g1
      obtain ⟨rfl, rfl, rfl⟩ := g1
      have hl := k5.len
      simp only [Array.length_toList] at hl
      refine ⟨_, run_storeCells_put vs' 0 cc w k3 (by omega) k4 h1', ?_⟩
      refine H.put (x := ⟨b, 0, .exact⟩) hg rfl rfl k1 k2 ?_
      refine ⟨b, _, t', fz, k1, k2, by rw [putBlock_get _ (H.codom _ _ k1), if_pos rfl], ?_, ?_, kf⟩
      · simp only [List.size_toArray]; rw [splice_length _ _ _ (by simp; omega)]; simpa using k4
      · simpa using k5.splice hv a.off
    | grow =>
      simp only [Option.ite_none_right_eq_some, Option.some.injEq, Bool.and_eq_true, Nat.ble_eq] at hw
      obtain ⟨⟨hle, h1⟩, rfl⟩ := hw
      have h1' := hone h1
      obtain ⟨b, es, cc, t', fz, k1, k2, k3, k4, k5, k6, k7, kf⟩ := H.blk _ _ hg
      rw [k1] at g1; simp only [Option.some.injEq, Spot.mk.injEq] at g1
      obtain ⟨rfl, rfl, rfl⟩ := g1
      refine ⟨_, run_storeCells_put vs' 0 cc w k4 (by omega) k5 h1', ?_⟩
      refine H.put (x := ⟨b, 0, .grown es cc.size⟩) hg rfl rfl k1 k3 ?_
      have hsz : (splice cc.toList (0 + a.off + 0) vs').length = cc.size := by rw [splice_length _ _ _ (by simp; omega)]; simp
      refine ⟨b, es, _, t', fz, by rw [List.size_toArray, hsz]; exact k1, k2, k3, by rw [putBlock_get _ (H.codom _ _ k1), if_pos rfl], ?_, ?_, ?_, kf⟩
      · simp only [List.size_toArray]; rw [hsz]; exact k5
      · simp only [List.size_toArray]; rw [hsz, splice_length _ _ _ hle]; exact k6
      · rw [splice_length _ _ _ hle]
        have := k7.splice hv a.off
        have e : splice (cc.toList.take cs.length) a.off vs' = (splice cc.toList (0 + a.off + 0) vs').take cs.length := by
          simp only [Nat.zero_add, Nat.add_zero]
          unfold Go.Ideal.splice
          rw [← hlen, List.take_append, List.take_append, List.take_take, List.take_take]
          simp only [List.length_append, List.length_take, Array.length_toList]
          rw [Nat.min_eq_left (show a.off ≤ cs.length by omega), Nat.min_eq_right (show a.off ≤ cs.length by omega), Nat.min_eq_left (show a.off ≤ cc.size by omega)]
          rw [List.take_of_length_le (l := vs') (by omega), List.drop_take, ← hlen]
        rw [← e]; exact this
  · cases hw

theorem Below.alloc_get (w : World) (o : Obj) {b : Nat} {x : Obj} (h : w.heap[b]? = some x) : (w.alloc o).heap[b]? = some x := by
  rw [Below.heap_alloc w o b (Array.getElem?_eq_some_iff.1 h).1]; exact h
theorem FzOK.alloc {F : Fz} {w : World} (h : FzOK F w) (o : Obj) : FzOK F (w.alloc o) :=
  ⟨fun b o' v hv => let ⟨cc, t, fz, k1, k2⟩ := h.c b o' v hv; ⟨cc, t, fz, Below.alloc_get w o k1, k2⟩, fun b es he => let ⟨cl, k⟩ := h.m b es he; ⟨cl, Below.alloc_get w o k⟩⟩
theorem FzOK.off {F : Fz} {w : World} (h : FzOK F w) {b : Nat} (hb : w.heap.size ≤ b) : F.off b := by
  have hn : w.heap[b]? = none := by simp; omega
  refine ⟨fun o => ?_, ?_⟩
  · cases e : F.c b o with
    | none => rfl
    | some v => obtain ⟨cc, t, fz, k1, _⟩ := h.c b o v e; rw [hn] at k1; cases k1
  · cases e : F.m b with
    | none => rfl
    | some es => obtain ⟨cl, k⟩ := h.m b es e; rw [hn] at k; cases k

theorem loc_put {σ : Sg} {n i r : Nat} {x : Spot} {b : Blk} (h : i ≠ n) : b.loc (σ.put n x) i r = b.loc σ i r := by
  cases b with
  | cells cs t m => cases m <;> simp [Blk.loc, Sg.put_ne _ _ h]
  | own m t => rfl
  | pool rows => rfl
  | _ => simp [Blk.loc, Sg.put_ne _ _ h]

/-- A new block, on both sides. -/
theorem HRel.push {P : Program} {B : Nat} {w0 : Org} {w : World} {σ : Sg} {h : Heap} (H : HRel P B w0 σ h w) {new : Blk} {o : Obj} {k : SK}
    (hn : BRel P B (σ.put h.next ⟨w.heap.size, 0, k⟩) (w.alloc o) h.next new) :
    HRel P B w0 (σ.put h.next ⟨w.heap.size, 0, k⟩) (h.push new) (w.alloc o) ∧ σ.le (σ.put h.next ⟨w.heap.size, 0, k⟩) := by
  have hfresh : σ h.next = none := by
    cases e : σ h.next with
    | none => rfl
    | some x => exact absurd (H.dom _ _ e) (Nat.lt_irrefl _)
  have hle : σ.le (σ.put h.next ⟨w.heap.size, 0, k⟩) := Sg.le_put hfresh
  have hnT : ∀ m, σ.T h.next m = none := fun m => by
    cases e : σ.T h.next m with
    | none => rfl
    | some x => exact absurd (H.tdom _ _ _ e) (Nat.lt_irrefl _)
  have lnew : ∀ {r b}, new.loc (σ.put h.next ⟨w.heap.size, 0, k⟩) h.next r = some b → b = w.heap.size := fun {r b} hl => by
    by_cases hv : live new = true
    · rw [loc_some r hv (Sg.put_self _ _ _)] at hl; simpa using hl.symm
    · cases new with
      | cells cs t m => cases m <;> first | (simp [Blk.loc] at hl; done) | exact absurd rfl hv
      | own n t => simp [Blk.loc, Sg.put_T, hnT] at hl
      | pool rows => obtain ⟨_, _, _, _, k⟩ := loc_pool hl; rw [Sg.put_T, hnT] at k; cases k
      | iter s pos => exact absurd rfl hv
      | map ks vs => exact absurd rfl hv
  refine ⟨⟨H.below.alloc H.size o, by show B ≤ (w.heap.push o).size; rw [Array.size_push]; have := H.size; omega, fun j y hj => ?_, fun j y hj => ?_, fun g hg => hle.pl _ _ (H.glob g hg), fun j b hj => ?_, fun i j r s bi bj b hi hj li lj hB => ?_, H.frz.alloc o, H.old, fun i n x hx => Nat.lt_succ_of_lt (H.tdom i n x hx)⟩, hle⟩
  · by_cases e : j = h.next
    · subst e; simp [Heap.next_push]
    · rw [Sg.put_ne _ _ e] at hj; have := H.dom _ _ hj; simp [Heap.next_push]; omega
  · by_cases e : j = h.next
    · subst e; rw [Sg.put_self] at hj; simp only [Option.some.injEq] at hj; subst hj; show w.heap.size < (w.heap.push o).size; rw [Array.size_push]; omega
    · rw [Sg.put_ne _ _ e] at hj; have := H.codom _ _ hj; show y.b < (w.heap.push o).size; rw [Array.size_push]; omega
  · rw [Heap.get_push] at hj
    split at hj
    · rename_i e; simp only [Option.some.injEq] at hj; subst hj; subst e; exact hn
    · rename_i e
      exact (H.blk j b hj).mono hle (fun _ x hx => Below.heap_alloc w o _ (H.blk_lt hj hx)) (fun _ _ _ _ => ⟨rfl, rfl⟩) fun _ => rfl
  · rw [Heap.get_push] at hi hj
    split at hi <;> split at hj
    · rename_i e1 e2; rw [e1, e2]
    · rename_i e1 e2; subst e1
      simp only [Option.some.injEq] at hi; subst hi
      rw [loc_put e2] at lj
      have := H.blk_lt hj lj
      have := lnew li
      omega
    · rename_i e1 e2; subst e2
      simp only [Option.some.injEq] at hj; subst hj
      rw [loc_put e1] at li
      have := H.blk_lt hi li
      have := lnew lj
      omega
    · rename_i e1 e2
      rw [loc_put e1] at li; rw [loc_put e2] at lj
      exact H.inj i j r s bi bj b hi hj li lj hB

theorem okFrozen_zero (n : Nat) : okFrozen n (0, 0) := fun j _ => by simp

theorem HRel.push_fix {P : Program} {B : Nat} {w0 : Org} {w : World} {σ : Sg} {h : Heap} (H : HRel P B w0 σ h w) {cs cs' : List Value} {t : TypeId} (hc : LRel σ cs cs') :
    HRel P B w0 (σ.put h.next ⟨w.heap.size, 0, .exact⟩) (h.push (.cells cs t .fix)) (w.alloc (.cells cs'.toArray t)) ∧ σ.le (σ.put h.next ⟨w.heap.size, 0, .exact⟩) := by
  refine H.push ?_
  have hle : σ.le (σ.put h.next ⟨w.heap.size, 0, .exact⟩) := Sg.le_put (by
    cases e : σ h.next with
    | none => rfl
    | some x => exact absurd (H.dom _ _ e) (Nat.lt_irrefl _))
  exact ⟨w.heap.size, cs'.toArray, t, (0, 0), Sg.put_self _ _ _, H.size, by show (w.heap.push _)[w.heap.size]? = _; simp, okFrozen_zero _, by simpa using hc.mono hle, H.frz.off (Nat.le_refl _), rfl⟩

end Go.Ideal

end
