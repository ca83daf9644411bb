/- Texts packed together: ITop. -/
import Derived.KernelRfl
import Derived.Test.YtidlganponfccaaDoorZ11
section
/- From what the interpreter asks to what a function does. Over any program. -/
set_option linter.unusedVariables false
set_option linter.unusedSimpArgs false
namespace Go.Ideal
open Go.RowKit

variable {P : Program}

/-- What is to be shown for a call of f. -/
def wpF (P : Program) (pf : FuncId → Bool) (wk : List Nat) (k : Nat) (f : FuncId) (args : List Value) (h : Heap) (adv : Adv) (S : Value → Heap → Prop) : Prop := inlT P (wpA P pf wk k) f args h 0 adv fun v h' _ _ => S v h'

theorem CallS.wp (hP : ProgOK P) {pf : FuncId → Bool} {wk : List Nat} {k : Nat} {f : FuncId} {args : List Value} {h : Heap} {adv : Adv} {S : Value → Heap → Prop} (hw : wpF P pf wk k f args h adv S) : CallS P f args h S :=
  (inlT_sound hP (ex := wpA P pf wk k) (fun c ts h n adv Q hc hw => (wpA_sound hP k c ts h n adv Q hc hw).mono fun x ts' h' hx => hx.2) f args h 0 adv _ hw).2.mono fun v h' ⟨_, _, hs⟩ => hs

theorem CallS.via (hP : ProgOK P) (pf : FuncId → Bool) (wk : List Nat) (k : Nat) {f : FuncId} {args : List Value} {h : Heap} (adv : Adv) {S : Value → Heap → Prop} {p : Prop} (he : wpF P pf wk k f args h adv S = p) (hp : p) : CallS P f args h S := CallS.wp hP (he ▸ hp)

theorem CallK.via (hP : ProgOK P) (pf : FuncId → Bool) (wk : List Nat) (k : Nat) {f : FuncId} {args : List Value} (adv : Adv) {v : Value} (ha : args.all clo = true) (hv : clo v = true) {p : Prop}
    (he : wpF P pf wk k f args (Heap.empty P.globals.size) adv (fun v' _ => v' = v) = p) (hp : p) : CallK P f args v := CallK.of ha hv (CallS.wp hP (he ▸ hp))

/-- What is told of a loop: nil slices that are appended to (slot, cells of an element, its type); the slots that carry the state; the heap; what holds at the head of a round; how many rounds at most; the state at the start. -/
structure LoopHint where
  {σ : Type}
  own : List (Nat × Nat × TypeId)
  f : σ → List (Nat × Value)
  H : Heap → σ → Heap
  Inv : Nat → σ → Prop
  n0 : Nat
  s0 : σ

def pfs (l : List Nat) : FuncId → Bool := fun f => l.any (Nat.beq f)

/-- A closed run. -/
theorem CallK.run (hP : ProgOK P) (k : Nat) {f : FuncId} {args : List Value} {v : Value} (ha : args.all clo = true) (hv : clo v = true) (ht : hasText P f = true) (he : (callI P noOrc k f args (Heap.empty P.globals.size)).map (·.1) = some v) : CallK P f args v := by
  obtain ⟨⟨v1, h1⟩, he1, e⟩ := Option.map_eq_some_iff.1 he
  obtain rfl : v1 = v := e
  obtain ⟨fn, c, hf, hb⟩ := hasText_of ht
  refine CallK.of ha hv fun B w0 σ w args' H hargs => (callI_sound hP noOrc_sound hf hb rfl rfl he1 H hargs).mono fun e w' ⟨v', k1, σ', k2, k3, k4⟩ => ⟨v1, v', h1, k1, rfl, σ', k2, k3, k4⟩

/-! ### values, seen otherwise -/
def Coe (v v2 : Value) : Prop := ∀ (σ : Sg) (v' : Value), VRel σ v v' → VRel σ v2 v'
theorem Coe.refl (v : Value) : Coe v v := fun _ _ h => h
theorem Coe.os (tok es n : Nat) (cells : Array Value) : Coe (osl tok es n cells) (vsl n cells) := fun σ v' h => by
  have hs : asSl (osl tok es n cells) = some ((n : Int), cells) := rfl
  obtain ⟨m, e, ⟨a', c', rfl, rfl, rfl⟩ | ⟨b, o, c', rfl, hc, hst⟩⟩ := asSl_rel hs h
  · have : n = 0 := by omega
    subst this
    exact (FRel.vnil a' c').vrel
  · have : n = m := by omega
    subst this
    exact (hst.vsl hc).vrel
theorem Coe.nil : Coe (.slice none 0 0) (vsl 0 #[]) := fun σ v' h => by cases h; exact (FRel.vnil none 0).vrel
theorem Coe.list {l l2 : List Value} (hl : l.length = l2.length) (h : ∀ j, j < l.length → Coe (l.getD j Go.undef) (l2.getD j Go.undef)) {σ : Sg} {l' : List Value} (hr : LRel σ l l') : LRel σ l2 l' :=
  LRel.of_getD (by rw [← hl]; exact hr.len) fun j hj => h j (by omega) σ _ (hr.getD j)
theorem Coe.tuple {l l2 : List Value} (hl : l.length = l2.length) (h : ∀ j, j < l.length → Coe (l.getD j Go.undef) (l2.getD j Go.undef)) : Coe (.tuple l.toArray) (.tuple l2.toArray) := fun σ v' hv => by
  cases hv with
  | tuple ha hh => exact VRel.tuple_of (Coe.list (l := l) (l2 := l2) hl h (by simpa using VRel.tuple_list (.tuple ha hh)))
theorem Coe.agg {l l2 : List Value} (hl : l.length = l2.length) (h : ∀ j, j < l.length → Coe (l.getD j Go.undef) (l2.getD j Go.undef)) : Coe (.agg l.toArray) (.agg l2.toArray) := fun σ v' hv => by
  cases hv with
  | agg ha hh => exact VRel.agg_of (Coe.list (l := l) (l2 := l2) hl h (by simpa using VRel.agg_list (.agg ha hh)))
theorem Coe.weak {v v2 : Value} {h : Heap} (hc : Coe v v2) : Weak P [v] h [v2] h := fun B w0 σ w l H hl => by
  cases hl with
  | cons hv ht => cases ht; exact ⟨σ, Sg.le_refl σ, H, .cons (hc σ _ hv) .nil⟩

theorem CallS.coe {f : FuncId} {args : List Value} {h : Heap} {S : Value → Heap → Prop} (hc : CallS P f args h fun v h' => ∃ v2, Coe v v2 ∧ S v2 h') : CallS P f args h S :=
  CallS.post_weak (hc.mono fun v h' ⟨v2, k1, k2⟩ => ⟨v2, h', k1.weak, k2⟩)

/-- The same, the answer seen otherwise. -/
theorem CallK.coe (hP : ProgOK P) (pf : FuncId → Bool) (wk : List Nat) (k : Nat) {f : FuncId} {args : List Value} (adv : Adv) {v : Value} (ha : args.all clo = true) (hv : clo v = true) {p : Prop}
    (he : wpF P pf wk k f args (Heap.empty P.globals.size) adv (fun v' _ => Coe v' v) = p) (hp : p) : CallK P f args v := CallK.of ha hv (CallS.coe ((CallS.wp hP (S := fun v' _ => Coe v' v) (he ▸ hp)).mono fun v' _ hc => ⟨v, hc, rfl⟩))

/-- The same, what was made stays from then on. -/
def FrzTo (v : Value) (v' : Value) (h' : Heap) : Prop := match borL (borV true 8 h') [v'] with
  | some [v2] => mapsP h' h'.next ∧ v2 = v
  | _ => False
def FrzCoe (v : Value) (v' : Value) (h' : Heap) : Prop := match borL (borV true 8 h') [v'] with
  | some [v2] => mapsP h' h'.next ∧ Coe v2 v
  | _ => False
theorem CallS.frz {f : FuncId} {args : List Value} {h : Heap} {v : Value} (hc : CallS P f args h (FrzCoe v)) : CallS P f args h fun v1 _ => v1 = v :=
  CallS.post_weak (hc.mono fun v' h' hb => by
    unfold FrzCoe at hb
    split at hb
    · rename_i v2 he; exact ⟨v, _, (Weak.freeze hb.1 he).trans hb.2.weak, rfl⟩
    · cases hb)
theorem FrzTo.coe {v v' : Value} {h' : Heap} (h : FrzTo v v' h') : FrzCoe v v' h' := by
  unfold FrzTo at h; unfold FrzCoe
  split at h
  · exact ⟨h.1, h.2 ▸ Coe.refl _⟩
  · cases h
theorem CallK.frz (hP : ProgOK P) (pf : FuncId → Bool) (wk : List Nat) (k : Nat) {f : FuncId} {args : List Value} (adv : Adv) {v : Value} (ha : args.all clo = true) (hv : clo v = true) {p : Prop}
    (he : wpF P pf wk k f args (Heap.empty P.globals.size) adv (FrzTo v) = p) (hp : p) : CallK P f args v := CallK.of ha hv (CallS.frz ((CallS.wp hP (S := FrzTo v) (he ▸ hp)).mono fun _ _ h => h.coe))
/-! ### a slice that is appended to, from nothing -/
theorem set_set_rel {σ : Sg} {l l' : List Value} (h : LRel σ l l') (i : Nat) (v : Value) (hv : ∀ v', l'[i]? = some v' → VRel σ v v') : LRel σ (l.set i v) l' := by
  induction h generalizing i with
  | nil => exact .nil
  | cons k t ih => cases i with
    | zero => exact .cons (hv _ (by simp)) t
    | succ i => exact .cons k (ih i fun v' h => hv v' (by simpa using h))

/-- A nil slice is a slice that is appended to, with nothing in it. -/
theorem Weak.own {ts : List Value} {h : Heap} (i es : Nat) (t : TypeId) (hi : ts[i]? = some (.slice none 0 0)) : Weak P ts h (ts.set i (osl h.next es 0 #[])) (h.push (.own 0 t)) := fun B w0 σ w l H hl => by
  have hnT : ∀ m, σ.T h.next m = none := fun m => by
    cases e : σ.T h.next m with
    | none => rfl
    | some x => exact absurd (H.tdom _ _ _ e) (Nat.lt_irrefl _)
  refine ⟨σ, Sg.le_refl σ, ⟨H.below, H.size, fun j x hj => Nat.lt_succ_of_lt (H.dom j x hj), H.codom, H.glob, fun j b hj => ?_, fun j k r s bj bk b hj hk lj lk hB => ?_, H.frz, H.old, fun j n x hx => Nat.lt_succ_of_lt (H.tdom j n x hx)⟩, set_set_rel hl i _ fun v' hv' => ?_⟩
  · rw [Heap.get_push] at hj
    split at hj
    · rename_i e; simp only [Option.some.injEq] at hj; subst hj; subst e; exact .inl ⟨rfl, hnT⟩
    · exact H.blk j b hj
  · rw [Heap.get_push] at hj hk
    split at hj
    · rename_i e; simp only [Option.some.injEq] at hj; subst hj; subst e; simp [Blk.loc, hnT] at lj
    · split at hk
      · rename_i e; simp only [Option.some.injEq] at hk; subst hk; subst e; simp [Blk.loc, hnT] at lk
      · exact H.inj j k r s bj bk b hj hk lj lk hB
  · obtain ⟨u, k1, k2⟩ := hl.get? i _ hi
    rw [hv'] at k1; cases k1
    cases k2
    exact .osnil h.next es


/-- The same, in a cell of a block. -/
theorem Weak.ownAt {ts : List Value} {h : Heap} (i j es : Nat) (t : TypeId) {cs : List Value} {ct : TypeId} (hg : h.get i = some (.cells cs ct .fix)) (hj : cs[j]? = some (.slice none 0 0)) : Weak P ts h ts ((h.set i (.cells (cs.set j (osl h.next es 0 #[])) ct .fix)).push (.own 0 t)) := fun B w0 σ w l H hl => by
  have hlt := Heap.lt_of_get hg
  have hnT : ∀ m, σ.T h.next m = none := fun m => by
    cases e : σ.T h.next m with
    | none => rfl
    | some x => exact absurd (H.tdom _ _ _ e) (Nat.lt_irrefl _)
  have get2 : ∀ k, ((h.set i (.cells (cs.set j (osl h.next es 0 #[])) ct .fix)).push (.own 0 t)).get k = if k = h.next then some (.own 0 t) else if k = i then some (.cells (cs.set j (osl h.next es 0 #[])) ct .fix) else h.get k := fun k => by
    rw [Heap.get_push, Heap.next_set, Heap.get_set hlt]
  refine ⟨σ, Sg.le_refl σ, ⟨H.below, H.size, fun j x hj => Nat.lt_succ_of_lt (H.dom j x hj), H.codom, H.glob, fun k b hk => ?_, fun k k' r s bk bk' b hk hk' lk lk' hB => ?_, H.frz, H.old, fun j n x hx => Nat.lt_succ_of_lt (H.tdom j n x hx)⟩, hl⟩
  · rw [get2] at hk
    split at hk
    · rename_i e; simp only [Option.some.injEq] at hk; subst hk; subst e; exact .inl ⟨rfl, hnT⟩
    · split at hk
      · rename_i e; simp only [Option.some.injEq] at hk; subst hk; subst e
        obtain ⟨b, cc, t', fz, h1, h2, h3, h4, h5, h6⟩ := H.blk _ _ hg
        refine ⟨b, cc, t', fz, h1, h2, h3, h4, set_set_rel h5 j _ fun v' hv' => ?_, h6⟩
        obtain ⟨u, k1, k2⟩ := h5.get? j _ hj
        rw [hv'] at k1; cases k1
        cases k2
        exact .osnil h.next es
      · exact H.blk k b hk
  · have old : ∀ k r bk, ((h.set i (.cells (cs.set j (osl h.next es 0 #[])) ct .fix)).push (.own 0 t)).get k = some bk → bk.loc σ k r = some b → ∃ b0, h.get k = some b0 ∧ b0.loc σ k r = some b := fun k r bk hk lk => by
      rw [get2] at hk
      split at hk
      · rename_i e; simp only [Option.some.injEq] at hk; subst hk; subst e; simp [Blk.loc, hnT] at lk
      · split at hk
        · rename_i e; simp only [Option.some.injEq] at hk; subst hk; subst e; exact ⟨_, hg, lk⟩
        · exact ⟨bk, hk, lk⟩
    obtain ⟨b1, q1, q2⟩ := old k r bk hk lk
    obtain ⟨b2, r1, r2⟩ := old k' s bk' hk' lk'
    exact H.inj k k' r s b1 b2 b q1 r1 q2 r2 hB

theorem Weak.ownAt' {ts ts2 : List Value} {h h2 : Heap} (i j es : Nat) (t : TypeId) {cs : List Value} {ct : TypeId} (hg : h.get i = some (.cells cs ct .fix)) (hj : cs[j]? = some (.slice none 0 0)) (ets : ts2 = ts)
    (eh : h2 = (h.set i (.cells (cs.set j (osl h.next es 0 #[])) ct .fix)).push (.own 0 t)) : Weak P ts h ts2 h2 := by subst ets; subst eh; exact Weak.ownAt i j es t hg hj
theorem Weak.own' {ts ts2 : List Value} {h h2 : Heap} (i es : Nat) (t : TypeId) (hi : ts[i]? = some (.slice none 0 0)) (ets : ts2 = ts.set i (osl h.next es 0 #[])) (eh : h2 = h.push (.own 0 t)) : Weak P ts h ts2 h2 := by subst ets; subst eh; exact Weak.own i es t hi

end Go.Ideal

end
