/- Texts packed together: IFork IWpA IAsk. -/
import Derived.Test.YtidlganponfccaaDoorZ9
section
/- A region that draws its order, order by order: where two operations may come up either way, each way for itself. Over any program. -/
set_option linter.unusedVariables false
set_option linter.unusedSimpArgs false
namespace Go.Ideal
open Go.RowKit

variable {P : Program} {Q : Exit → Act → World → Prop}

/-- An order in which a region's operations may come up. -/
def Lin (ops : Array Oper) : Array Bool → List Nat → Prop
  | listed, [] => Region.ready .any ops listed = []
  | listed, i :: L => i ∈ Region.ready .any ops listed ∧ Lin ops (listed.setIfInBounds i true) L

theorem Lin.sound {ops : Array Oper} : ∀ (L : List Nat) (fuel : Nat) (listed : Array Bool) (a : Act) (w : World), wpAny P .any ops Q fuel listed a w → Lin ops listed L → wpOps P ops Q L a w
  | [], 0, _, _, _, h, _ => h.2
  | [], _ + 1, _, _, _, h, hl => h.1 hl
  | i :: L, 0, _, _, _, h, hl => by have := hl.1; rw [h.1] at this; cases this
  | i :: L, fuel + 1, listed, a, w, h, hl => by
    rw [wpOps_cons]
    exact wpOp_mono (fun a w k => Lin.sound L fuel _ a w k hl.2) (h.2 i hl.1)

theorem ready_todo {ops : Array Oper} {listed : Array Bool} (h : todo ops.size listed = 0) : Region.ready .any ops listed = [] := by
  apply List.eq_nil_iff_forall_not_mem.2
  intro i hi
  obtain ⟨k1, o, k2, _⟩ := mem_ready.1 hi
  have : i ∈ (List.range ops.size).filter fun i => !listed.getD i true := List.mem_filter.2 ⟨List.mem_range.2 (Array.getElem?_eq_some_iff.1 k2).1, by rw [k1]; rfl⟩
  rw [List.length_eq_zero_iff.1 h] at this
  cases this

theorem Lin.of_go {ops : Array Oper} : ∀ (fuel t : Nat) (listed : Array Bool), listed.size = ops.size → todo ops.size listed ≤ fuel → Lin ops listed (Region.linearise.go .any ops fuel t listed [])
  | 0, t, listed, _, h => ready_todo (Nat.le_zero.1 h)
  | fuel + 1, t, listed, hs, h => by
    simp only [Region.linearise.go]
    change Lin ops listed (match (Region.ready .any ops listed)[t % (Region.ready .any ops listed).length]? with
      | some i => Region.linearise.go .any ops fuel (t / (Region.ready .any ops listed).length) (listed.setIfInBounds i true) [i]
      | none => [].reverse)
    cases hi : (Region.ready .any ops listed)[t % (Region.ready .any ops listed).length]? with
    | none =>
      cases hr : Region.ready .any ops listed with
      | nil => exact hr
      | cons x xs =>
        rw [hr] at hi
        have hlt : t % (x :: xs).length < (x :: xs).length := Nat.mod_lt _ (by simp)
        simp at hi
        simp at hlt
        omega
    | some i =>
      simp only []
      rw [linearise_go_acc, List.reverse_singleton, List.singleton_append]
      have hm := List.mem_of_getElem? hi
      refine ⟨hm, Lin.of_go fuel _ _ (by rw [Array.size_setIfInBounds]; exact hs) ?_⟩
      have := todo_set (n := ops.size) hs (mem_ready.1 hm).1
      omega

/-- Whatever order it is. -/
def WpReg (P : Program) (ops : Array Oper) (Q : Exit → Act → World → Prop) (a : Act) (w : World) : Prop :=
  ∀ L, Lin ops (Array.replicate ops.size false) L → wpOps P ops Q L a w
theorem WpReg.any {ops : Array Oper} {a : Act} {w : World} (h : wpAny P .any ops Q ops.size (Array.replicate ops.size false) a w) : WpReg P ops Q a w := fun L hl => Lin.sound L _ _ a w h hl
theorem WpReg.region {ops : Array Oper} {id : Nat} {a : Act} {w : World} (hm : P.follows .mixedOrders = true) (h : WpReg P ops Q a { w with drawn := w.drawn + 1 }) : (Code.region id ops true).wp P Q a w :=
  wp_region_draw fun t => by
    simp only [Region.schedule, hm, Bool.true_or, if_true]
    exact h _ (Lin.of_go ops.size t _ (by simp) (by
      unfold todo
      exact Nat.le_trans (List.length_filter_le _ _) (by simp)))

/-! ### the same operations, renumbered -/
structure SameOp (π : Nat → Nat) (o o' : Oper) : Prop where
  dst : o'.dst = o.dst
  guard : o'.guard = o.guard.map fun g => (π g.1, g.2)
  exec : ∀ ρ, execOp ρ o' = execOp ρ o

theorem upon_dst {o o' : Oper} (h : o'.dst = o.dst) (a : Act) (K : Act → World → Prop) (r : Result Next) : o'.upon P a K Q r = o.upon P a K Q r := by
  unfold Oper.upon
  rw [h]

theorem SameOp.wp {π : Nat → Nat} {o o' : Oper} (s : SameOp π o o') {a : Act} {w : World} {K : Act → World → Prop} (h : o'.wp P a w K Q) : o.wp P a w K Q := by
  unfold Oper.wp at *
  rw [s.exec, upon_dst s.dst] at h
  exact h
theorem SameOp.asks {π : Nat → Nat} {o o' : Oper} (s : SameOp π o o') {a : Act} {w : World} (h : o'.asks P a w) : o.asks P a w := by
  unfold Oper.asks at *
  rw [s.exec] at h
  exact h

/-- ops' is ops, renumbered by π. -/
structure SameReg (π : Nat → Nat) (ops ops' : Array Oper) : Prop where
  some_ : ∀ i o, ops[i]? = some o → ∃ o', ops'[π i]? = some o' ∧ SameOp π o o'
  none_ : ∀ i, ops[i]? = none → ops'[π i]? = none

theorem SameReg.yields {π : Nat → Nat} {ops ops' : Array Oper} (s : SameReg π ops ops') (tmps : Array Value) (g : Nat) : yielded ops' tmps (π g) = yielded ops tmps g := by
  unfold yielded
  cases h : ops[g]? with
  | none => rw [s.none_ g h]
  | some o =>
    obtain ⟨o', k1, k2⟩ := s.some_ g o h
    rw [k1]
    simp only [Option.bind_some, k2.dst]
theorem SameReg.wanted {π : Nat → Nat} {ops ops' : Array Oper} (s : SameReg π ops ops') {o o' : Oper} (k : SameOp π o o') (tmps : Array Value) : Region.wanted o' (yielded ops' tmps) = Region.wanted o (yielded ops tmps) := by
  unfold Region.wanted
  rw [k.guard]
  cases hg : o.guard with
  | none => rfl
  | some g =>
    obtain ⟨j, want⟩ := g
    simp only [Option.map_some, s.yields]
theorem SameReg.wpOps {π : Nat → Nat} {ops ops' : Array Oper} (s : SameReg π ops ops') : ∀ (L : List Nat) (a : Act) (w : World), wpOps P ops' Q (L.map π) a w → wpOps P ops Q L a w
  | [], _, _, h => h
  | i :: L, a, w, h => by
    rw [List.map_cons, wpOps_cons] at h
    rw [wpOps_cons]
    unfold wpOp at h ⊢
    cases ho : ops[i]? with
    | none =>
      rw [s.none_ i ho] at h
      exact s.wpOps L a w h
    | some o =>
      obtain ⟨o', k1, k2⟩ := s.some_ i o ho
      rw [k1] at h
      simp only [s.wanted k2] at h
      simp only
      split
      · rename_i hw
        rw [if_pos hw] at h
        rcases h with h | h
        · exact .inl (Oper.wp_mono (fun a w k => s.wpOps L a w k) (k2.wp h))
        · exact .inr ⟨k2.asks h.1, h.2⟩
      · rename_i hw
        rw [if_neg hw, k2.dst] at h
        exact s.wpOps L _ w h

/-- The same must come ahead. -/
structure SameEdge (π : Nat → Nat) (ops ops' : Array Oper) : Prop where
  size : ops'.size = ops.size
  lt : ∀ i, i < ops.size ↔ π i < ops.size
  inj : ∀ i j, π i = π j → i = j
  onto : ∀ j, j < ops.size → ∃ i, i < ops.size ∧ π i = j
  fwd : ∀ i o o', ops[i]? = some o → ops'[π i]? = some o' → ∀ e' ∈ o'.after, Region.binds .any e' = true → ∃ e ∈ o.after, Region.binds .any e = true ∧ e'.on = π e.on
  bwd : ∀ i o o', ops[i]? = some o → ops'[π i]? = some o' → ∀ e ∈ o.after, Region.binds .any e = true → ∃ e' ∈ o'.after, Region.binds .any e' = true ∧ e'.on = π e.on

theorem getD_of_lt {l : Array Bool} {i : Nat} (h : i < l.size) (a b : Bool) : l.getD i a = l.getD i b := by simp [Array.getD_eq_getD_getElem?, h]
theorem set_getD {l : Array Bool} {i j : Nat} (h : i < l.size) : (l.setIfInBounds i true).getD j false = if j = i then true else l.getD j false := by
  by_cases e : j = i
  · subst e; simp [h]
  · rw [if_neg e, Go.getD_set_ne false (Ne.symm e)]

theorem SameEdge.ready {π : Nat → Nat} {ops ops' : Array Oper} (s : SameReg π ops ops') (t : SameEdge π ops ops') {l l' : Array Bool} (h1 : l.size = ops.size) (h2 : l'.size = ops.size) (hl : ∀ i, l'.getD (π i) false = l.getD i false) (i : Nat) :
    π i ∈ Region.ready .any ops' l' ↔ i ∈ Region.ready .any ops l := by
  have un : i < ops.size → l'.getD (π i) true = l.getD i true := fun hi => by
    rw [getD_of_lt (by rw [h2]; exact (t.lt i).1 hi) true false, getD_of_lt (by rw [h1]; exact hi) true false, hl]
  rw [mem_ready, mem_ready]
  constructor
  · rintro ⟨k1, o', k2, k3⟩
    have hi : i < ops.size := (t.lt i).2 (by have := (Array.getElem?_eq_some_iff.1 k2).1; rw [t.size] at this; exact this)
    refine ⟨by rw [← un hi]; exact k1, ops[i], Array.getElem?_eq_getElem hi, fun e he hb => ?_⟩
    obtain ⟨e', q1, q2, q3⟩ := t.bwd i _ o' (Array.getElem?_eq_getElem hi) k2 e he hb
    have := k3 e' q1 q2
    rwa [q3, hl] at this
  · rintro ⟨k1, o, k2, k3⟩
    have hi : i < ops.size := (Array.getElem?_eq_some_iff.1 k2).1
    obtain ⟨o', k4, _⟩ := s.some_ i o k2
    refine ⟨by rw [un hi]; exact k1, o', k4, fun e' he hb => ?_⟩
    obtain ⟨e, q1, q2, q3⟩ := t.fwd i o o' k2 k4 e' he hb
    rw [q3, hl]
    exact k3 e q1 q2

theorem SameEdge.lin {π : Nat → Nat} {ops ops' : Array Oper} (s : SameReg π ops ops') (t : SameEdge π ops ops') : ∀ (L : List Nat) (l l' : Array Bool), l.size = ops.size → l'.size = ops.size → (∀ i, l'.getD (π i) false = l.getD i false) → Lin ops l L → Lin ops' l' (L.map π)
  | [], l, l', h1, h2, hl, h => by
    refine List.eq_nil_iff_forall_not_mem.2 fun j hj => ?_
    have hj' : j < ops.size := by
      obtain ⟨_, o, k, _⟩ := mem_ready.1 hj
      rw [← t.size]; exact (Array.getElem?_eq_some_iff.1 k).1
    obtain ⟨i, hi, rfl⟩ := t.onto j hj'
    have := (t.ready s h1 h2 hl i).1 hj
    have h : Region.ready .any ops l = [] := h
    rw [h] at this
    cases this
  | i :: L, l, l', h1, h2, hl, h => by
    have hi : i < ops.size := by
      obtain ⟨_, o, k, _⟩ := mem_ready.1 h.1
      exact (Array.getElem?_eq_some_iff.1 k).1
    refine ⟨(t.ready s h1 h2 hl i).2 h.1, t.lin s L _ _ (by rw [Array.size_setIfInBounds]; exact h1) (by rw [Array.size_setIfInBounds]; exact h2) (fun j => ?_) h.2⟩
    rw [set_getD (by rw [h2]; exact (t.lt i).1 hi), set_getD (by rw [h1]; exact hi), hl]
    by_cases e : j = i
    · subst e; simp
    · rw [if_neg e, if_neg fun k => e (t.inj _ _ k)]

theorem WpReg.same {π : Nat → Nat} {ops ops' : Array Oper} (s : SameReg π ops ops') (t : SameEdge π ops ops') {a : Act} {w : World} (h : WpReg P ops' Q a w) : WpReg P ops Q a w := fun L hl => by
  have hrep : ∀ (n j : Nat), (Array.replicate n false).getD j false = false := fun n j => by
    simp only [Array.getD_eq_getD_getElem?, Array.getElem?_replicate]
    split <;> rfl
  exact s.wpOps L a w (h _ (t.lin s L _ _ (by simp) (by simp [t.size]) (fun i => by rw [hrep, hrep]) hl))

/-! ### one more thing that must come ahead -/
def addE (i j : Nat) : Nat → List Oper → List Oper
  | _, [] => []
  | k, o :: l => (match Nat.beq k j with
    | true => { o with after := (⟨i, .chain⟩ :: o.after.toList).toArray }
    | false => o) :: addE i j (k + 1) l
theorem addE_get (i j : Nat) : ∀ (l : List Oper) (k m : Nat), (addE i j k l)[m]? = (l[m]?).map fun o => match Nat.beq (k + m) j with
    | true => { o with after := (⟨i, .chain⟩ :: o.after.toList).toArray }
    | false => o
  | [], k, m => by simp [addE]
  | o :: l, k, 0 => rfl
  | o :: l, k, m + 1 => by
    simp only [addE, List.getElem?_cons_succ, addE_get i j l (k + 1) m]
    rw [show k + 1 + m = k + (m + 1) by omega]
theorem addE_length (i j : Nat) : ∀ (l : List Oper) (k : Nat), (addE i j k l).length = l.length
  | [], _ => rfl
  | _ :: l, k => by simp only [addE, List.length_cons, addE_length i j l (k + 1)]
def withE (i j : Nat) (ops : Array Oper) : Array Oper := (addE i j 0 ops.toList).toArray
theorem withE_get (i j : Nat) (ops : Array Oper) (m : Nat) : (withE i j ops)[m]? = (ops[m]?).map fun o => match Nat.beq m j with
    | true => { o with after := (⟨i, .chain⟩ :: o.after.toList).toArray }
    | false => o := by
  simp only [withE, List.getElem?_toArray, addE_get, Array.getElem?_toList, Nat.zero_add]
theorem withE_size (i j : Nat) (ops : Array Oper) : (withE i j ops).size = ops.size := by simp [withE, addE_length]

theorem execOp_after (o : Oper) (x : Array Edge) (g : Option (Nat × Bool)) (ρ : Operand → Value) : execOp ρ { o with after := x, guard := g } = execOp ρ o := by
  obtain ⟨dst, op, ty, pos, after, guard⟩ := o
  cases op <;> rfl

theorem withE_same (i j : Nat) (ops : Array Oper) : SameReg id ops (withE i j ops) := by
  refine ⟨fun m o ho => ?_, fun m hn => by rw [id_eq, withE_get, hn]; rfl⟩
  refine ⟨_, by rw [id_eq, withE_get, ho]; rfl, ?_⟩
  split
  · exact ⟨rfl, by cases hg : o.guard <;> simp, fun ρ => execOp_after o _ o.guard ρ⟩
  · exact ⟨rfl, by cases hg : o.guard <;> simp, fun ρ => rfl⟩

/-- i comes up no later than j. -/
def ahead (i j : Nat) : List Nat → Bool
  | [] => true
  | x :: L => match Nat.beq x i with
    | true => true
    | false => match Nat.beq x j with
      | true => false
      | false => ahead i j L
theorem ahead_or (i j : Nat) (hne : i ≠ j) : ∀ L, ahead i j L = true ∨ ahead j i L = true
  | [] => .inl rfl
  | x :: L => by
    simp only [ahead]
    cases h1 : Nat.beq x i with
    | true => exact .inl rfl
    | false =>
      cases h2 : Nat.beq x j with
      | true => exact .inr rfl
      | false => exact ahead_or i j hne L

theorem withE_ready {i j : Nat} {ops : Array Oper} {l : Array Bool} {m : Nat} : m ∈ Region.ready .any (withE i j ops) l ↔ m ∈ Region.ready .any ops l ∧ (m = j → l.getD i false = true) := by
  rw [mem_ready, mem_ready]
  constructor
  · rintro ⟨k1, o', k2, k3⟩
    rw [withE_get] at k2
    obtain ⟨o, q1, q2⟩ := Option.map_eq_some_iff.1 k2
    cases hb : Nat.beq m j with
    | true =>
      rw [hb] at q2
      simp only at q2
      subst q2
      refine ⟨⟨k1, o, q1, fun e he => k3 e (by simpa using .inr he)⟩, fun _ => k3 ⟨i, .chain⟩ (by simp) rfl⟩
    | false =>
      rw [hb] at q2
      simp only at q2
      subst q2
      exact ⟨⟨k1, o, q1, k3⟩, fun e => by subst e; rw [Nat.beq_refl] at hb; cases hb⟩
  · rintro ⟨⟨k1, o, k2, k3⟩, k4⟩
    refine ⟨k1, _, by rw [withE_get, k2]; rfl, fun e he hb => ?_⟩
    cases hj : Nat.beq m j with
    | true =>
      simp only [hj] at he
      rcases List.mem_cons.1 (Array.mem_toList_iff.2 he) with rfl | he
      · exact k4 (Nat.eq_of_beq_eq_true hj)
      · exact k3 e (by simpa using he) hb
    | false =>
      simp only [hj] at he
      exact k3 e he hb

theorem withE_lin {i j : Nat} {ops : Array Oper} (hne : i ≠ j) : ∀ (L : List Nat) (l : Array Bool), l.size = ops.size → Lin ops l L → (l.getD i false = true ∨ ahead i j L = true) → Lin (withE i j ops) l L
  | [], l, hs, h, _ => by
    refine List.eq_nil_iff_forall_not_mem.2 fun m hm => ?_
    have := (withE_ready.1 hm).1
    have h : Region.ready .any ops l = [] := h
    rw [h] at this
    cases this
  | x :: L, l, hs, h, ha => by
    have hx : x < ops.size := by
      obtain ⟨_, o, k, _⟩ := mem_ready.1 h.1
      exact (Array.getElem?_eq_some_iff.1 k).1
    have un := (mem_ready.1 h.1).1
    refine ⟨withE_ready.2 ⟨h.1, fun e => ?_⟩, withE_lin hne L _ (by rw [Array.size_setIfInBounds]; exact hs) h.2 ?_⟩
    · subst e
      rcases ha with ha | ha
      · exact ha
      · simp only [ahead, Nat.beq_refl] at ha
        cases hb : Nat.beq x i with
        | true =>
          exact absurd (Nat.eq_of_beq_eq_true hb).symm hne
        | false => rw [hb] at ha; cases ha
    · rcases ha with ha | ha
      · exact .inl (getD_set_true ha)
      · simp only [ahead] at ha
        cases hb : Nat.beq x i with
        | true =>
          obtain rfl := Nat.eq_of_beq_eq_true hb
          exact .inl (by rw [set_getD (by rw [hs]; exact hx), if_pos rfl])
        | false =>
          rw [hb] at ha
          simp only at ha
          cases hb2 : Nat.beq x j with
          | true => rw [hb2] at ha; cases ha
          | false => rw [hb2] at ha; exact .inr ha

/-- Two operations that may come up either way. -/
theorem WpReg.fork {i j : Nat} {ops : Array Oper} (hne : Nat.beq i j = false) {a : Act} {w : World} (h1 : WpReg P (withE i j ops) Q a w) (h2 : WpReg P (withE j i ops) Q a w) : WpReg P ops Q a w := fun L hl => by
  have hne : i ≠ j := fun e => by subst e; rw [Nat.beq_refl] at hne; cases hne
  have go : ∀ {i j : Nat}, i ≠ j → WpReg P (withE i j ops) Q a w → ahead i j L = true → wpOps P ops Q L a w := fun {i j} hne h ha => by
    refine (withE_same i j ops).wpOps L a w ?_
    rw [List.map_id]
    refine h L ?_
    rw [withE_size]
    exact withE_lin hne L _ (by simp) hl (.inr ha)
  rcases ahead_or i j hne L with ha | ha
  · exact go hne h1 ha
  · exact go (Ne.symm hne) h2 ha

/-! ### another numbering -/
def reO (q : List Nat) (o : Oper) : Oper :=
  { o with after := (o.after.toList.map fun e => (⟨q.getD e.on e.on, e.ground⟩ : Edge)).toArray, guard := match o.guard with
    | some (g, b) => some (q.getD g g, b)
    | none => none }
/-- p: which one comes first, second, ..; q: which place each one has. -/
def reord (p q : List Nat) (ops : Array Oper) : Array Oper := (p.map fun i => reO q (ops.toList.getD i default)).toArray
def permB (p q : List Nat) (n : Nat) : Bool := Nat.beq p.length n && Nat.beq q.length n && ((List.range n).all fun i => Nat.blt (q.getD i i) n && Nat.beq (p.getD (q.getD i i) (q.getD i i)) i) &&
  (List.range n).all fun j => Nat.blt (p.getD j j) n && Nat.beq (q.getD (p.getD j j) (p.getD j j)) j

theorem reO_same (q : List Nat) (o : Oper) : SameOp (fun i => q.getD i i) o (reO q o) := by
  refine ⟨rfl, ?_, fun ρ => execOp_after o _ _ ρ⟩
  cases hg : o.guard with
  | none => simp only [reO, hg, Option.map_none]
  | some g => obtain ⟨g, b⟩ := g; simp only [reO, hg, Option.map_some]

theorem permB_spec {p q : List Nat} {n : Nat} (h : permB p q n = true) : p.length = n ∧ q.length = n ∧ (∀ i, i < n → q.getD i i < n ∧ p.getD (q.getD i i) (q.getD i i) = i) ∧ ∀ j, j < n → p.getD j j < n ∧ q.getD (p.getD j j) (p.getD j j) = j := by
  simp only [permB, Bool.and_eq_true, List.all_eq_true, List.mem_range, Nat.blt_eq, Nat.beq_eq] at h
  exact ⟨h.1.1.1, h.1.1.2, h.1.2, h.2⟩

theorem reord_get {p q : List Nat} {ops : Array Oper} (h : permB p q ops.size = true) {i : Nat} {o : Oper} (ho : ops[i]? = some o) : (reord p q ops)[q.getD i i]? = some (reO q o) := by
  obtain ⟨h1, h2, h3, h4⟩ := permB_spec h
  have hi : i < ops.size := (Array.getElem?_eq_some_iff.1 ho).1
  obtain ⟨k1, k2⟩ := h3 i hi
  have e : p[q.getD i i]? = some i := by
    have hlt : q.getD i i < p.length := by omega
    have : p.getD (q.getD i i) (q.getD i i) = p[q.getD i i] := (List.getElem_eq_getD (h := hlt) _).symm
    rw [List.getElem?_eq_getElem hlt, ← this, k2]
  simp only [reord, List.getElem?_toArray, List.getElem?_map, e, Option.map_some]
  have : ops.toList.getD i default = o := by simp only [List.getD, Array.getElem?_toList, ho, Option.getD_some]
  rw [this]

theorem WpReg.reord {p q : List Nat} {ops : Array Oper} (h : permB p q ops.size = true) {a : Act} {w : World} (hw : WpReg P (reord p q ops) Q a w) : WpReg P ops Q a w := by
  obtain ⟨h1, h2, h3, h4⟩ := permB_spec h
  have ge : ∀ i, ops.size ≤ i → q.getD i i = i := fun i hi => by simp only [List.getD, List.getElem?_eq_none (by omega : q.length ≤ i), Option.getD_none]
  have hs : (Go.Ideal.reord p q ops).size = ops.size := by simp [Go.Ideal.reord, h1]
  have same : SameReg (fun i => q.getD i i) ops (Go.Ideal.reord p q ops) := ⟨fun i o ho => ⟨_, reord_get h ho, reO_same q o⟩, fun i hn => by
    have hge : ops.size ≤ i := by rw [Array.getElem?_eq_none_iff] at hn; exact hn
    simp only [ge i hge]
    rw [Array.getElem?_eq_none_iff, hs]; exact hge⟩
  have inj : ∀ i j, i < ops.size → q.getD i i = q.getD j j → i = j := fun i j hi e => by
    rcases Nat.lt_or_ge j ops.size with hj | hj
    · have := (h3 i hi).2
      rw [e, (h3 j hj).2] at this; exact this.symm
    · have := (h3 i hi).1
      rw [e, ge j hj] at this; omega
  refine WpReg.same same ⟨hs, fun i => ⟨fun hi => (h3 i hi).1, fun hi => ?_⟩, fun i j e => ?_, fun j hj => ⟨p.getD j j, (h4 j hj).1, (h4 j hj).2⟩, fun i o o' ho ho' e' he hb => ?_, fun i o o' ho ho' e he hb => ?_⟩ hw
  · rcases Nat.lt_or_ge i ops.size with k | k
    · exact k
    · simp only [ge i k] at hi; exact hi
  · rcases Nat.lt_or_ge i ops.size with hi | hi
    · exact inj i j hi e
    · rcases Nat.lt_or_ge j ops.size with hj | hj
      · exact (inj j i hj e.symm).symm
      · simp only [ge i hi, ge j hj] at e; exact e
  · rw [reord_get h ho] at ho'
    cases ho'
    obtain ⟨e, q1, rfl⟩ := List.mem_map.1 (show e' ∈ (o.after.toList.map fun e => (⟨q.getD e.on e.on, e.ground⟩ : Edge)) by simpa [reO] using he)
    exact ⟨e, by simpa using q1, hb, rfl⟩
  · rw [reord_get h ho] at ho'
    cases ho'
    exact ⟨⟨q.getD e.on e.on, e.ground⟩, by simp only [reO, List.mem_toArray]; exact List.mem_map.2 ⟨e, by simpa using he, rfl⟩, hb, rfl⟩

/-! ### slices that stay as they are made -/
def markO (o : Oper) : Oper := match o.op with
  | .buildSlice t n ps => match ps.toList with
    | p :: r => { o with op := .buildSlice t n (p :: p :: r).toArray }
    | [] => o
  | _ => o
def markL (ms : List Nat) : Nat → List Oper → List Oper
  | _, [] => []
  | k, o :: l => (match ms.any (Nat.beq k) with
    | true => markO o
    | false => o) :: markL ms (k + 1) l
def mark (ms : List Nat) (ops : Array Oper) : Array Oper := (markL ms 0 ops.toList).toArray

theorem splice_twice (cs : List Value) (off : Nat) (vs : List Value) (h : off + vs.length ≤ cs.length) : splice (splice cs off vs) off vs = splice cs off vs := by
  unfold splice
  have h1 : (cs.take off ++ vs ++ cs.drop (off + vs.length)).take off = cs.take off := by
    rw [List.append_assoc, List.take_append_of_le_length (by simp; omega), List.take_take, Nat.min_self]
  have h2 : (cs.take off ++ vs ++ cs.drop (off + vs.length)).drop (off + vs.length) = cs.drop (off + vs.length) := by
    rw [List.drop_append_of_le_length (by simp; omega)]
    rw [List.drop_of_length_le (by simp; omega), List.nil_append]
  rw [h1, h2]
theorem fill_dup (place : Nat → Option (Nat × Nat)) (cells : Array Value) (p : Nat × Value) (r : List (Nat × Value)) : Instr.fill place cells (p :: p :: r) = Instr.fill place cells (p :: r) := by
  obtain ⟨i, v⟩ := p
  conv => lhs; rw [Instr.fill]
  conv => rhs; rw [Instr.fill]
  cases hp : place i with
  | none => rfl
  | some os =>
    obtain ⟨off, size⟩ := os
    simp only
    by_cases hc : v.cells.size ≠ size ∨ off + v.cells.size > cells.size
    · simp [hc]
    · have hsz : off + v.cells.toList.length ≤ cells.size := by rw [Array.length_toList]; omega
      have fold : ∀ (cells : Array Value), off + v.cells.toList.length ≤ cells.size → (Array.foldl (fun cs (x : Value × Nat) => cs.setIfInBounds (off + x.2) x.1) cells v.cells.zipIdx).toList = splice cells.toList off v.cells.toList := fun cells hsz => by
        rw [← Array.foldl_toList, Array.toList_zipIdx]
        exact foldl_splice off v.cells.toList 0 cells hsz
      have e1 := fold cells hsz
      have hs2 : (Array.foldl (fun cs (x : Value × Nat) => cs.setIfInBounds (off + x.2) x.1) cells v.cells.zipIdx).size = cells.size := by
        rw [← Array.length_toList, e1, splice_length _ _ _ (by rw [Array.length_toList]; exact hsz), Array.length_toList]
      have e2 := fold _ (by rw [hs2]; exact hsz)
      rw [e1, splice_twice _ _ _ (by rw [Array.length_toList]; exact hsz), ← e1] at e2
      have e3 := Array.toList_inj.1 e2
      rw [if_neg (by simpa using hc)]
      rw [Instr.fill, hp]
      simp only
      rw [if_neg (by rw [hs2]; simpa using hc)]
      rw [e3, if_neg (by simpa using hc)]

theorem markO_exec (o : Oper) (ρ : Operand → Value) : execOp ρ (markO o) = execOp ρ o := by
  obtain ⟨dst, op, ty, pos, after, guard⟩ := o
  cases op with
  | buildSlice t n ps =>
    simp only [markO]
    cases hl : ps.toList with
    | nil => rfl
    | cons p r =>
      have hps : ps = (p :: r).toArray := by rw [← hl]
      subst hps
      simp only [execOp, Instr.buildSlice, List.map_toArray, List.map_cons, fill_dup]
  | _ => rfl
theorem markO_rest (o : Oper) : (markO o).dst = o.dst ∧ (markO o).after = o.after ∧ (markO o).guard = o.guard := by
  unfold markO
  split
  · split <;> exact ⟨rfl, rfl, rfl⟩
  · exact ⟨rfl, rfl, rfl⟩
theorem markL_get (ms : List Nat) : ∀ (l : List Oper) (k m : Nat), (markL ms k l)[m]? = (l[m]?).map fun o => match ms.any (Nat.beq (k + m)) with
    | true => markO o
    | false => o
  | [], k, m => by simp [markL]
  | o :: l, k, 0 => rfl
  | o :: l, k, m + 1 => by
    simp only [markL, List.getElem?_cons_succ, markL_get ms l (k + 1) m]
    rw [show k + 1 + m = k + (m + 1) by omega]
theorem markL_length (ms : List Nat) : ∀ (l : List Oper) (k : Nat), (markL ms k l).length = l.length
  | [], _ => rfl
  | _ :: l, k => by simp only [markL, List.length_cons, markL_length ms l (k + 1)]
theorem mark_get (ms : List Nat) (ops : Array Oper) {i : Nat} {o : Oper} (ho : ops[i]? = some o) : ∃ o', (mark ms ops)[i]? = some o' ∧ (o' = o ∨ o' = markO o) := by
  refine ⟨match ms.any (Nat.beq (0 + i)) with
    | true => markO o
    | false => o, ?_, ?_⟩
  · simp only [mark, List.getElem?_toArray, markL_get, Array.getElem?_toList, ho, Option.map_some]
  · split
    · exact .inr rfl
    · exact .inl rfl
theorem WpReg.mark {ms : List Nat} {ops : Array Oper} {a : Act} {w : World} (hw : WpReg P (mark ms ops) Q a w) : WpReg P ops Q a w := by
  have rest : ∀ {o o' : Oper}, o' = o ∨ o' = markO o → SameOp id o o' ∧ o'.after = o.after := fun {o o'} h => by
    rcases h with rfl | rfl
    · exact ⟨⟨rfl, by cases hg : o'.guard <;> simp, fun ρ => rfl⟩, rfl⟩
    · obtain ⟨k1, k2, k3⟩ := markO_rest o
      exact ⟨⟨k1, by rw [k3]; cases hg : o.guard <;> simp, fun ρ => markO_exec o ρ⟩, k2⟩
  have hs : (Go.Ideal.mark ms ops).size = ops.size := by simp [Go.Ideal.mark, markL_length]
  have same : SameReg id ops (Go.Ideal.mark ms ops) := ⟨fun i o ho => by
    obtain ⟨o', k1, k2⟩ := mark_get ms ops ho
    exact ⟨o', k1, (rest k2).1⟩, fun i hn => by
    rw [Array.getElem?_eq_none_iff] at hn ⊢
    rw [hs]; exact hn⟩
  refine WpReg.same same ⟨hs, fun i => Iff.rfl, fun i j e => e, fun j hj => ⟨j, hj, rfl⟩, fun i o o' ho ho' e' he hb => ?_, fun i o o' ho ho' e he hb => ?_⟩ hw
  all_goals
    obtain ⟨o2, k1, k2⟩ := mark_get ms ops ho
    rw [id_eq, k1] at ho'
    cases ho'
    have := (rest k2).2
  · exact ⟨e', by rw [← this]; exact he, hb, rfl⟩
  · exact ⟨e, by rw [this]; exact he, hb, rfl⟩

/-! ### what a region comes to -/
theorem draw_soundR {B : Nat} {w0 : Org} {pf : FuncId → Bool} {call : Nat → CallI} {ops : Array Oper} {ents : List Ent} {ts tf : List Value} {hf : Heap} (hcall : ∀ k, CallSound P B w0 (call k)) (hpure : ∀ k, PureCall (call k) pf) (hok : ops.toList.all (operOK P) = true) {h : Heap} (ht : opsT P call ops.toList ops.toList ts h = some (ents, tf, hf))
    (hp : pairsOK P pf ops (pres ops.toList []) 0 ops.toList = true)
    (hr : drawReads P pf ops ents hf = true ∨ ∃ fl L, FlagsOK fl ents hf ∧ readsL P pf (pres ops.toList []) (loudBits P pf ops.toList 0) fl ents hf 0 ops.toList ents = some L ∧ ∀ p ∈ L, p.1 = p.2)
    {σ : Sg} {a : Act} {w : World} (H : HRel P B w0 σ h w) (hts : LRel σ ts a.tmps.toList) (hd : a.defers = []) {Q : Exit → Act → World → Prop}
    (hQ : ∀ (σ' : Sg) (a' : Act) (w' : World), σ.le σ' → LRel σ' tf a'.tmps.toList → HRel P B w0 σ' hf w' → a'.defers = [] → Q .normal a' w') : WpReg P ops Q a w := by
  obtain ⟨R, h0⟩ := Reg.of hcall hpure hok ht hp hr
  have hrep : ∀ j, (Array.replicate ops.size false).getD j false = false := fun j => by
    simp only [Array.getD_eq_getD_getElem?, Array.getElem?_replicate]
    split <;> rfl
  refine WpReg.any (draw_any R hQ ops.size _ a _ ⟨by simp, fun i o hi hD => ?_, ⟨0, σ, Sg.le_refl σ, Nat.zero_le _, fun l o hl _ => ?_, by rw [h0]; exact H, ?_⟩, hd⟩ ?_)
  · rw [hrep] at hD; cases hD
  · rw [hrep]; simp
  · have : (fun j => (Array.replicate ops.size false).getD j false) = fun _ => false := by
      funext j
      exact hrep j
    rw [this, curL_none]; exact hts
  · unfold todo
    exact Nat.le_trans (List.length_filter_le _ _) (by simp)

def RegS (P : Program) (ops : Array Oper) (ts : List Value) (h : Heap) (R : List Value → Heap → Prop) : Prop :=
  ∀ (B : Nat) (w0 : Org) (σ : Sg) (a : Act) (w : World) (Q : Exit → Act → World → Prop), HRel P B w0 σ h w → LRel σ ts a.tmps.toList → a.defers = [] →
    (∀ (σ' : Sg) (a' : Act) (w' : World) (ts' : List Value) (h' : Heap), R ts' h' → σ.le σ' → LRel σ' ts' a'.tmps.toList → HRel P B w0 σ' h' w' → a'.defers = [] → Q .normal a' w') → WpReg P ops Q a w

theorem withE_ok {i j : Nat} {ops : Array Oper} {p : Oper → Bool} (hp : ∀ o x, p { o with after := x } = p o) (h : ops.toList.all p = true) : (withE i j ops).toList.all p = true := by
  refine List.all_eq_true.2 fun o ho => ?_
  obtain ⟨m, hm⟩ := List.mem_iff_getElem?.1 ho
  rw [Array.getElem?_toList, withE_get] at hm
  obtain ⟨o1, k1, k2⟩ := Option.map_eq_some_iff.1 hm
  have := List.all_eq_true.1 h o1 (by simpa using Array.mem_of_getElem? k1)
  subst k2
  split
  · rw [hp]; exact this
  · exact this
theorem reord_ok {q l : List Nat} {ops : Array Oper} {p : Oper → Bool} (hl : permB l q ops.size = true) (hp : ∀ o, p (reO q o) = p o) (h : ops.toList.all p = true) : (reord l q ops).toList.all p = true := by
  obtain ⟨h1, h2, h3, h4⟩ := permB_spec hl
  refine List.all_eq_true.2 fun o ho => ?_
  simp only [reord] at ho
  obtain ⟨i, k1, rfl⟩ := List.mem_map.1 ho
  obtain ⟨m, hm⟩ := List.mem_iff_getElem?.1 k1
  have hlt : m < l.length := (List.getElem?_eq_some_iff.1 hm).1
  have hi := (h4 m (by omega)).1
  have e : l.getD m m = i := by simp only [List.getD, hm, Option.getD_some]
  rw [e] at hi
  rw [hp]
  refine List.all_eq_true.1 h _ ?_
  have : i < ops.toList.length := by simpa using hi
  simp only [List.getD, List.getElem?_eq_getElem this, Option.getD_some]
  exact List.getElem_mem this
theorem mark_ok {ms : List Nat} {ops : Array Oper} {p : Oper → Bool} (hp : ∀ o, p (markO o) = p o) (h : ops.toList.all p = true) : (mark ms ops).toList.all p = true := by
  refine List.all_eq_true.2 fun o ho => ?_
  obtain ⟨m, hm⟩ := List.mem_iff_getElem?.1 ho
  have hlt : m < (mark ms ops).toList.length := (List.getElem?_eq_some_iff.1 hm).1
  have hm2 : m < ops.size := by simpa [mark, markL_length] using hlt
  obtain ⟨o', k1, k2⟩ := mark_get ms ops (Array.getElem?_eq_getElem hm2)
  rw [Array.getElem?_toList, k1] at hm
  cases hm
  have := List.all_eq_true.1 h ops[m] (by simp)
  rcases k2 with rfl | rfl
  · exact this
  · rw [hp]; exact this
theorem markO_ok (o : Oper) : operOK P (markO o) = operOK P o := by
  obtain ⟨dst, op, ty, pos, after, guard⟩ := o
  cases op with
  | buildSlice t n ps =>
    simp only [markO]
    cases hl : ps.toList with
    | nil => rfl
    | cons p r =>
      have hps : ps = (p :: r).toArray := by rw [← hl]
      subst hps
      simp only [operOK, Op.operands, List.map_cons, List.all_cons]
      cases operandOK P p.2 <;> simp
  | _ => rfl

end Go.Ideal

end
section
/- The interpreter that answers with what is to be shown: the kernel runs it through code over values that are not known; advice says what it does where values alone don't tell. Over any program. -/
set_option linter.unusedVariables false
set_option linter.unusedSimpArgs false
namespace Go.Ideal
open Go.RowKit

/-- What is said at a step. -/
inductive Adv : Type 1 where
  | nil
  /-- a Bool's two values -/
  | split (n : Nat) (t e : Adv)
  /-- the answer, written otherwise -/
  | put (n : Nat) (v : Value) (r : Adv)
  /-- an operation that asks something; where it can't be reckoned: its answer -/
  | chk (n : Nat) (told : Option Value) (r : Adv)
  | chks (n : Nat) (told : Option Value) (t e : Adv)
  /-- a case -/
  | cas (n : Nat) (b : Bool) (t e : Adv)
  /-- a call that answers so, and leaves memory alone -/
  | pur (n : Nat) (v : Value) (r : Adv)
  | purs (n : Nat) (b : Bool) (t e : Adv)
  /-- the same, of memory as it stands -/
  | bor (n : Nat) (v : Value) (r : Adv)
  | bors (n : Nat) (b : Bool) (t e : Adv)
  /-- a call that answers so, and leaves this heap -/
  | ctr (n : Nat) (v : Value) (h : Heap) (r : Adv)
  /-- a call of which something is known -/
  | all (n : Nat) {α : Type} (v : α → Value) (h : α → Heap) (p : α → Prop) (r : α → Adv)
  /-- a loop with a state -/
  | loop (n : Nat) {σ : Type} (f : σ → List (Nat × Value)) (H : σ → Heap) (Inv : Nat → σ → Prop) (n0 : Nat) (s0 : σ) (r : Nat → σ → (Nat → Value) → Adv)
  /-- a region: what is known behind it -/
  | join (n : Nat) (f : List (Nat × Value)) (r1 r2 : Adv)
  /-- the state, seen otherwise -/
  | weak (n : Nat) (g : List (Nat × Value)) (h : Heap) (r : Adv)
  /-- two pieces of code, one behind the other: what is known between them -/
  | jn (n : Nat) (J : Prop) (f : List (Nat × Value)) (h : Heap) (ra : Adv) (rb : (Nat → Value) → Adv)
  /-- a call by its text: what is known behind it -/
  | jc (n : Nat) (J : Prop) (v : Value) (h : Heap) (ra rb : Adv)
  /-- a way that parts; which way is known -/
  | cnd (n : Nat) (t e : Adv)
  | cnk (n : Nat) (b : Bool) (r : Adv)
  /-- an operation on a pool -/
  | pl (n : Nat) (told : Option Value) (r : Adv)
  /-- the state, seen otherwise, behind an operation -/
  | wko (n : Nat) (g : List (Nat × Value)) (h : Heap) (r : Adv)
  /-- a region that draws its order: slices that stay as they are made; two operations, either way; another numbering -/
  | mrk (n : Nat) (ms : List Nat) (r : Adv)
  | frk (n : Nat) (i j : Nat) (a b : Adv)
  | ord (n : Nat) (p q : List Nat) (r : Adv)

def HoldsL (P : Program) : List Ask → Prop
  | [] => True
  | [a] => a.holds P
  | a :: l => a.holds P ∧ HoldsL P l
theorem HoldsL.holds {P : Program} : ∀ {l : List Ask}, HoldsL P l → Holds P l
  | [], _ => fun a ha => by cases ha
  | [x], h => fun a ha => by simp at ha; subst ha; exact h
  | x :: y :: l, h => fun a ha => by
    rcases List.mem_cons.1 ha with rfl | ha
    · exact h.1
    · exact HoldsL.holds h.2 a ha

/-- Operations on the ideal heap that ask something. -/
def opC (P : Program) (o : Oper) (ts : List Value) (h : Heap) (told : Option Value) : Option (Value × Heap × List Ask) := match o.op with
  | .binOp op t x y _ => match flatOp ts x && flatOp ts y with
    | false => none
    | true => match op, evI ts x, evI ts y with
      | .shl, .int k a, .int _ b => some (.int k (k.wrap (a * 2 ^ (min b.toNat k.bits))), h, [.le 0 b])
      | .shr, .int k a, .int _ b => some (.int k (a.fdiv (2 ^ (min b.toNat k.bits))), h, [.le 0 b])
      | .quo, .int k a, .int k' b => match decide (k = k') with
        | true => some (.int k (k.wrap (a.tdiv b)), h, [.ne b 0])
        | false => none
      | .rem, .int k a, .int k' b => match decide (k = k') with
        | true => some (.int k (a.tmod b), h, [.ne b 0])
        | false => none
      | .eql, .agg c, .agg d => match pureRun P (eqGuard .eql t x y (.agg c) (.agg d)), told with
        | some (), some (.bool b) => some (.bool b, h, [.eqv t (.agg c) (.agg d) b])
        | some (), none => match eqD P 10000 t (.agg c) (.agg d) with
          | some b => some (.bool b, h, [])
          | none => none
        | _, _ => none
      | .neq, .agg c, .agg d => match pureRun P (eqGuard .neq t x y (.agg c) (.agg d)), told with
        | some (), some (.bool b) => some (.bool (!b), h, [.eqv t (.agg c) (.agg d) b])
        | some (), none => match eqD P 10000 t (.agg c) (.agg d) with
          | some b => some (.bool (!b), h, [])
          | none => none
        | _, _ => none
      | _, _, _ => none
  | .indexAddr t x ix => match intI (evI ts ix), P.underlying t, evI ts x with
    | some i, some (.array len elem), .pointer (some ⟨b, off, none⟩) => match sizeI P elem with
      | some size => some (.pointer (some ⟨b, off + i.toNat * size, none⟩), h, [.le 0 i, .lt i len])
      | none => none
    | some i, some (.slice elem), .slice (some ⟨b, off, none⟩) len _ => match sizeI P elem with
      | some size => some (.pointer (some ⟨b, off + i.toNat * size, none⟩), h, [.le 0 i, .lt i len])
      | none => none
    | _, _, _ => none
  | .index t x ix => match intI (evI ts ix), P.underlying t, evI ts x, told with
    | some i, some (.array len elem), .agg cs, some v => match sizeI P elem with
      | some size => some (v, h, [.le 0 i, .lt i len, .partv elem cs.toList (i.toNat * size) v])
      | none => none
    | some i, some .string, .string s, some (.int .u8 b) => some (.int .u8 b, h, [.le 0 i, .byte s.data.toList i.toNat b])
    | _, _, _, _ => none
  | .load t a => match evI ts a, told with
    | .pointer (some ad), some v => match h.get ad.block, ad.spot, isAggI P t, sizeI P t with
      | some (.cells _ _ .dead), _, _, _ => none
      | some (.cells cs _ _), none, some true, some n => match v with
        | .agg l => some (v, h, [.part cs ad.off n l.toList])
        | _ => none
      | some (.cells cs _ _), none, some false, some _ => some (v, h, [.part cs ad.off 1 [v]])
      | _, _, _, _ => none
    | _, _ => none
  | .store t a x => match evI ts a, sizeI P t with
    | .pointer (some ad), some n => match Nat.beq (Value.cellList (evI ts x)).length n && (Value.cellList (evI ts x)).all oneCell with
      | false => none
      | true => match h.get ad.block, ad.spot with
        | some (.cells cs t' .fix), none => some (Go.undef, h.set ad.block (.cells (splice cs ad.off (Value.cellList (evI ts x))) t' .fix), [.nle (ad.off + n) cs.length])
        | some (.cells cs t' .grow), none => some (Go.undef, h.set ad.block (.cells (splice cs ad.off (Value.cellList (evI ts x))) t' .grow), [.nle (ad.off + n) cs.length])
        | _, _ => none
    | _, _ => none
  | .makeSlice t l c => match P.underlying t with
    | some (.slice elem) => match P.info? elem, zeroI P elem, evI ts l, evI ts c with
      | some ti, some z, .int _ ln, .int _ cn => match Nat.beq z.length ti.size with
        | true => some (.slice (some ⟨h.next, 0, none⟩) ln.toNat cn.toNat, h.push (.cells (zerosI z cn.toNat) elem .fix), [.le 0 ln, .le ln cn, .le (cn * ((ti.bytes : Int) + 1)) 1099511627776])
        | false => none
      | _, _, _, _ => none
    | _ => none
  | .slice _ _ _ _ _ => match told with
    | some t => match opV P o ts none with
      | some (v0, l0) => some (t, h, .get [v0] 0 t :: l0)
      | none => none
    | none => none
  | _ => none

/-- An operation that asks something. -/
def askI (P : Program) (o : Oper) (ts : List Value) (h : Heap) (told : Option Value) : Option (Value × Heap × List Ask) := match opC P o ts h told with
  | some r => some r
  | none => match opV P o ts told with
    | some (v, l) => some (v, h, l)
    | none => match opH P o ts h told with
      | some r => some r
      | none => opP P o ts h told

def agreeP : List (Nat × Value) → List Value → Prop
  | [], _ => True
  | [(i, v)], ts => ts.getD i Go.undef = v
  | (i, v) :: r, ts => ts.getD i Go.undef = v ∧ agreeP r ts

def hasText (P : Program) (f : FuncId) : Bool := match P.funcs[f]? with
  | some fn => fn.body.isSome
  | none => false

/-- Two heaps, block by block the same. -/
def eqH (h1 h2 : Heap) : Prop := Nat.beq h1.next h2.next = true ∧ EqBlks h1 h2 h2.next

abbrev KV := Value → Heap → Nat → Adv → Prop
abbrev KT := List Value → Heap → Nat → Adv → Prop
abbrev KX := Ex → List Value → Heap → Nat → Adv → Prop

/-- An operation that is no call of a function, case by case. -/
def wpOp1 (P : Program) (o : Oper) (ts : List Value) (h : Heap) (n : Nat) (adv : Adv) (K : KV) : Prop := match adv with
  | .split m t e => match Nat.beq m n with
    | true => match opI P o ts h with
      | some (.bool b, h') => (b = true → K (.bool true) h' (n + 1) t) ∧ (b = false → K (.bool false) h' (n + 1) e)
      | _ => False
    | false => match opI P o ts h with
      | some (v, h') => K v h' (n + 1) (.split m t e)
      | none => False
  | .put m v r => match Nat.beq m n with
    | true => match opI P o ts h with
      | some (v0, h') => v0 = v ∧ K v h' (n + 1) r
      | none => False
    | false => match opI P o ts h with
      | some (v', h') => K v' h' (n + 1) (.put m v r)
      | none => False
  | .chk m told r => match Nat.beq m n with
    | true => match askI P o ts h told with
      | some (v, h', []) => K v h' (n + 1) r
      | some (v, h', l) => HoldsL P l ∧ K v h' (n + 1) r
      | none => False
    | false => match opI P o ts h with
      | some (v', h') => K v' h' (n + 1) (.chk m told r)
      | none => False
  | .chks m told t e => match Nat.beq m n with
    | true => match askI P o ts h told with
      | some (.bool b, h', l) => HoldsL P l ∧ (b = true → K (.bool true) h' (n + 1) t) ∧ (b = false → K (.bool false) h' (n + 1) e)
      | _ => False
    | false => match opI P o ts h with
      | some (v', h') => K v' h' (n + 1) (.chks m told t e)
      | none => False
  | adv => match opI P o ts h with
    | some (v, h') => K v h' (n + 1) adv
    | none => False

/-- An operation that is no call of a function. -/
def wpOp (P : Program) (o : Oper) (ts : List Value) (h : Heap) (n : Nat) (adv : Adv) (K : KV) : Prop := match adv with
  | .cas m b t e => match Nat.beq m n with
    | true => (b = true → wpOp1 P o ts h n t K) ∧ (b = false → wpOp1 P o ts h n e K)
    | false => wpOp1 P o ts h n (.cas m b t e) K
  | adv => wpOp1 P o ts h n adv K

/-- A call: by what is known of it, or by its text; case by case. -/
def wpCall1 (P : Program) (pf : FuncId → Bool) (d : Bool) (inl : FuncId → List Value → Heap → Nat → Adv → KV → Prop) (f : FuncId) (args : List Value) (h : Heap) (n : Nat) (adv : Adv) (K : KV) : Prop := match adv with
  | .pur m v r => match Nat.beq m n, hasText P f with
    | true, true => CallK P f args v ∧ K v h (n + 1) r
    | true, false => False
    | false, _ => inl f args h (n + 1) (.pur m v r) K
  | .purs m b t e => match Nat.beq m n, hasText P f with
    | true, true => CallK P f args (.bool b) ∧ (b = true → K (.bool true) h (n + 1) t) ∧ (b = false → K (.bool false) h (n + 1) e)
    | true, false => False
    | false, _ => inl f args h (n + 1) (.purs m b t e) K
  | .bor m v r => match Nat.beq m n, hasText P f, d && pf f with
    | true, true, false => match borL (borV false 8 h) args, flat v with
      | some args2, true => CallK P f args2 v ∧ K v h (n + 1) r
      | _, _ => False
    | true, _, _ => False
    | false, _, _ => inl f args h (n + 1) (.bor m v r) K
  | .bors m b t e => match Nat.beq m n, hasText P f, d && pf f with
    | true, true, false => match borL (borV false 8 h) args with
      | some args2 => CallK P f args2 (.bool b) ∧ (b = true → K (.bool true) h (n + 1) t) ∧ (b = false → K (.bool false) h (n + 1) e)
      | none => False
    | true, _, _ => False
    | false, _, _ => inl f args h (n + 1) (.bors m b t e) K
  | .ctr m v h' r => match Nat.beq m n, hasText P f, d && pf f with
    | true, true, false => CallS P f args h (fun v1 h1 => v1 = v ∧ h1 = h') ∧ K v h' (n + 1) r
    | true, _, _ => False
    | false, _, _ => inl f args h (n + 1) (.ctr m v h' r) K
  | .all m v hh p r => match Nat.beq m n, hasText P f, d with
    | true, true, false => CallS P f args h (fun v1 h1 => ∃ x, p x ∧ v1 = v x ∧ h1 = hh x) ∧ ∀ x, p x → K (v x) (hh x) (n + 1) (r x)
    | true, _, _ => False
    | false, _, _ => inl f args h (n + 1) (.all m v hh p r) K
  | .jc m J v h2 ra rb => match Nat.beq m n, d with
    | true, false => inl f args h (n + 1) ra (fun v1 h1 _ _ => J ∧ v1 = v ∧ eqH h1 h2) ∧ (J → K v h2 (n + 1) rb)
    | true, true => False
    | false, _ => inl f args h (n + 1) (.jc m J v h2 ra rb) K
  | adv => inl f args h (n + 1) adv K

def wpCall (P : Program) (pf : FuncId → Bool) (d : Bool) (inl : FuncId → List Value → Heap → Nat → Adv → KV → Prop) (f : FuncId) (args : List Value) (h : Heap) (n : Nat) (adv : Adv) (K : KV) : Prop := match adv with
  | .cas m b t e => match Nat.beq m n with
    | true => (b = true → wpCall1 P pf d inl f args h n t K) ∧ (b = false → wpCall1 P pf d inl f args h n e K)
    | false => wpCall1 P pf d inl f args h n (.cas m b t e) K
  | adv => wpCall1 P pf d inl f args h n adv K

def plAt (d : Bool) (n : Nat) : Adv → Option (Option Value × Adv)
  | .pl m told r => match !d && Nat.beq m n with
    | true => some (told, r)
    | false => none
  | _ => none
def setL : List Value → List (Nat × Value) → List Value
  | ts, [] => ts
  | ts, (i, v) :: g => setL (ts.set i v) g
def wkoAt (wk : List Nat) (d : Bool) (n : Nat) : Adv → Option (List (Nat × Value) × Heap × Adv)
  | .wko m g h r => match !d && Nat.beq m n && g.all fun p => wk.any (Nat.beq p.1) with
    | true => some (g, h, r)
    | false => none
  | _ => none
def wkStep (P : Program) (wk : List Nat) (d : Bool) (ts : List Value) (h : Heap) (n : Nat) (adv : Adv) (K : KT) : Prop := match wkoAt wk d n adv with
  | some (g, h2, r) => Weak P ts h (setL ts g) h2 ∧ K (setL ts g) h2 (n + 1) r
  | none => K ts h n adv

def wpOper (P : Program) (pf : FuncId → Bool) (d : Bool) (inl : FuncId → List Value → Heap → Nat → Adv → KV → Prop) (o : Oper) (ts : List Value) (h : Heap) (n : Nat) (adv : Adv) (K : KV) : Prop := match plAt d n adv with
  | some (told, r) => match opP P o ts h told with
    | some (v, h', []) => K v h' (n + 1) r
    | some (v, h', l) => HoldsL P l ∧ K v h' (n + 1) r
    | none => False
  | none => match o.op with
    | .call c => match c.callee with
      | .builtin _ => wpOp P o ts h n adv K
      | _ => match calleeI ts c with
        | some (f, args) => wpCall P pf d inl f args h n adv K
        | none => False
    | _ => wpOp P o ts h n adv K

def wpOps (P : Program) (pf : FuncId → Bool) (wk : List Nat) (d : Bool) (inl : FuncId → List Value → Heap → Nat → Adv → KV → Prop) (all : List Oper) : List Oper → List Value → Heap → Nat → Adv → KT → Prop
  | [], ts, h, n, adv, K => K ts h n adv
  | o :: l, ts, h, n, adv, K => match wantedI o all ts with
    | false => wpOps P pf wk d inl all l (putI ts o.dst Go.undef) h n adv K
    | true => wpOper P pf d inl o ts h n adv fun v h' n' adv' => wkStep P wk d (putI ts o.dst v) h' n' adv' fun ts2 h2 n2 adv2 => wpOps P pf wk d inl all l ts2 h2 n2 adv2 K

/-- A call by its text, in a region that draws its order: run out. -/
def inlD (P : Program) (pf : FuncId → Bool) (k : Nat) (f : FuncId) (args : List Value) (h : Heap) (n : Nat) (adv : Adv) (K : KV) : Prop := match pf f with
  | true => False
  | false => match callWith P noOrc (exec P noOrc k) f args h with
    | some (v, h') => K v h' n adv
    | none => False

def inlT (P : Program) (ex : Code → List Value → Heap → Nat → Adv → KX → Prop) (f : FuncId) (args : List Value) (h : Heap) (n : Nat) (adv : Adv) (K : KV) : Prop := match P.funcs[f]? with
  | some fn => match fn.body with
    | some c => ex c (args ++ List.replicate (fn.ntmps - args.length) Go.undef) h n adv fun x ts' h' n' adv' => match x with
      | .exit _ => False
      | _ => match resultsI P ts' h' fn.results.toList with
        | some l => K (tupleI l) h' n' adv'
        | none => False
    | none => False
  | none => False

def writes : Code → List Nat
  | .region _ ops _ => ops.toList.filterMap (·.dst)
  | .seq a b => writes a ++ writes b
  | .cond _ a b => writes a ++ writes b
  | .loop a => writes a
  | .block _ a => writes a
  | .scope a => writes a
  | _ => []

def overlay (W : List Nat) (S : List (Nat × Value)) (j : Nat → Value) : Nat → List Value → List Value
  | _, [] => []
  | i, v :: l => (match W.any (Nat.beq i) with
    | true => match S.find? (fun p => Nat.beq p.1 i) with
      | some p => p.2
      | none => j i
    | false => v) :: overlay W S j (i + 1) l

def weakAt (wk : List Nat) (n : Nat) : Adv → Option (List (Nat × Value) × Heap × Adv)
  | .weak m g h r => match Nat.beq m n && g.all fun p => wk.any (Nat.beq p.1) with
    | true => some (g, h, r)
    | false => none
  | _ => none

def jnAt (n : Nat) : Adv → Option (Prop × List (Nat × Value) × Heap × Adv × ((Nat → Value) → Adv))
  | .jn m J f h ra rb => match Nat.beq m n with
    | true => some (J, f, h, ra, rb)
    | false => none
  | _ => none
def cndAt (n : Nat) : Adv → Option ((Adv × Adv) ⊕ (Bool × Adv))
  | .cnd m t e => match Nat.beq m n with
    | true => some (.inl (t, e))
    | false => none
  | .cnk m b r => match Nat.beq m n with
    | true => some (.inr (b, r))
    | false => none
  | _ => none

def inlOf (P : Program) (pf : FuncId → Bool) (k : Nat) (ex : Code → List Value → Heap → Nat → Adv → KX → Prop) : Bool → FuncId → List Value → Heap → Nat → Adv → KV → Prop
  | true => inlD P pf k
  | false => inlT P ex

/-- A loop, round by round. -/
def unrollU (ex : Code → List Value → Heap → Nat → Adv → KX → Prop) (b : Code) : Nat → List Value → Heap → Nat → Adv → KX → Prop
  | 0, _, _, _, _, _ => False
  | m + 1, ts, h, n, adv, Q => ex b ts h n adv fun x ts' h' n' adv' => match x with
    | .normal => unrollU ex b m ts' h' n' adv' Q
    | x => Q x ts' h' n' adv'

/-- Operations, one by one; structs are compared cell by cell. -/
def operX (P : Program) (call : CallI) (o : Oper) (ts : List Value) (h : Heap) : Option (Value × Heap) := match opC P o ts h none with
  | some (v, h', []) => some (v, h')
  | _ => operI P call o ts h
def opsX (P : Program) (call : CallI) (all : List Oper) : List Oper → List Value → Heap → Option (List Ent × List Value × Heap)
  | [], ts, h => some ([], ts, h)
  | o :: rest, ts, h => match wantedI o all ts with
    | true => match operX P call o ts h with
      | some (v, h') => match opsX P call all rest (putI ts o.dst v) h' with
        | some (l, r) => some (⟨true, v, ts, h⟩ :: l, r)
        | none => none
      | none => none
    | false => match opsX P call all rest (putI ts o.dst Go.undef) h with
      | some (l, r) => some (⟨false, Go.undef, ts, h⟩ :: l, r)
      | none => none

/-- Is it said of the call that it leaves memory alone? -/
def keepsM (n : Nat) : Adv → Bool
  | .pur m _ _ => Nat.beq m n
  | .purs m _ _ _ => Nat.beq m n
  | .bor m _ _ => Nat.beq m n
  | .bors m _ _ _ => Nat.beq m n
  | _ => false
def isFn : Op → Bool
  | .call { callee := .builtin _, .. } => false
  | .call _ => true
  | _ => false
def flagOf (P : Program) (pf : FuncId → Bool) (o : Oper) (n : Nat) (adv : Adv) : Bool := !isLoud P pf o.op || (isFn o.op && keepsM n adv)
/-- Operations of a region that draws its order, what is known of each kept. -/
def wpOpsE (P : Program) (pf : FuncId → Bool) (inl : FuncId → List Value → Heap → Nat → Adv → KV → Prop) (all : List Oper) : List Oper → List Value → Heap → Nat → Adv → List Ent → List Bool → (List Ent → List Bool → KT) → Prop
  | [], ts, h, n, adv, acc, fl, K => K acc fl ts h n adv
  | o :: l, ts, h, n, adv, acc, fl, K => match wantedI o all ts with
    | false => wpOpsE P pf inl all l (putI ts o.dst Go.undef) h n adv (acc ++ [⟨false, Go.undef, ts, h⟩]) (fl ++ [true]) K
    | true => wpOper P pf true inl o ts h n adv fun v h' n' adv' => wpOpsE P pf inl all l (putI ts o.dst v) h' n' adv' (acc ++ [⟨true, v, ts, h⟩]) (fl ++ [flagOf P pf o n adv]) K
/-- A region that draws its order; where its reads come up elsewhere they are to be the same. -/
def wpDrawE (P : Program) (pf : FuncId → Bool) (k : Nat) (ops : Array Oper) (ts : List Value) (h : Heap) (n : Nat) (adv : Adv) (K : KT) : Prop := match pairsOK P pf ops (pres ops.toList []) 0 ops.toList with
  | false => False
  | true => wpOpsE P pf (inlD P pf k) ops.toList ops.toList ts h n adv [] [] fun ents fl ts' h' n' adv' => match readsL P pf (pres ops.toList []) (loudBits P pf ops.toList 0) fl ents h' 0 ops.toList ents with
    | some l => EqL l ∧ K ts' h' n' adv'
    | none => False

/-- The same, order by order. -/
def wpForks (P : Program) (pf : FuncId → Bool) (k : Nat) : Nat → Array Oper → List Value → Heap → Nat → Adv → KT → Prop
  | 0, _, _, _, _, _, _ => False
  | m + 1, ops, ts, h, n, adv, K => match adv with
    | .mrk x ms r => match Nat.beq x n with
      | true => wpForks P pf k m (mark ms ops) ts h (n + 1) r K
      | false => wpDrawE P pf k ops ts h n (.mrk x ms r) K
    | .frk x i j a b => match Nat.beq x n && !Nat.beq i j with
      | true => wpForks P pf k m (withE i j ops) ts h (n + 1) a K ∧ wpForks P pf k m (withE j i ops) ts h (n + 1) b K
      | false => wpDrawE P pf k ops ts h n (.frk x i j a b) K
    | .ord x p q r => match Nat.beq x n && permB p q ops.size with
      | true => wpForks P pf k m (reord p q ops) ts h (n + 1) r K
      | false => wpDrawE P pf k ops ts h n (.ord x p q r) K
    | adv => wpDrawE P pf k ops ts h n adv K

/-- A region that draws its order, run out; where its reads come up elsewhere they are to be the same. -/
def wpDraw (P : Program) (k : Nat) (ops : Array Oper) (ts : List Value) (h : Heap) (K : List Value → Heap → Prop) : Prop := match pairsOK P noOrc.isPure ops (pres ops.toList []) 0 ops.toList with
  | false => False
  | true => match opsX P (callWith P noOrc (exec P noOrc k)) ops.toList ops.toList ts h with
    | some (ents, ts', h') => match readsL P noOrc.isPure (pres ops.toList []) (loudBits P noOrc.isPure ops.toList 0) [] ents h' 0 ops.toList ents with
      | some l => EqL l ∧ K ts' h'
      | none => False
    | none => False

/-- At a round's end: what was made in it is forgotten. -/
def loopEnd (P : Program) (fs : List (Nat × Value)) (h h' h2 : Heap) : Prop :=
  EqBlks h' h2 h.next ∧ (Nat.beq h2.next h.next && fs.all (fun p => refsOK 8 h.next p.2)) = true ∧ refsP h.next h2 h.next
/-- 'wk': the temporaries that may be seen otherwise on the way. -/
def wpA (P : Program) (pf : FuncId → Bool) (wk : List Nat) : Nat → Code → List Value → Heap → Nat → Adv → KX → Prop
  | 0, _, _, _, _, _, _ => False
  | k + 1, c, ts, h, n, adv, Q => match weakAt wk n adv with
    | some (g, h2, r) => Weak P ts h (setL ts g) h2 ∧ wpA P pf wk k c (setL ts g) h2 (n + 1) r Q
    | none => match c with
      | .skip | .label _ => Q .normal ts h n adv
      | .exit id => Q (.exit id) ts h n adv
      | .ret => Q .ret ts h n adv
      | .seq a b => match jnAt n adv with
        | some (J, f, h2, ra, rb) => wpA P pf wk k a ts h (n + 1) ra (fun x ts' h' n' adv' => match x with
            | .normal => J ∧ agreeP f ts' ∧ eqH h' h2
            | x => Q x ts' h' n' adv') ∧
          (J → ∀ j, wpA P pf wk k b (overlay (writes a ++ wk) f j 0 ts) h2 (n + 1) (rb j) Q)
        | none => wpA P pf wk k a ts h (n + 1) adv fun x ts' h' n' adv' => match x with
          | .normal => wpA P pf wk k b ts' h' n' adv' Q
          | x => Q x ts' h' n' adv'
      | .cond c a b => match cndAt n adv with
        | some (.inl (t, e)) => match evI ts c with
          | .bool v => (v = true → wpA P pf wk k a ts h (n + 1) t Q) ∧ (v = false → wpA P pf wk k b ts h (n + 1) e Q)
          | _ => False
        | some (.inr (w, r)) => match evI ts c with
          | .bool v => v = w ∧ (match w with
            | true => wpA P pf wk k a ts h (n + 1) r Q
            | false => wpA P pf wk k b ts h (n + 1) r Q)
          | _ => False
        | none => match evI ts c with
          | .bool true => wpA P pf wk k a ts h (n + 1) adv Q
          | .bool false => wpA P pf wk k b ts h (n + 1) adv Q
          | _ => False
      | .block id b => wpA P pf wk k b ts h n adv fun x ts' h' n' adv' => match x with
        | .exit id' => match Nat.beq id' id with
          | true => Q .normal ts' h' n' adv'
          | false => Q (.exit id') ts' h' n' adv'
        | x => Q x ts' h' n' adv'
      | .scope b => wpA P pf wk k b ts h n adv Q
      | .loop b => match adv with
        | .loop m f H Inv n0 s0 r => match Nat.beq m n with
          | true => (Inv n0 s0 ∧ agreeP (f s0) ts ∧ h = H s0) ∧ ∀ i s j, Inv i s → wpA P pf wk k b (overlay (writes b ++ wk) (f s) j 0 ts) (H s) (n + 1) (r i s j) fun x ts' h' n' adv' => match x with
            | .normal => ∃ i' s', i' < i ∧ Inv i' s' ∧ agreeP (f s') ts' ∧ loopEnd P (f s') (H s) h' (H s')
            | x => Q x ts' h' n' adv'
          | false => unrollU (wpA P pf wk k) b k ts h n (.loop m f H Inv n0 s0 r) Q
        | adv => unrollU (wpA P pf wk k) b k ts h n adv Q
      | .region _ ops d => match !d || (pairsOK P pf ops (pres ops.toList []) 0 ops.toList && drawStill P pf ops) with
        | false => wpForks P pf k 24 ops ts h n adv fun ts' h' n' adv' => Q .normal ts' h' n' adv'
        | true => match adv with
          | .join m f r1 r2 => match Nat.beq m n with
            | true => wpOps P pf wk d (inlOf P pf k (wpA P pf wk k) d) ops.toList ops.toList ts h (n + 1) r1 (fun ts' h' _ _ => agreeP f ts' ∧ h' = h) ∧
                ∀ j, Q .normal (overlay (ops.toList.filterMap (·.dst) ++ wk) f j 0 ts) h (n + 1) r2
            | false => wpOps P pf wk d (inlOf P pf k (wpA P pf wk k) d) ops.toList ops.toList ts h n (.join m f r1 r2) fun ts' h' n' adv' => Q .normal ts' h' n' adv'
          | adv => wpOps P pf wk d (inlOf P pf k (wpA P pf wk k) d) ops.toList ops.toList ts h n adv fun ts' h' n' adv' => Q .normal ts' h' n' adv'
      | _ => False

end Go.Ideal

end
section
/- Operations that ask: where what they ask holds, the ideal interpreter answers so. Over any program. -/
set_option linter.unusedVariables false
set_option linter.unusedSimpArgs false
namespace Go.Ideal
open Go.RowKit

variable {P : Program} {o : Oper} {ts : List Value} {h h' : Heap} {told : Option Value} {v : Value} {l : List Ask}

def IsV (v : Value) : Prop := ∃ t u, v = .iface t u ∧ isV t = true
theorem asSl_isV {v : Value} {r : Int × Array Value} (h : asSl v = some r) : IsV v := by
  unfold asSl at h
  split at h
  · split at h
    · exact ⟨_, _, rfl, rfl⟩
    · exact ⟨_, _, rfl, rfl⟩
    · cases h
  · cases h
theorem asPt_isV {v : Value} {r : Nat × Array Value} (h : asPt v = some r) : IsV v := by
  unfold asPt at h
  split at h
  · split at h
    · exact ⟨_, _, rfl, rfl⟩
    · cases h
  · cases h
theorem asMp_isV {v : Value} {r : Array Value × Array Value} (h : asMp v = some r) : IsV v := by
  unfold asMp at h
  split at h
  · split at h
    · exact ⟨_, _, rfl, rfl⟩
    · cases h
  · cases h
theorem asOs_isV {v : Value} {r : Nat × Nat × Int × Array Value} (h : asOs v = some r) : IsV v := by
  unfold asOs at h
  split at h
  · split at h
    · exact ⟨_, _, rfl, rfl⟩
    · cases h
  · cases h
theorem IsV.flat {v : Value} (h : IsV v) : Go.Ideal.flat v = false := by
  obtain ⟨t, u, rfl, ht⟩ := h
  simp [Go.Ideal.flat, flatN, ht]
theorem IsV.flatOp {x : Operand} (h : IsV (evI ts x)) : flatOp ts x = false := by
  cases x with
  | global g => rfl
  | _ => exact h.flat
theorem nilSide_isV {t : TypeId} {x y : Value} {l : List Ask} (h : nilSide P t x y = some l) : IsV x ∧ (y = .pointer none ∨ y = .map none ∨ ∃ n c, y = .slice none n c) := by
  unfold nilSide at h
  split at h
  · cases hs : asSl x with
    | none => simp [hs] at h
    | some r => exact ⟨asSl_isV hs, .inr (.inr ⟨_, _, rfl⟩)⟩
  · cases hs : asPt x with
    | none => simp [hs] at h
    | some r => exact ⟨asPt_isV hs, .inl rfl⟩
  · cases hs : asMp x with
    | none => simp [hs] at h
    | some r => exact ⟨asMp_isV hs, .inr (.inl rfl)⟩
  · cases h
theorem eqNil_isV {t : TypeId} {x y : Value} (h : IsV x) : eqNil P t x y = none ∧ eqNil P t y x = none := by
  obtain ⟨tt, u, rfl, ht⟩ := h
  constructor
  · unfold eqNil; split <;> first | rfl | (simp_all; done) | (rename_i hx _; cases hx; rw [ht])
  · unfold eqNil; split <;> first | rfl | (simp_all; done) | (rename_i _ hx; cases hx; rw [ht])

theorem lenB_none {c : Call} {x : Value} {dst : Option Tmp} {ty : TypeId} {pos : String} {after : Array Edge} {guard : Option (Nat × Bool)} {args : Array Operand} {argTypes : Array TypeId} {t : TypeId} (ea : args.toList.map (evI ts) = [x]) (h0 : argTypes[0]? = some t)
    (hu : (∃ e, P.underlying t = some (.slice e)) ∨ ∃ k e, P.underlying t = some (.map k e)) (hx : IsV x ∨ ∃ a, x = .map a) (hm : ∀ a, x = .map a → a ≠ none) : opB P ⟨dst, .call ⟨.builtin .len, args, argTypes⟩, ty, pos, after, guard⟩ ts h = none := by
  have hfl : Go.Ideal.flat x = false := by
    rcases hx with hx | ⟨a, rfl⟩
    · exact hx.flat
    · cases a with
      | none => exact absurd rfl (hm none rfl)
      | some a => rfl
  have hall : args.toList.all (flatOp ts) = false := by
    match hl : args.toList, ea with
    | [y], ea =>
      simp only [List.map_cons, List.map_nil, List.cons.injEq, and_true] at ea
      simp only [List.all_cons, List.all_nil, Bool.and_true]
      cases y with
      | global g => rfl
      | _ => rw [← ea] at hfl; exact hfl
    | [], ea => simp at ea
    | _ :: _ :: _, ea => simp at ea
  have hb : builtinI P h .len argTypes [x] = none := by
    simp only [builtinI, h0]
    rcases hu with ⟨e, hu⟩ | ⟨k, e, hu⟩ <;> rcases hx with ⟨tt, u, rfl, _⟩ | ⟨a, rfl⟩ <;> rw [hu]
  simp only [opB, ea, hb, hall, Bool.false_eq_true, if_false]

theorem opV_opB (he : opV P o ts told = some (v, l)) (h : Heap) : opB P o ts h = none := by
  obtain ⟨dst, op, ty, pos, after, guard⟩ := o
  cases op <;> simp only [opV] at he <;> try (cases he; done)
  case indexAddr t x ix =>
    simp only [opB]
    split at he
    · rename_i i elem hi hu
      split at he
      · rename_i n cs size hs hsz
        obtain ⟨tt, u, e, _⟩ := asSl_isV hs
        rw [hi, hu, e]
      · cases he
    · rename_i i len elem hi hu
      split at he
      · rename_i off cs size hs hsz
        obtain ⟨tt, u, e, _⟩ := asPt_isV hs
        rw [hi, hu, e]
      · cases he
    · cases he
  case buildSlice t n ps =>
    have hb : Nat.ble ps.toList.length n = false := by
      cases hc : Nat.ble ps.toList.length n with
      | false => rfl
      | true => rw [hc] at he; cases he
    simp only [opB, hb, Bool.and_false, Bool.false_eq_true, if_false]
    repeat' split
    all_goals rfl
  case fieldAddr s x f =>
    simp only [opB]
    split at he
    · rename_i fl off cs hf hs
      obtain ⟨tt, u, e, _⟩ := asPt_isV hs
      rw [hf, e]
    · cases he
  case nilCheck x =>
    simp only [opB]
    split at he
    · rename_i off cs hs
      obtain ⟨tt, u, e, ht⟩ := asPt_isV hs
      rw [e]; simp only [ht]
    · cases he
  case load t x =>
    simp only [opB]
    split at he
    · rename_i off cs hs
      obtain ⟨tt, u, e, ht⟩ := asPt_isV hs
      rw [e]
    · cases he
  case slice t x lo hi mx =>
    simp only [opB]
    split at he
    · rename_i elem hu
      rw [hu]
      simp only
      split at he
      · rename_i hs _ _
        obtain ⟨tt, u, e, ht⟩ := asSl_isV hs
        rw [e]
      · rename_i hs _ _ _
        obtain ⟨tt, u, e, ht⟩ := asSl_isV hs
        rw [e]
      · cases he
    · cases he
  case binOp op t x y t2 =>
    have key : (IsV (evI ts x) ∨ IsV (evI ts y)) → opB P ⟨dst, .binOp op t x y t2, ty, pos, after, guard⟩ ts h = none := fun hv => by
      have hfl : (flatOp ts x && flatOp ts y) = false := by
        rcases hv with hv | hv
        · rw [hv.flatOp]; rfl
        · rw [hv.flatOp, Bool.and_false]
      have heq : eqNil P t (evI ts x) (evI ts y) = none := by
        rcases hv with hv | hv
        · exact (eqNil_isV hv).1
        · exact (eqNil_isV hv).2
      simp only [opB, hfl, heq]
      cases op <;> rfl
    cases op <;> simp only at he <;> try (cases he; done)
    all_goals
      split at he
      · rename_i l' hn; exact key (.inl (nilSide_isV hn).1)
      · split at he
        · rename_i l' hn; exact key (.inr (nilSide_isV hn).1)
        · cases he
  case convert s d x =>
    have key : ∀ {e : TypeId}, P.underlying s = some (.slice e) → P.underlying d = some .string → IsV (evI ts x) → opB P ⟨dst, .convert s d x, ty, pos, after, guard⟩ ts h = none := fun {e} hu hd hv => by
      simp only [opB]
      have hfl := hv.flatOp
      obtain ⟨tt, u, e, ht⟩ := hv
      rw [hu, hd, e, hfl]
      rfl
    split at he
    · rename_i hu hd hs; exact key hu hd (asSl_isV hs)
    · rename_i hu hd hs; exact key hu hd (asSl_isV hs)
    · cases he
  case call c =>
    obtain ⟨callee, args, argTypes⟩ := c
    cases callee with
    | value f => cases he
    | invoke r m => cases he
    | builtin b =>
      cases b <;> simp only at he <;> try (cases he; done)
      split at he
      · rename_i x t ea h0
        split at he
        · rename_i e n cs hu hs
          exact lenB_none (c := ⟨.builtin .len, args, argTypes⟩) ea h0 (.inl ⟨e, hu⟩) (.inl (asSl_isV hs)) (fun a e => by obtain ⟨_, _, e2, _⟩ := asSl_isV hs; rw [e] at e2; cases e2)
        · rename_i kt et hu hs
          split at he
          · rename_i ks vs hm
            exact lenB_none (c := ⟨.builtin .len, args, argTypes⟩) ea h0 (.inr ⟨kt, et, hu⟩) (.inl (asMp_isV hm)) (fun a e => by obtain ⟨_, _, e2, _⟩ := asMp_isV hm; rw [e] at e2; cases e2)
          · cases he
        · cases he
      · cases he

theorem tests {P : Program} {l : List Ask} (hl : Holds P l) (hs : ∀ a ∈ l, (∃ x y, a = .le x y) ∨ (∃ x y, a = .lt x y) ∨ (∃ x y, a = .eq x y) ∨ ∃ cs, a = .ones cs) : l.all Ask.test = true :=
  List.all_eq_true.2 fun a ha => by
    have hh := hl a ha
    rcases hs a ha with ⟨x, y, rfl⟩ | ⟨x, y, rfl⟩ | ⟨x, y, rfl⟩ | ⟨cs, rfl⟩
    · simpa [Ask.test, Ask.holds] using hh
    · simpa [Ask.test, Ask.holds] using hh
    · simpa [Ask.test, Ask.holds] using hh
    · exact hh

theorem nilSide_simple {t : TypeId} {x y : Value} {l : List Ask} (h : nilSide P t x y = some l) : ∀ a ∈ l, (∃ x y, a = .le x y) ∨ (∃ x y, a = .lt x y) ∨ (∃ x y, a = .eq x y) ∨ ∃ cs, a = .ones cs := by
  unfold nilSide at h
  split at h
  · cases hs : asSl x with
    | none => simp [hs] at h
    | some r => obtain ⟨n, cs⟩ := r; simp only [hs, Option.some.injEq] at h; subst h; intro a ha; simp at ha; subst ha; exact .inr (.inl ⟨_, _, rfl⟩)
  · cases hs : asPt x with
    | none => simp [hs] at h
    | some r => simp only [hs, Option.some.injEq] at h; subst h; intro a ha; cases ha
  · cases hs : asMp x with
    | none => simp [hs] at h
    | some r => simp only [hs, Option.some.injEq] at h; subst h; intro a ha; cases ha
  · cases h

theorem ptPart_none {t : TypeId} {off : Nat} {cs : Array Value} (he : ptPart P t off cs told = some (v, l)) (hl : Holds P l) : ∃ l', ptPart P t off cs none = some (v, l') ∧ l'.all Ask.test = true := by
  unfold ptPart at he ⊢
  split at he
  · rename_i n h1 h2
    split at he
    · rename_i l2
      simp only [Option.some.injEq, Prod.mk.injEq] at he; obtain ⟨rfl, rfl⟩ := he
      obtain ⟨q1, q2⟩ := hl.cons.1
      refine ⟨_, by rw [q2], ?_⟩
      simp only [List.all_cons, List.all_nil, Bool.and_true, Ask.test, decide_eq_true_eq]
      omega
    · cases he
    · simp only [Option.some.injEq, Prod.mk.injEq] at he; obtain ⟨rfl, rfl⟩ := he
      exact ⟨_, rfl, tests hl fun a ha => by simp at ha; subst ha; exact .inl ⟨_, _, rfl⟩⟩
  · rename_i n h1 h2
    split at he
    · simp only [Option.some.injEq, Prod.mk.injEq] at he; obtain ⟨rfl, rfl⟩ := he
      rename_i v0
      obtain ⟨q1, q2⟩ := hl.cons.1
      have : cs.toList[off]? = some v0 := by
        have hlt : off < cs.toList.length := by omega
        rw [List.drop_eq_getElem_cons hlt] at q2
        simp only [List.take_succ_cons, List.take_zero, List.cons.injEq, and_true] at q2
        rw [List.getElem?_eq_getElem hlt, q2]
      exact ⟨[], by simp [this], rfl⟩
    · split at he
      · rename_i u hu
        simp only [Option.some.injEq, Prod.mk.injEq] at he; obtain ⟨rfl, rfl⟩ := he
        exact ⟨[], by simp [hu], rfl⟩
      · cases he
  · cases he

theorem opV_none (he : opV P o ts told = some (v, l)) (hl : Holds P l) : ∃ l', opV P o ts none = some (v, l') ∧ l'.all Ask.test = true := by
  obtain ⟨dst, op, ty, pos, after, guard⟩ := o
  cases op <;> simp only [opV] at he ⊢ <;> try (cases he; done)
  case indexAddr t x ix =>
    refine ⟨l, he, tests hl fun a ha => ?_⟩
    repeat' split at he
    all_goals first
      | (cases he; done)
      | (simp only [Option.some.injEq, Prod.mk.injEq] at he; obtain ⟨rfl, rfl⟩ := he
         simp at ha; rcases ha with rfl | rfl
         · exact .inl ⟨_, _, rfl⟩
         · exact .inr (.inl ⟨_, _, rfl⟩))
  case buildSlice t n ps =>
    refine ⟨l, he, ?_⟩
    repeat' split at he
    all_goals first
      | (cases he; done)
      | (simp only [Option.some.injEq, Prod.mk.injEq] at he; obtain ⟨rfl, rfl⟩ := he
         have q : Ask.holds P (.flats _) := hl _ (List.mem_singleton.2 rfl)
         simpa [Ask.test, Ask.holds] using q)
  case fieldAddr s x f =>
    refine ⟨l, he, tests hl fun a ha => ?_⟩
    repeat' split at he
    all_goals first
      | (cases he; done)
      | (simp only [Option.some.injEq, Prod.mk.injEq] at he; obtain ⟨rfl, rfl⟩ := he; cases ha)
  case nilCheck x =>
    refine ⟨l, he, tests hl fun a ha => ?_⟩
    repeat' split at he
    all_goals first
      | (cases he; done)
      | (simp only [Option.some.injEq, Prod.mk.injEq] at he; obtain ⟨rfl, rfl⟩ := he; cases ha)
  case load t x =>
    split at he
    · exact ptPart_none he hl
    · cases he
  case slice t x lo hi mx =>
    refine ⟨l, he, tests hl fun a ha => ?_⟩
    repeat' split at he
    all_goals first
      | (cases he; done)
      | (simp only [Option.some.injEq, Prod.mk.injEq] at he; obtain ⟨rfl, rfl⟩ := he
         first
           | (cases ha; done)
           | (simp at ha; rcases ha with rfl | rfl | rfl <;> exact .inl ⟨_, _, rfl⟩)
           | (simp at ha; rcases ha with rfl | rfl | rfl | rfl <;> exact .inl ⟨_, _, rfl⟩))
  case binOp op t x y t2 =>
    cases op <;> (try simp only at he ⊢) <;> try (cases he; done)
    all_goals
      refine ⟨l, he, tests hl ?_⟩
      split at he
      · rename_i l' hn; simp only [Option.some.injEq, Prod.mk.injEq] at he; obtain ⟨rfl, rfl⟩ := he; exact nilSide_simple hn
      · split at he
        · rename_i l' hn; simp only [Option.some.injEq, Prod.mk.injEq] at he; obtain ⟨rfl, rfl⟩ := he; exact nilSide_simple hn
        · cases he
  case convert s d x =>
    split at he
    · rename_i e n cs str hu hd hs
      split at he
      · rename_i hb
        simp only [Option.some.injEq, Prod.mk.injEq] at he; obtain ⟨rfl, rfl⟩ := he
        obtain ⟨q0, q1⟩ := hl.cons
        simp only [Ask.holds] at q0
        exact ⟨_, by simp only [hu, hd, hs, hb, q0], tests q1 fun a ha => by simp at ha; subst ha; exact .inr (.inr (.inl ⟨_, _, rfl⟩))⟩
      · cases he
    · rename_i e n cs hu hd hs
      simp only [hu, hd, hs]
      refine ⟨l, he, tests hl fun a ha => ?_⟩
      split at he
      · simp only [Option.some.injEq, Prod.mk.injEq] at he; obtain ⟨rfl, rfl⟩ := he
        simp at ha; subst ha; exact .inr (.inr (.inl ⟨_, _, rfl⟩))
      · cases he
    · cases he
  case call c =>
    obtain ⟨callee, args, argTypes⟩ := c
    cases callee with
    | value f => cases he
    | invoke r m => cases he
    | builtin b =>
      cases b <;> (try simp only at he ⊢) <;> try (cases he; done)
      refine ⟨l, he, tests hl fun a ha => ?_⟩
      repeat' split at he
      all_goals first
        | (cases he; done)
        | (simp only [Option.some.injEq, Prod.mk.injEq] at he; obtain ⟨rfl, rfl⟩ := he; cases ha)

theorem opV_opI (he : opV P o ts told = some (v, l)) (hl : Holds P l) (h : Heap) : opI P o ts h = some (v, h) := by
  obtain ⟨l', k1, k2⟩ := opV_none he hl
  unfold opI
  rw [opV_opB he h, k1]
  simp only [k2]

theorem sameN_refl : ∀ (m n : Nat) (v : Value), m ≤ n → plainK m v = true → sameN n v v = true
  | 0, _, _, _, h => by simp [plainK] at h
  | m + 1, 0, _, hle, _ => by omega
  | m + 1, n + 1, v, hle, h => by
    cases v with
    | bool b => simp [sameN]
    | int k x => simp [sameN]
    | string s => simp [sameN]
    | agg cs =>
      simp only [plainK] at h
      simp only [sameN]
      have key : ∀ (l : List Value), l.all (plainK m) = true → sameN.sameL n l l = true := fun l => by
        induction l with
        | nil => intro _; rfl
        | cons x l ih =>
          intro hl
          simp only [List.all_cons, Bool.and_eq_true] at hl
          simp only [sameN.sameL, Bool.and_eq_true]
          exact ⟨sameN_refl m n x (by omega) hl.1, ih hl.2⟩
      exact key cs.toList h
    | _ => simp [plainK] at h

theorem placeI_none {kt : TypeId} {k : Value} {ks : List Value} {r : Option Nat} (he : placeI P kt k ks told = some (r, l)) (hl : Holds P l) : placeI P kt k ks none = some (r, []) := by
  have := placeI_find he hl
  simp only [placeI, this]

theorem notFlat {args : Array Operand} {x : Value} {r : List Value} (ea : args.toList.map (evI ts) = x :: r) (hf : Go.Ideal.flat x = false) : args.toList.all (flatOp ts) = false := by
  match hl : args.toList, ea with
  | y :: l, ea =>
    simp only [List.map_cons, List.cons.injEq] at ea
    simp only [List.all_cons]
    have : flatOp ts y = false := by
      cases y with
      | global g => rfl
      | _ => rw [← ea.1] at hf; exact hf
    rw [this, Bool.false_and]
  | [], ea => simp at ea

theorem opH_opI (he : opH P o ts h told = some (v, h', l)) (hl : Holds P l) : opI P o ts h = some (v, h') := by
  have fin : opB P o ts h = none → opV P o ts none = none → (∃ l', opH P o ts h none = some (v, h', l') ∧ l'.all Ask.test = true) → opI P o ts h = some (v, h') := fun h1 h2 ⟨l', h3, h4⟩ => by
    unfold opI; rw [h1, h2, h3]; simp only [h4]
  obtain ⟨dst, op, ty, pos, after, guard⟩ := o
  have upd : ∀ {t : TypeId} {m k x : Operand},
      (match P.underlying t, evI ts m with
        | some (.map kt _), .map (some i) => match h.get i, keyOK P kt (evI ts k) with
          | some (.map ks vs), true => match placeI P kt (evI ts k) ks told with
            | some (some j, l) => some (Go.undef, h.set i (.map ks (vs.set j (evI ts x))), Ask.get ks j (evI ts k) :: l)
            | some (none, l) => some (Go.undef, h.set i (.map (ks ++ [evI ts k]) (vs ++ [evI ts x])), l)
            | none => none
          | _, _ => none
        | _, _ => none) = some (v, h', l) →
      ∃ l', (match P.underlying t, evI ts m with
        | some (.map kt _), .map (some i) => match h.get i, keyOK P kt (evI ts k) with
          | some (.map ks vs), true => match placeI P kt (evI ts k) ks none with
            | some (some j, l) => some (Go.undef, h.set i (.map ks (vs.set j (evI ts x))), Ask.get ks j (evI ts k) :: l)
            | some (none, l) => some (Go.undef, h.set i (.map (ks ++ [evI ts k]) (vs ++ [evI ts x])), l)
            | none => none
          | _, _ => none
        | _, _ => none) = some (v, h', l') ∧ l'.all Ask.test = true := fun {t m k x} he => by
    split at he
    · rename_i kt et i hu em
      split at he
      · rename_i ks vs hg hkey
        split at he
        · rename_i j l' hp
          simp only [Option.some.injEq, Prod.mk.injEq] at he; obtain ⟨rfl, rfl, rfl⟩ := he
          obtain ⟨q0, q1⟩ := hl.cons
          refine ⟨[.get ks j (evI ts k)], by simp only [hg, hkey, placeI_none hp q1], ?_⟩
          obtain ⟨_, _, f2, _⟩ := keyOK_spec hkey
          simp only [Ask.holds] at q0
          simp only [List.all_cons, List.all_nil, Bool.and_true, Ask.test, q0, sameN_refl 6 6 _ (Nat.le_refl _) f2]
        · rename_i l' hp
          simp only [Option.some.injEq, Prod.mk.injEq] at he; obtain ⟨rfl, rfl, rfl⟩ := he
          exact ⟨[], by simp only [hg, hkey, placeI_none hp hl], rfl⟩
        · cases he
      · cases he
    · cases he
  cases op <;> simp only [opH] at he <;> try (cases he; done)
  case makeMap t r => exact fin rfl rfl ⟨l, he, by cases r <;> simp at he; obtain ⟨_, _, rfl⟩ := he; rfl⟩
  case mapUpdate t m k x => exact fin rfl rfl (upd he)
  case insert t m k x => exact fin rfl rfl (upd he)
  case lookup t x k ok =>
    refine fin rfl rfl ?_
    simp only [opH]
    split at he
    · rename_i kt et ks vs hu hm
      split at he
      · rename_i j l' hkey hp
        split at he
        · rename_i arr
          split at he
          · rename_i y0 u ha
            simp only [Option.some.injEq, Prod.mk.injEq] at he; obtain ⟨rfl, rfl, rfl⟩ := he
            obtain ⟨q0, q1⟩ := hl.cons
            simp only [Ask.holds] at q0
            exact ⟨[], by simp only [hkey, placeI_none hp q1, q0], rfl⟩
          · cases he
        · split at he
          · rename_i u hget
            simp only [Option.some.injEq, Prod.mk.injEq] at he; obtain ⟨rfl, rfl, rfl⟩ := he
            exact ⟨[], by simp only [hkey, placeI_none hp hl, hget], rfl⟩
          · cases he
      · rename_i l' hkey hp
        split at he
        · rename_i z hz
          split at he
          · rename_i hfz
            simp only [Option.some.injEq, Prod.mk.injEq] at he; obtain ⟨rfl, rfl, rfl⟩ := he
            exact ⟨[], by simp only [hkey, placeI_none hp hl, hz, hfz], rfl⟩
          · cases he
        · cases he
      · cases he
    · cases he
  case call c =>
    obtain ⟨callee, args, argTypes⟩ := c
    cases callee with
    | value f => cases he
    | invoke r m => cases he
    | builtin b =>
      cases b <;> (try simp only at he) <;> try (cases he; done)
      case append =>
        split at he
        · rename_i s x st xt ea h0 h1
          split at he
          · rename_i elem xe tok es n cs hus hux hos
            have hv := asOs_isV hos
            have hB : opB P ⟨dst, .call ⟨.builtin .append, args, argTypes⟩, ty, pos, after, guard⟩ ts h = none := by
              have hall := notFlat ea hv.flat
              have hb : builtinI P h .append argTypes [s, x] = none := by
                obtain ⟨tt, u, rfl, _⟩ := hv
                simp only [builtinI, h0, h1, hus, hux]
                cases sizeI P elem <;> cases lenI x <;> try rfl
                rename_i size n2
                simp only
                cases firstI h size n2 x with
                | none => rfl
                | some new =>
                  simp only
                  split
                  · unfold appendI
                    cases P.info? elem with
                    | none => rfl
                    | some ti => simp only; split <;> first | rfl | (split <;> rfl)
                  · rfl
              simp only [opB, ea, hb, hall, Bool.false_eq_true, if_false]
            refine fin hB rfl ?_
            simp only [opH, ea, h0, h1, hus, hux, hos]
            split at he
            · rename_i m t ti zs hg hti hzs
              split at he
              · cases he
              · rename_i hc
                split at he
                · rename_i k xs hxs
                  simp only [Option.some.injEq, Prod.mk.injEq] at he; obtain ⟨rfl, rfl, rfl⟩ := he
                  refine ⟨_, by simp only [hg, hti, hzs, hc, hxs], tests hl fun a ha => ?_⟩
                  simp at ha; rcases ha with rfl | rfl | rfl | rfl
                  · exact .inr (.inr (.inl ⟨_, _, rfl⟩))
                  · exact .inr (.inr (.inl ⟨_, _, rfl⟩))
                  · exact .inl ⟨_, _, rfl⟩
                  · exact .inr (.inr (.inr ⟨_, rfl⟩))
                · rename_i hxs
                  split at he
                  · rename_i k hlk
                    split at he
                    · rename_i new hfi
                      split at he
                      · rename_i hcc
                        simp only [Option.some.injEq, Prod.mk.injEq] at he; obtain ⟨rfl, rfl, rfl⟩ := he
                        refine ⟨_, by simp only [hg, hti, hzs, hc, hxs, hlk, hfi, hcc], tests hl fun a ha => ?_⟩
                        simp at ha; rcases ha with rfl | rfl
                        · exact .inr (.inr (.inl ⟨_, _, rfl⟩))
                        · exact .inl ⟨_, _, rfl⟩
                      · cases he
                    · cases he
                  · cases he
            · cases he
          · cases he
        · cases he
      case len =>
        split at he
        · rename_i i t ea h0
          split at he
          · rename_i kt et ks vs hu hg
            simp only [Option.some.injEq, Prod.mk.injEq] at he; obtain ⟨rfl, rfl, rfl⟩ := he
            refine fin (lenB_none (c := ⟨.builtin .len, args, argTypes⟩) ea h0 (.inr ⟨kt, et, hu⟩) (.inr ⟨_, rfl⟩) (fun a e => by cases e; simp)) ?_ ⟨[], by simp only [opH, ea, h0, hu, hg], rfl⟩
            simp only [opV, ea, h0, hu, asSl, asMp]
          · cases he
        · cases he
      case delete =>
        split at he
        · rename_i m k t ea h0
          split at he
          · rename_i kt et i hu
            have hB : opB P ⟨dst, .call ⟨.builtin .delete, args, argTypes⟩, ty, pos, after, guard⟩ ts h = none := by
              have hall := notFlat ea (show Go.Ideal.flat (.map (some i)) = false from rfl)
              have hb : builtinI P h .delete argTypes [.map (some i), k] = none := rfl
              simp only [opB, ea, hb, hall, Bool.false_eq_true, if_false]
            refine fin hB rfl ?_
            simp only [opH, ea, h0, hu]
            split at he
            · rename_i ks vs hg hkey
              split at he
              · rename_i j l' hp
                simp only [Option.some.injEq, Prod.mk.injEq] at he; obtain ⟨rfl, rfl, rfl⟩ := he
                exact ⟨[], by simp only [hg, hkey, placeI_none hp hl], rfl⟩
              · rename_i l' hp
                simp only [Option.some.injEq, Prod.mk.injEq] at he; obtain ⟨rfl, rfl, rfl⟩ := he
                exact ⟨[], by simp only [hg, hkey, placeI_none hp hl], rfl⟩
              · cases he
            · cases he
          · cases he
        · cases he

theorem rd_part {h : Heap} {ad : Addr} {cs : List Value} {t : TypeId} {m : Mode} {n : Nat} {out : List Value} (hg : h.get ad.block = some (.cells cs t m)) (hs : ad.spot = none) (hm : m ≠ .dead) (h1 : ad.off + n ≤ cs.length) (h2 : (cs.drop ad.off).take n = out) : rdCells h ad n = some out := by
  unfold rdCells; rw [hg, hs]
  cases m with
  | dead => exact absurd rfl hm
  | _ => simp only [if_pos h1, h2]

theorem opC_opI (he : opC P o ts h told = some (v, h', l)) (hl : Holds P l) : opI P o ts h = some (v, h') := by
  have fin : opB P o ts h = some (v, h') → opI P o ts h = some (v, h') := fun hb => by unfold opI; rw [hb]
  obtain ⟨dst, op, ty, pos, after, guard⟩ := o
  cases op <;> simp only [opC] at he <;> try (cases he; done)
  case slice t x lo hi mx =>
    split at he
    · split at he
      · rename_i v0 l0 hv
        simp only [Option.some.injEq, Prod.mk.injEq] at he; obtain ⟨rfl, rfl, rfl⟩ := he
        have h1 := hl.cons.1
        simp only [Ask.holds, List.getElem?_cons_zero, Option.some.injEq] at h1
        subst h1
        exact opV_opI hv hl.cons.2 h
      · cases he
    · cases he
  case binOp op t x y t2 =>
    split at he
    · cases he
    · rename_i hf
      simp only [Bool.and_eq_true] at hf
      obtain ⟨fx, fy⟩ := hf
      have eqs : ∀ {c d : Array Value} {b : Bool}, evI ts x = .agg c → evI ts y = .agg d → eqD P 10000 t (.agg c) (.agg d) = some b →
          (op = .eql → pureRun P (eqGuard .eql t x y (.agg c) (.agg d)) = some () → opB P ⟨dst, .binOp op t x y t2, ty, pos, after, guard⟩ ts h = some (.bool b, h)) ∧
          (op = .neq → pureRun P (eqGuard .neq t x y (.agg c) (.agg d)) = some () → opB P ⟨dst, .binOp op t x y t2, ty, pos, after, guard⟩ ts h = some (.bool (!b), h)) := fun {c d b} hx hy hb => by
        refine ⟨fun e hg => ?_, fun e hg => ?_⟩ <;> subst e
        · have hb2 : pureRun P (binOp .eql t (.agg c) (.agg d)) = some (.bool b) := by
            have := eqD_sound 10000 _ _ _ _ hb
            simp only [binOp, Op.equal, Op.maxDepth, pr_bind, this, Option.bind_some]; rfl
          have hc : pureRun P (execOp (evI ts) ⟨dst, .binOp .eql t x y t2, ty, pos, after, guard⟩) = some (.value (.bool b)) := by
            simp only [execOp, hx, hy, pr_bind, hg, hb2, Option.bind_some]; rfl
          simp [opB, fx, fy, hc, flat, flatN]
        · have hb2 : pureRun P (binOp .neq t (.agg c) (.agg d)) = some (.bool (!b)) := by
            have := eqD_sound 10000 _ _ _ _ hb
            simp only [binOp, Op.equal, Op.maxDepth, pr_bind, this, Option.bind_some]; rfl
          have hc : pureRun P (execOp (evI ts) ⟨dst, .binOp .neq t x y t2, ty, pos, after, guard⟩) = some (.value (.bool (!b))) := by
            simp only [execOp, hx, hy, pr_bind, hg, hb2, Option.bind_some]; rfl
          simp [opB, fx, fy, hc, flat, flatN]
      split at he
      · rename_i k a k2 b hx hy
        simp only [Option.some.injEq, Prod.mk.injEq] at he; obtain ⟨rfl, rfl, rfl⟩ := he
        have hn : ¬ b < 0 := by have := hl.cons.1; simp only [Ask.holds] at this; omega
        refine fin ?_
        simp [opB, fx, fy, execOp, hx, hy, eqGuard, binOp, Op.shift, hn, flat, flatN]
        rfl
      · rename_i k a k2 b hx hy
        simp only [Option.some.injEq, Prod.mk.injEq] at he; obtain ⟨rfl, rfl, rfl⟩ := he
        have hn : ¬ b < 0 := by have := hl.cons.1; simp only [Ask.holds] at this; omega
        refine fin ?_
        simp [opB, fx, fy, execOp, hx, hy, eqGuard, binOp, Op.shift, hn, flat, flatN]
        rfl
      · rename_i k a k2 b hx hy
        split at he
        · rename_i e; obtain rfl : k = k2 := by simpa using e
          simp only [Option.some.injEq, Prod.mk.injEq] at he; obtain ⟨rfl, rfl, rfl⟩ := he
          have hn : b ≠ 0 := hl.cons.1
          refine fin ?_
          simp [opB, fx, fy, execOp, hx, hy, eqGuard, binOp, Op.intDiv, hn, flat, flatN]
          rfl
        · cases he
      · rename_i k a k2 b hx hy
        split at he
        · rename_i e; obtain rfl : k = k2 := by simpa using e
          simp only [Option.some.injEq, Prod.mk.injEq] at he; obtain ⟨rfl, rfl, rfl⟩ := he
          have hn : b ≠ 0 := hl.cons.1
          refine fin ?_
          simp [opB, fx, fy, execOp, hx, hy, eqGuard, binOp, Op.intDiv, hn, flat, flatN]
          rfl
        · cases he
      · rename_i c d hx hy
        split at he
        · rename_i b hg
          simp only [Option.some.injEq, Prod.mk.injEq] at he; obtain ⟨rfl, rfl, rfl⟩ := he
          exact fin ((eqs hx hy hl.cons.1).1 rfl hg)
        · rename_i hg
          split at he
          · rename_i b hb
            simp only [Option.some.injEq, Prod.mk.injEq] at he; obtain ⟨rfl, rfl, rfl⟩ := he
            exact fin ((eqs hx hy hb).1 rfl hg)
          · cases he
        · cases he
      · rename_i c d hx hy
        split at he
        · rename_i b hg
          simp only [Option.some.injEq, Prod.mk.injEq] at he; obtain ⟨rfl, rfl, rfl⟩ := he
          exact fin ((eqs hx hy hl.cons.1).2 rfl hg)
        · rename_i hg
          split at he
          · rename_i b hb
            simp only [Option.some.injEq, Prod.mk.injEq] at he; obtain ⟨rfl, rfl, rfl⟩ := he
            exact fin ((eqs hx hy hb).2 rfl hg)
          · cases he
        · cases he
      · cases he
  case makeSlice t x y =>
    split at he
    · rename_i elem hu
      split at he
      · rename_i ti z k1 ln k2 cn hti hz hx hy
        split at he
        · rename_i hzl
          simp only [Option.some.injEq, Prod.mk.injEq] at he; obtain ⟨rfl, rfl, rfl⟩ := he
          obtain ⟨q0, q1⟩ := hl.cons
          obtain ⟨q1, q2⟩ := q1.cons
          have q2 := q2.cons.1
          simp only [Ask.holds] at q0 q1 q2
          have hc : (Nat.beq z.length ti.size && decide (0 ≤ ln) && decide (ln ≤ cn) && Nat.ble (cn.toNat * (ti.bytes + 1)) 1099511627776) = true := by
            rw [hzl, decide_eq_true q0, decide_eq_true q1]
            simp only [Bool.true_and, Nat.ble_eq]
            obtain ⟨m, rfl⟩ := Int.eq_ofNat_of_zero_le (Int.le_trans q0 q1)
            have : ((m * (ti.bytes + 1) : Nat) : Int) ≤ 1099511627776 := by simpa using q2
            simp only [Int.toNat_natCast]; omega
          exact fin (by simp only [opB, hu, hti, hz, hx, hy]; rw [if_pos hc])
        · cases he
      · cases he
    · cases he
  case indexAddr t x ix =>
    split at he
    · rename_i i len elem b off hi hu hx
      split at he
      · rename_i size hsz
        simp only [Option.some.injEq, Prod.mk.injEq] at he; obtain ⟨rfl, rfl, rfl⟩ := he
        obtain ⟨q0, q1⟩ := hl.cons
        exact fin (by simp only [opB, hi, hu, hx, hsz]; rw [if_pos ⟨q0, q1.cons.1⟩, Addr.add_none])
      · cases he
    · rename_i i elem b off len cap hi hu hx
      split at he
      · rename_i size hsz
        simp only [Option.some.injEq, Prod.mk.injEq] at he; obtain ⟨rfl, rfl, rfl⟩ := he
        obtain ⟨q0, q1⟩ := hl.cons
        exact fin (by simp only [opB, hi, hu, hx, hsz]; rw [if_pos ⟨q0, q1.cons.1⟩, Addr.add_none])
      · cases he
    · cases he
  case index t x ix =>
    split at he
    · rename_i i len elem cs u hi hu hx
      split at he
      · rename_i size hsz
        simp only [Option.some.injEq, Prod.mk.injEq] at he; obtain ⟨rfl, rfl, rfl⟩ := he
        obtain ⟨q0, q1⟩ := hl.cons
        obtain ⟨q1, q2⟩ := q1.cons
        have q2 := q2.cons.1
        simp only [Ask.holds] at q2
        exact fin (by simp only [opB, hi, hu, hx, hsz]; rw [if_pos ⟨q0, q1⟩, q2]; rfl)
      · cases he
    · rename_i i s b hi hu hx
      simp only [Option.some.injEq, Prod.mk.injEq] at he; obtain ⟨rfl, rfl, rfl⟩ := he
      obtain ⟨q0, q1⟩ := hl.cons
      obtain ⟨c, q2, rfl⟩ := q1.cons.1
      exact fin (by simp only [opB, hi, hu, hx]; rw [if_pos (show 0 ≤ i from q0), q2])
    · cases he
  case load t a =>
    split at he
    · rename_i ad v2 hx
      split at he
      · cases he
      · rename_i cs t' md m hnd hg hs hag hn
        split at he
        · rename_i l'
          simp only [Option.some.injEq, Prod.mk.injEq] at he; obtain ⟨rfl, rfl, rfl⟩ := he
          obtain ⟨q1, q2⟩ := hl.cons.1
          have hr := rd_part hg hs (fun e => hnd e) q1 q2
          exact fin (by simp only [opB, hx, loadI, hag, hn, hr, Option.map_some])
        · cases he
      · rename_i cs t' md m hnd hg hs hag hn
        simp only [Option.some.injEq, Prod.mk.injEq] at he; obtain ⟨rfl, rfl, rfl⟩ := he
        obtain ⟨q1, q2⟩ := hl.cons.1
        have hr := rd_part hg hs (fun e => hnd e) q1 q2
        exact fin (by simp only [opB, hx, loadI, hag, hn, hr, Option.map_some])
      · cases he
    · cases he
  case store t a x =>
    split at he
    · rename_i ad n hx hn
      split at he
      · cases he
      · rename_i hlc
        simp only [Bool.and_eq_true] at hlc
        have hlen : (Value.cellList (evI ts x)).length = n := Nat.eq_of_beq_eq_true hlc.1
        have key : ∀ {cs : List Value} {t' : TypeId} {m : Mode}, (m = .fix ∨ m = .grow) → h.get ad.block = some (.cells cs t' m) → ad.spot = none → ad.off + n ≤ cs.length →
            opB P ⟨dst, .store t a x, ty, pos, after, guard⟩ ts h = some (Go.undef, h.set ad.block (.cells (splice cs ad.off (Value.cellList (evI ts x))) t' m)) := fun {cs t' m} hm hg hs q => by
          have hb : Nat.ble (ad.off + (Value.cellList (evI ts x)).length) cs.length = true := by rw [hlen]; simpa [Nat.ble_eq] using q
          rcases hm with rfl | rfl <;> simp only [opB, hx, storeI, hn, hlc.1, wrCells, hg, hs, hb, hlc.2, Bool.and_self, if_true, Option.map_some]
        split at he
        · rename_i cs t' hg hs
          simp only [Option.some.injEq, Prod.mk.injEq] at he; obtain ⟨rfl, rfl, rfl⟩ := he
          exact fin (key (.inl rfl) hg hs hl.cons.1)
        · rename_i cs t' hg hs
          simp only [Option.some.injEq, Prod.mk.injEq] at he; obtain ⟨rfl, rfl, rfl⟩ := he
          exact fin (key (.inr rfl) hg hs hl.cons.1)
        · cases he
    · cases he

theorem asRp_isV {v : Value} {r : Nat × Nat × Nat} (h : asRp v = some r) : ∃ u, v = .iface 1000007 u := by
  unfold asRp at h
  split at h
  · split at h
    · exact ⟨_, rfl⟩
    · cases h
  · cases h
theorem asRs_isV {v : Value} {r : Nat × Nat × Nat × Nat × Int} (h : asRs v = some r) : ∃ u, v = .iface 1000006 u := by
  unfold asRs at h
  split at h
  · split at h
    · exact ⟨_, rfl⟩
    · cases h
  · cases h
theorem mark_isV {v : Value} {t : Nat} {u : Value} (h : v = .iface t u) (ht : isV t = true) : IsV v := ⟨t, u, h, ht⟩
theorem nilSideP_isV {t : TypeId} {x y : Value} {l : List Ask} (h : nilSideP P t x y = some l) : IsV x ∧ asSl x = none ∧ asPt x = none ∧ asMp x = none ∧ (y = .pointer none ∨ ∃ n c, y = .slice none n c) := by
  unfold nilSideP at h
  split at h
  · split at h
    · rename_i hs; obtain ⟨u, rfl⟩ := asRs_isV hs
      refine ⟨⟨_, _, rfl, rfl⟩, ?_, ?_, ?_, .inr ⟨_, _, rfl⟩⟩ <;> (cases u <;> rfl)
    · cases h
  · split at h
    · rename_i hs; obtain ⟨u, rfl⟩ := asRp_isV hs
      refine ⟨⟨_, _, rfl, rfl⟩, ?_, ?_, ?_, .inl rfl⟩ <;> (cases u <;> rfl)
    · cases h
  · cases h
theorem testsP {l : List Ask} (hl : Holds P l) (hs : ∀ a ∈ l, (∃ x y, a = .le x y) ∨ (∃ x y, a = .lt x y) ∨ (∃ x y, a = .eq x y) ∨ (∃ x, a = .ones x) ∨ (∃ x y z, a = .space x y z) ∨ ∃ x y z, a = .full x y z) : l.all Ask.test = true := by
  refine List.all_eq_true.2 fun a ha => ?_
  have hh := hl a ha
  rcases hs a ha with ⟨x, y, rfl⟩ | ⟨x, y, rfl⟩ | ⟨x, y, rfl⟩ | ⟨x, rfl⟩ | ⟨x, y, z, rfl⟩ | ⟨x, y, z, rfl⟩
  · simpa [Ask.test, Ask.holds] using hh
  · simpa [Ask.test, Ask.holds] using hh
  · simpa [Ask.test, Ask.holds] using hh
  · exact hh
  · simpa [Ask.test, Ask.holds] using hh
  · simpa [Ask.test, Ask.holds] using hh

theorem opP_opI (he : opP P o ts h told = some (v, h', l)) (hl : Holds P l) : opI P o ts h = some (v, h') := by
  have fin : opB P o ts h = none → opV P o ts none = none → opH P o ts h none = none → (∃ l', opP P o ts h none = some (v, h', l') ∧ l'.all Ask.test = true) → opI P o ts h = some (v, h') := fun h1 h2 h3 ⟨l', h4, h5⟩ => by
    unfold opI; rw [h1, h2, h3, h4]; simp only [h5]
  obtain ⟨dst, op, ty, pos, after, guard⟩ := o
  cases op
  case load t x =>
    simp only [opP] at he
    split at he
    · rename_i p r off hp
      obtain ⟨u, eu⟩ := asRp_isV hp
      refine fin (by simp only [opB, eu]) (by simp only [opV, eu]; cases u <;> rfl) rfl ?_
      simp only [opP, hp]
      split at he
      · rename_i rows n l' hg h1 h2
        simp only [Option.some.injEq, Prod.mk.injEq] at he; obtain ⟨rfl, rfl, rfl⟩ := he
        obtain ⟨q0, q1, q2⟩ := hl.cons.1
        refine ⟨[.space rows r (off + n)], by rw [hg, h1, h2]; simp [q2], testsP (P := P) (fun a ha => ?_) fun a ha => ?_⟩
        · simp at ha; subst ha; exact ⟨q0, q1⟩
        · simp at ha; subst ha; exact .inr (.inr (.inr (.inr (.inl ⟨_, _, _, rfl⟩))))
      · rename_i rows n hg h1 h2
        simp only [Option.some.injEq, Prod.mk.injEq] at he; obtain ⟨rfl, rfl, rfl⟩ := he
        exact ⟨_, by rw [hg, h1, h2], testsP hl fun a ha => by simp at ha; subst ha; exact .inr (.inr (.inr (.inr (.inl ⟨_, _, _, rfl⟩))))⟩
      · rename_i rows n u2 hg h1 h2
        simp only [Option.some.injEq, Prod.mk.injEq] at he; obtain ⟨rfl, rfl, rfl⟩ := he
        obtain ⟨q0, q1, q2⟩ := hl.cons.1
        have e : (cellsAt rows r)[off]? = some u2 := by
          have hlt : off < (cellsAt rows r).length := by omega
          rw [List.drop_eq_getElem_cons hlt] at q2
          simp only [List.take_succ_cons, List.take_zero, List.cons.injEq, and_true] at q2
          rw [List.getElem?_eq_getElem hlt, q2]
        refine ⟨[.space rows r (off + 1)], by rw [hg, h1, h2]; simp only [e], testsP (P := P) (fun a ha => ?_) fun a ha => ?_⟩
        · simp at ha; subst ha; exact ⟨q0, q1⟩
        · simp at ha; subst ha; exact .inr (.inr (.inr (.inr (.inl ⟨_, _, _, rfl⟩))))
      · rename_i rows n hg h1 h2
        split at he
        · rename_i u2 hu
          simp only [Option.some.injEq, Prod.mk.injEq] at he; obtain ⟨rfl, rfl, rfl⟩ := he
          exact ⟨[.space rows r (off + 1)], by rw [hg, h1, h2]; simp only [hu], testsP hl fun a ha => by simp at ha; subst ha; exact .inr (.inr (.inr (.inr (.inl ⟨_, _, _, rfl⟩))))⟩
        · cases he
      · cases he
    · cases he
  case store t x y =>
    simp only [opP] at he
    split at he
    · rename_i p r off n hp hn
      obtain ⟨u, eu⟩ := asRp_isV hp
      split at he
      · rename_i rows hg hc
        simp only [Option.some.injEq, Prod.mk.injEq] at he; obtain ⟨rfl, rfl, rfl⟩ := he
        refine fin (by simp only [opB, eu]) rfl rfl ⟨_, by simp only [opP, hp, hn, hg, hc], testsP hl fun a ha => by simp at ha; subst ha; exact .inr (.inr (.inr (.inr (.inl ⟨_, _, _, rfl⟩))))⟩
      · cases he
    · cases he
  case nilCheck x =>
    simp only [opP] at he
    split at he
    · rename_i p r off hp
      obtain ⟨u, eu⟩ := asRp_isV hp
      simp only [Option.some.injEq, Prod.mk.injEq] at he; obtain ⟨rfl, rfl, rfl⟩ := he
      exact fin (by simp [opB, eu, isV]) (by simp only [opV, eu]; cases u <;> rfl) rfl ⟨[], by simp only [opP, hp], rfl⟩
    · cases he
  case fieldAddr s x f =>
    have he0 := he
    simp only [opP] at he
    split at he
    · rename_i fl p r off hf hp
      obtain ⟨u, eu⟩ := asRp_isV hp
      refine fin (by simp only [opB, eu, hf]) (by simp only [opV, eu]; cases u <;> (simp only [hf]; rfl)) rfl ⟨l, he0, ?_⟩
      split at he
      · cases he
      · cases he
      · simp only [Option.some.injEq, Prod.mk.injEq] at he; rw [← he.2.2]; rfl
    · cases he
  case indexAddr t x ix =>
    have he0 := he
    simp only [opP] at he
    split at he
    · rename_i i elem hi hu
      split at he
      · rename_i p r es off n size hs hsz
        obtain ⟨u, eu⟩ := asRs_isV hs
        refine fin (by simp only [opB, eu, hi, hu]) (by simp only [opV, eu, hi, hu]; cases u <;> rfl) rfl ⟨l, he0, ?_⟩
        split at he
        · simp only [Option.some.injEq, Prod.mk.injEq] at he; obtain ⟨rfl, rfl, rfl⟩ := he
          exact testsP hl fun a ha => by simp at ha; rcases ha with rfl | rfl <;> simp
        · cases he
      · cases he
    · rename_i i len elem hi hu
      split at he
      · rename_i p r off size hs hsz
        obtain ⟨u, eu⟩ := asRp_isV hs
        refine fin (by simp only [opB, eu, hi, hu]) (by simp only [opV, eu, hi, hu]; cases u <;> rfl) rfl ⟨l, he0, ?_⟩
        simp only [Option.some.injEq, Prod.mk.injEq] at he; obtain ⟨rfl, rfl, rfl⟩ := he
        exact testsP hl fun a ha => by simp at ha; rcases ha with rfl | rfl <;> simp
      · cases he
    · cases he
  case slice t x lo hi mx =>
    cases mx with
    | some m => cases he
    | none =>
      have he0 := he
      simp only [opP] at he
      split at he
      · rename_i elem p r es off n hu hs
        obtain ⟨u, eu⟩ := asRs_isV hs
        have hsl : asSl (evI ts x) = none := by rw [eu]; cases u <;> rfl
        refine fin (by simp only [opB, hu, eu]) (by simp only [opV, hu, hsl]) rfl ⟨l, he0, ?_⟩
        split at he
        · split at he
          · simp only [Option.some.injEq, Prod.mk.injEq] at he; obtain ⟨rfl, rfl, rfl⟩ := he
            exact testsP hl fun a ha => by simp at ha; rcases ha with rfl | rfl <;> simp
          · cases he
        · split at he
          · simp only [Option.some.injEq, Prod.mk.injEq] at he; obtain ⟨rfl, rfl, rfl⟩ := he
            exact testsP hl fun a ha => by simp at ha; rcases ha with rfl | rfl | rfl | rfl <;> simp
          · cases he
        · cases he
      · cases he
  case binOp op t x y t2 =>
    have noB : ∀ {l' : List Ask}, (nilSideP P t (evI ts x) (evI ts y) = some l' ∨ nilSideP P t (evI ts y) (evI ts x) = some l') → (opB P ⟨dst, .binOp op t x y t2, ty, pos, after, guard⟩ ts h = none ∧ nilSide P t (evI ts x) (evI ts y) = none ∧ nilSide P t (evI ts y) (evI ts x) = none) := fun {l'} hh => by
      have key : ∀ {p q : Operand} {l' : List Ask}, nilSideP P t (evI ts p) (evI ts q) = some l' → flatOp ts p = false ∧ eqNil P t (evI ts p) (evI ts q) = none ∧ eqNil P t (evI ts q) (evI ts p) = none ∧ nilSide P t (evI ts p) (evI ts q) = none ∧ nilSide P t (evI ts q) (evI ts p) = none := fun {p q l'} hn => by
        obtain ⟨k1, k2, k3, k4, k5⟩ := nilSideP_isV hn
        refine ⟨k1.flatOp, (eqNil_isV k1).1, (eqNil_isV k1).2, ?_, ?_⟩
        · unfold nilSide; rw [k2, k3, k4]; split <;> rfl
        · unfold nilSide
          obtain ⟨tt, uu, eu, _⟩ := k1
          rw [eu]
          split <;> first | rfl | (rename_i hx; cases hx)
      rcases hh with hn | hn
      · obtain ⟨f1, f2, f3, f4, f5⟩ := key hn
        exact ⟨by simp only [opB, f1, Bool.false_and, Bool.false_eq_true, if_false, f2], f4, f5⟩
      · obtain ⟨f1, f2, f3, f4, f5⟩ := key hn
        exact ⟨by simp only [opB, f1, Bool.and_false, Bool.false_eq_true, if_false, f3], f5, f4⟩
    cases op <;> (try (cases he; done))
    all_goals
      have he0 := he
      simp only [opP] at he
      split at he
      · rename_i l' _ hn
        obtain ⟨b1, b2, b3⟩ := noB (.inl hn)
        simp only [Option.some.injEq, Prod.mk.injEq] at he; obtain ⟨rfl, rfl, rfl⟩ := he
        refine fin b1 (by simp only [opV, b2, b3]) rfl ⟨_, he0, testsP hl fun a ha => ?_⟩
        unfold nilSideP at hn
        repeat' split at hn
        all_goals first | (cases hn; done) | (simp only [Option.some.injEq] at hn; subst hn; simp at ha; try (subst ha; simp))
      · rename_i l' _ hn
        obtain ⟨b1, b2, b3⟩ := noB (.inr hn)
        simp only [Option.some.injEq, Prod.mk.injEq] at he; obtain ⟨rfl, rfl, rfl⟩ := he
        refine fin b1 (by simp only [opV, b2, b3]) rfl ⟨_, he0, testsP hl fun a ha => ?_⟩
        unfold nilSideP at hn
        repeat' split at hn
        all_goals first | (cases hn; done) | (simp only [Option.some.injEq] at hn; subst hn; simp at ha; try (subst ha; simp))
      · cases he
  case call c =>
    obtain ⟨callee, args, argTypes⟩ := c
    cases callee with
    | value f => cases he
    | invoke r m => cases he
    | builtin b =>
      cases b <;> (try (cases he; done))
      case len =>
        have he0 := he
        simp only [opP] at he
        split at he
        · rename_i x t ea h0
          split at he
          · rename_i e p r es off n hu hs
            obtain ⟨u, eu⟩ := asRs_isV hs
            have hv : IsV x := ⟨_, _, eu, rfl⟩
            simp only [Option.some.injEq, Prod.mk.injEq] at he; obtain ⟨rfl, rfl, rfl⟩ := he
            have hsl : asSl x = none := by rw [eu]; cases u <;> rfl
            refine fin (lenB_none (c := ⟨.builtin .len, args, argTypes⟩) ea h0 (.inl ⟨e, hu⟩) (.inl hv) (fun a e => by rw [eu] at e; cases e)) (by simp only [opV, ea, h0, hu, hsl]) (by simp only [opH, ea, h0]; rw [eu]) ⟨[], he0, rfl⟩
          · cases he
        · cases he
      case append =>
        have he0 := he
        simp only [opP] at he
        split at he
        · rename_i s x st xt ea h0 h1
          split at he
          · rename_i elem xe p r es off n hus hux hrs
            obtain ⟨u, eu⟩ := asRs_isV hrs
            have hos : asOs s = none := by rw [eu]; cases u <;> rfl
            have hB : opB P ⟨dst, .call ⟨.builtin .append, args, argTypes⟩, ty, pos, after, guard⟩ ts h = none := by
              have hfl : args.toList.all (flatOp ts) = false := notFlat ea (by rw [eu]; rfl)
              have hap : ∀ k new, appendI P h elem s k new = none := fun k new => by
                unfold appendI; rw [eu]
                cases P.info? elem with
                | none => rfl
                | some ti =>
                  simp only
                  split
                  · split <;> rfl
                  · rfl
              have hbi : builtinI P h .append argTypes (args.toList.map (evI ts)) = none := by
                rw [ea]
                simp only [builtinI, h0, h1, hus, hux]
                repeat' split
                all_goals first | rfl | exact hap _ _
              simp only [opB, hbi, hfl, Bool.false_eq_true, if_false]
            refine fin hB rfl (by simp only [opH, ea, h0, h1, hus, hux, hos]) ⟨l, ?_, ?_⟩
            · exact he0
            · split at he
              · split at he
                · cases he
                · split at he
                  · simp only [Option.some.injEq, Prod.mk.injEq] at he; obtain ⟨rfl, rfl, rfl⟩ := he
                    exact testsP hl fun a ha => by simp at ha; rcases ha with rfl | rfl | rfl | rfl <;> simp
                  · split at he
                    · split at he
                      · split at he
                        · simp only [Option.some.injEq, Prod.mk.injEq] at he; obtain ⟨rfl, rfl, rfl⟩ := he
                          exact testsP hl fun a ha => by simp at ha; rcases ha with rfl | rfl <;> simp
                        · cases he
                      · cases he
                    · cases he
              · cases he
          · cases he
        · cases he
  all_goals cases he

theorem askI_opI (he : askI P o ts h told = some (v, h', l)) (hl : Holds P l) : opI P o ts h = some (v, h') := by
  unfold askI at he
  split at he
  · rename_i r hr; simp only [Option.some.injEq] at he; subst he; exact opC_opI hr hl
  · split at he
    · rename_i v1 l1 hv
      simp only [Option.some.injEq, Prod.mk.injEq] at he; obtain ⟨rfl, rfl, rfl⟩ := he
      exact opV_opI hv hl h
    · rename_i hV0
      split at he
      · rename_i r hr; simp only [Option.some.injEq] at he; subst he; exact opH_opI hr hl
      · exact opP_opI he hl

end Go.Ideal

end
