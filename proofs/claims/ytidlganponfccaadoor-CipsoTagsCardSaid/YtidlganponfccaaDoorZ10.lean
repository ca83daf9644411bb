/- Texts packed together: IFork IRen IWpA. -/
import Derived.Test.YtidlganponfccaaDoorZ9
section
/- A region that draws its order, order by order: where two operations may come up either way, each way for itself. Over any program. -/
set_option linter.unusedVariables false
set_option linter.unusedSimpArgs false
namespace Go.Ideal
open Go.RowKit

variable {P : Program} {Q : Exit → Act → World → Prop}

/-- An order in which a region's operations may come up. -/
def Lin (ops : Array Oper) : Array Bool → List Nat → Prop
  | listed, [] => Region.ready .any ops listed = []
  | listed, i :: L => i ∈ Region.ready .any ops listed ∧ Lin ops (listed.setIfInBounds i true) L

theorem Lin.sound {ops : Array Oper} : ∀ (L : List Nat) (fuel : Nat) (listed : Array Bool) (a : Act) (w : World), wpAny P .any ops Q fuel listed a w → Lin ops listed L → wpOps P ops Q L a w
  | [], 0, _, _, _, h, _ => h.2
  | [], _ + 1, _, _, _, h, hl => h.1 hl
  | i :: L, 0, _, _, _, h, hl => by have := hl.1; rw [h.1] at this; cases this
  | i :: L, fuel + 1, listed, a, w, h, hl => by
    rw [wpOps_cons]
    exact wpOp_mono (fun a w k => Lin.sound L fuel _ a w k hl.2) (h.2 i hl.1)

theorem ready_todo {ops : Array Oper} {listed : Array Bool} (h : todo ops.size listed = 0) : Region.ready .any ops listed = [] := by
  apply List.eq_nil_iff_forall_not_mem.2
  intro i hi
  obtain ⟨k1, o, k2, _⟩ := mem_ready.1 hi
  have : i ∈ (List.range ops.size).filter fun i => !listed.getD i true := List.mem_filter.2 ⟨List.mem_range.2 (Array.getElem?_eq_some_iff.1 k2).1, by rw [k1]; rfl⟩
  rw [List.length_eq_zero_iff.1 h] at this
  cases this

theorem Lin.of_go {ops : Array Oper} : ∀ (fuel t : Nat) (listed : Array Bool), listed.size = ops.size → todo ops.size listed ≤ fuel → Lin ops listed (Region.linearise.go .any ops fuel t listed [])
  | 0, t, listed, _, h => ready_todo (Nat.le_zero.1 h)
  | fuel + 1, t, listed, hs, h => by
    simp only [Region.linearise.go]
    change Lin ops listed (match (Region.ready .any ops listed)[t % (Region.ready .any ops listed).length]? with
      | some i => Region.linearise.go .any ops fuel (t / (Region.ready .any ops listed).length) (listed.setIfInBounds i true) [i]
      | none => [].reverse)
    cases hi : (Region.ready .any ops listed)[t % (Region.ready .any ops listed).length]? with
    | none =>
      cases hr : Region.ready .any ops listed with
      | nil => exact hr
      | cons x xs =>
        rw [hr] at hi
        have hlt : t % (x :: xs).length < (x :: xs).length := Nat.mod_lt _ (by simp)
        simp at hi
        simp at hlt
        omega
    | some i =>
      simp only []
      rw [linearise_go_acc, List.reverse_singleton, List.singleton_append]
      have hm := List.mem_of_getElem? hi
      refine ⟨hm, Lin.of_go fuel _ _ (by rw [Array.size_setIfInBounds]; exact hs) ?_⟩
      have := todo_set (n := ops.size) hs (mem_ready.1 hm).1
      omega

/-- Whatever order it is. -/
def WpReg (P : Program) (ops : Array Oper) (Q : Exit → Act → World → Prop) (a : Act) (w : World) : Prop :=
  ∀ L, Lin ops (Array.replicate ops.size false) L → wpOps P ops Q L a w
theorem WpReg.any {ops : Array Oper} {a : Act} {w : World} (h : wpAny P .any ops Q ops.size (Array.replicate ops.size false) a w) : WpReg P ops Q a w := fun L hl => Lin.sound L _ _ a w h hl
theorem WpReg.region {ops : Array Oper} {id : Nat} {a : Act} {w : World} (hm : P.follows .mixedOrders = true) (h : WpReg P ops Q a { w with drawn := w.drawn + 1 }) : (Code.region id ops true).wp P Q a w :=
  wp_region_draw fun t => by
    simp only [Region.schedule, hm, Bool.true_or, if_true]
    exact h _ (Lin.of_go ops.size t _ (by simp) (by
      unfold todo
      exact Nat.le_trans (List.length_filter_le _ _) (by simp)))

/-! ### the same operations, renumbered -/
structure SameOp (π : Nat → Nat) (o o' : Oper) : Prop where
  dst : o'.dst = o.dst
  guard : o'.guard = o.guard.map fun g => (π g.1, g.2)
  exec : ∀ ρ, execOp ρ o' = execOp ρ o

theorem upon_dst {o o' : Oper} (h : o'.dst = o.dst) (a : Act) (K : Act → World → Prop) (r : Result Next) : o'.upon P a K Q r = o.upon P a K Q r := by
  unfold Oper.upon
  rw [h]

theorem SameOp.wp {π : Nat → Nat} {o o' : Oper} (s : SameOp π o o') {a : Act} {w : World} {K : Act → World → Prop} (h : o'.wp P a w K Q) : o.wp P a w K Q := by
  unfold Oper.wp at *
  rw [s.exec, upon_dst s.dst] at h
  exact h
theorem SameOp.asks {π : Nat → Nat} {o o' : Oper} (s : SameOp π o o') {a : Act} {w : World} (h : o'.asks P a w) : o.asks P a w := by
  unfold Oper.asks at *
  rw [s.exec] at h
  exact h

/-- ops' is ops, renumbered by π. -/
structure SameReg (π : Nat → Nat) (ops ops' : Array Oper) : Prop where
  some_ : ∀ i o, ops[i]? = some o → ∃ o', ops'[π i]? = some o' ∧ SameOp π o o'
  none_ : ∀ i, ops[i]? = none → ops'[π i]? = none

theorem SameReg.yields {π : Nat → Nat} {ops ops' : Array Oper} (s : SameReg π ops ops') (tmps : Array Value) (g : Nat) : yielded ops' tmps (π g) = yielded ops tmps g := by
  unfold yielded
  cases h : ops[g]? with
  | none => rw [s.none_ g h]
  | some o =>
    obtain ⟨o', k1, k2⟩ := s.some_ g o h
    rw [k1]
    simp only [Option.bind_some, k2.dst]
theorem SameReg.wanted {π : Nat → Nat} {ops ops' : Array Oper} (s : SameReg π ops ops') {o o' : Oper} (k : SameOp π o o') (tmps : Array Value) : Region.wanted o' (yielded ops' tmps) = Region.wanted o (yielded ops tmps) := by
  unfold Region.wanted
  rw [k.guard]
  cases hg : o.guard with
  | none => rfl
  | some g =>
    obtain ⟨j, want⟩ := g
    simp only [Option.map_some, s.yields]
theorem SameReg.wpOps {π : Nat → Nat} {ops ops' : Array Oper} (s : SameReg π ops ops') : ∀ (L : List Nat) (a : Act) (w : World), wpOps P ops' Q (L.map π) a w → wpOps P ops Q L a w
  | [], _, _, h => h
  | i :: L, a, w, h => by
    rw [List.map_cons, wpOps_cons] at h
    rw [wpOps_cons]
    unfold wpOp at h ⊢
    cases ho : ops[i]? with
    | none =>
      rw [s.none_ i ho] at h
      exact s.wpOps L a w h
    | some o =>
      obtain ⟨o', k1, k2⟩ := s.some_ i o ho
      rw [k1] at h
      simp only [s.wanted k2] at h
      simp only
      split
      · rename_i hw
        rw [if_pos hw] at h
        rcases h with h | h
        · exact .inl (Oper.wp_mono (fun a w k => s.wpOps L a w k) (k2.wp h))
        · exact .inr ⟨k2.asks h.1, h.2⟩
      · rename_i hw
        rw [if_neg hw, k2.dst] at h
        exact s.wpOps L _ w h

/-- The same must come ahead. -/
structure SameEdge (π : Nat → Nat) (ops ops' : Array Oper) : Prop where
  size : ops'.size = ops.size
  lt : ∀ i, i < ops.size ↔ π i < ops.size
  inj : ∀ i j, π i = π j → i = j
  onto : ∀ j, j < ops.size → ∃ i, i < ops.size ∧ π i = j
  fwd : ∀ i o o', ops[i]? = some o → ops'[π i]? = some o' → ∀ e' ∈ o'.after, Region.binds .any e' = true → ∃ e ∈ o.after, Region.binds .any e = true ∧ e'.on = π e.on
  bwd : ∀ i o o', ops[i]? = some o → ops'[π i]? = some o' → ∀ e ∈ o.after, Region.binds .any e = true → ∃ e' ∈ o'.after, Region.binds .any e' = true ∧ e'.on = π e.on

theorem getD_of_lt {l : Array Bool} {i : Nat} (h : i < l.size) (a b : Bool) : l.getD i a = l.getD i b := by simp [Array.getD_eq_getD_getElem?, h]
theorem set_getD {l : Array Bool} {i j : Nat} (h : i < l.size) : (l.setIfInBounds i true).getD j false = if j = i then true else l.getD j false := by
  by_cases e : j = i
  · subst e; simp [h]
  · rw [if_neg e, Go.getD_set_ne false (Ne.symm e)]

theorem SameEdge.ready {π : Nat → Nat} {ops ops' : Array Oper} (s : SameReg π ops ops') (t : SameEdge π ops ops') {l l' : Array Bool} (h1 : l.size = ops.size) (h2 : l'.size = ops.size) (hl : ∀ i, l'.getD (π i) false = l.getD i false) (i : Nat) :
    π i ∈ Region.ready .any ops' l' ↔ i ∈ Region.ready .any ops l := by
  have un : i < ops.size → l'.getD (π i) true = l.getD i true := fun hi => by
    rw [getD_of_lt (by rw [h2]; exact (t.lt i).1 hi) true false, getD_of_lt (by rw [h1]; exact hi) true false, hl]
  rw [mem_ready, mem_ready]
  constructor
  · rintro ⟨k1, o', k2, k3⟩
    have hi : i < ops.size := (t.lt i).2 (by have := (Array.getElem?_eq_some_iff.1 k2).1; rw [t.size] at this; exact this)
    refine ⟨by rw [← un hi]; exact k1, ops[i], Array.getElem?_eq_getElem hi, fun e he hb => ?_⟩
    obtain ⟨e', q1, q2, q3⟩ := t.bwd i _ o' (Array.getElem?_eq_getElem hi) k2 e he hb
    have := k3 e' q1 q2
    rwa [q3, hl] at this
  · rintro ⟨k1, o, k2, k3⟩
    have hi : i < ops.size := (Array.getElem?_eq_some_iff.1 k2).1
    obtain ⟨o', k4, _⟩ := s.some_ i o k2
    refine ⟨by rw [un hi]; exact k1, o', k4, fun e' he hb => ?_⟩
    obtain ⟨e, q1, q2, q3⟩ := t.fwd i o o' k2 k4 e' he hb
    rw [q3, hl]
    exact k3 e q1 q2

theorem SameEdge.lin {π : Nat → Nat} {ops ops' : Array Oper} (s : SameReg π ops ops') (t : SameEdge π ops ops') : ∀ (L : List Nat) (l l' : Array Bool), l.size = ops.size → l'.size = ops.size → (∀ i, l'.getD (π i) false = l.getD i false) → Lin ops l L → Lin ops' l' (L.map π)
  | [], l, l', h1, h2, hl, h => by
    refine List.eq_nil_iff_forall_not_mem.2 fun j hj => ?_
    have hj' : j < ops.size := by
      obtain ⟨_, o, k, _⟩ := mem_ready.1 hj
      rw [← t.size]; exact (Array.getElem?_eq_some_iff.1 k).1
    obtain ⟨i, hi, rfl⟩ := t.onto j hj'
    have := (t.ready s h1 h2 hl i).1 hj
    have h : Region.ready .any ops l = [] := h
    rw [h] at this
    cases this
  | i :: L, l, l', h1, h2, hl, h => by
    have hi : i < ops.size := by
      obtain ⟨_, o, k, _⟩ := mem_ready.1 h.1
      exact (Array.getElem?_eq_some_iff.1 k).1
    refine ⟨(t.ready s h1 h2 hl i).2 h.1, t.lin s L _ _ (by rw [Array.size_setIfInBounds]; exact h1) (by rw [Array.size_setIfInBounds]; exact h2) (fun j => ?_) h.2⟩
    rw [set_getD (by rw [h2]; exact (t.lt i).1 hi), set_getD (by rw [h1]; exact hi), hl]
    by_cases e : j = i
    · subst e; simp
    · rw [if_neg e, if_neg fun k => e (t.inj _ _ k)]

theorem WpReg.same {π : Nat → Nat} {ops ops' : Array Oper} (s : SameReg π ops ops') (t : SameEdge π ops ops') {a : Act} {w : World} (h : WpReg P ops' Q a w) : WpReg P ops Q a w := fun L hl => by
  have hrep : ∀ (n j : Nat), (Array.replicate n false).getD j false = false := fun n j => by
    simp only [Array.getD_eq_getD_getElem?, Array.getElem?_replicate]
    split <;> rfl
  exact s.wpOps L a w (h _ (t.lin s L _ _ (by simp) (by simp [t.size]) (fun i => by rw [hrep, hrep]) hl))

/-! ### one more thing that must come ahead -/
def addE (i j : Nat) : Nat → List Oper → List Oper
  | _, [] => []
  | k, o :: l => (match Nat.beq k j with
    | true => { o with after := (⟨i, .chain⟩ :: o.after.toList).toArray }
    | false => o) :: addE i j (k + 1) l
theorem addE_get (i j : Nat) : ∀ (l : List Oper) (k m : Nat), (addE i j k l)[m]? = (l[m]?).map fun o => match Nat.beq (k + m) j with
    | true => { o with after := (⟨i, .chain⟩ :: o.after.toList).toArray }
    | false => o
  | [], k, m => by simp [addE]
  | o :: l, k, 0 => rfl
  | o :: l, k, m + 1 => by
    simp only [addE, List.getElem?_cons_succ, addE_get i j l (k + 1) m]
    rw [show k + 1 + m = k + (m + 1) by omega]
theorem addE_length (i j : Nat) : ∀ (l : List Oper) (k : Nat), (addE i j k l).length = l.length
  | [], _ => rfl
  | _ :: l, k => by simp only [addE, List.length_cons, addE_length i j l (k + 1)]
def withE (i j : Nat) (ops : Array Oper) : Array Oper := (addE i j 0 ops.toList).toArray
theorem withE_get (i j : Nat) (ops : Array Oper) (m : Nat) : (withE i j ops)[m]? = (ops[m]?).map fun o => match Nat.beq m j with
    | true => { o with after := (⟨i, .chain⟩ :: o.after.toList).toArray }
    | false => o := by
  simp only [withE, List.getElem?_toArray, addE_get, Array.getElem?_toList, Nat.zero_add]
theorem withE_size (i j : Nat) (ops : Array Oper) : (withE i j ops).size = ops.size := by simp [withE, addE_length]

theorem execOp_after (o : Oper) (x : Array Edge) (g : Option (Nat × Bool)) (ρ : Operand → Value) : execOp ρ { o with after := x, guard := g } = execOp ρ o := by
  obtain ⟨dst, op, ty, pos, after, guard⟩ := o
  cases op <;> rfl

theorem withE_same (i j : Nat) (ops : Array Oper) : SameReg id ops (withE i j ops) := by
  refine ⟨fun m o ho => ?_, fun m hn => by rw [id_eq, withE_get, hn]; rfl⟩
  refine ⟨_, by rw [id_eq, withE_get, ho]; rfl, ?_⟩
  split
  · exact ⟨rfl, by cases hg : o.guard <;> simp, fun ρ => execOp_after o _ o.guard ρ⟩
  · exact ⟨rfl, by cases hg : o.guard <;> simp, fun ρ => rfl⟩

/-- i comes up no later than j. -/
def ahead (i j : Nat) : List Nat → Bool
  | [] => true
  | x :: L => match Nat.beq x i with
    | true => true
    | false => match Nat.beq x j with
      | true => false
      | false => ahead i j L
theorem ahead_or (i j : Nat) (hne : i ≠ j) : ∀ L, ahead i j L = true ∨ ahead j i L = true
  | [] => .inl rfl
  | x :: L => by
    simp only [ahead]
    cases h1 : Nat.beq x i with
    | true => exact .inl rfl
    | false =>
      cases h2 : Nat.beq x j with
      | true => exact .inr rfl
      | false => exact ahead_or i j hne L

theorem withE_ready {i j : Nat} {ops : Array Oper} {l : Array Bool} {m : Nat} : m ∈ Region.ready .any (withE i j ops) l ↔ m ∈ Region.ready .any ops l ∧ (m = j → l.getD i false = true) := by
  rw [mem_ready, mem_ready]
  constructor
  · rintro ⟨k1, o', k2, k3⟩
    rw [withE_get] at k2
    obtain ⟨o, q1, q2⟩ := Option.map_eq_some_iff.1 k2
    cases hb : Nat.beq m j with
    | true =>
      rw [hb] at q2
      simp only at q2
      subst q2
      refine ⟨⟨k1, o, q1, fun e he => k3 e (by simpa using .inr he)⟩, fun _ => k3 ⟨i, .chain⟩ (by simp) rfl⟩
    | false =>
      rw [hb] at q2
      simp only at q2
      subst q2
      exact ⟨⟨k1, o, q1, k3⟩, fun e => by subst e; rw [Nat.beq_refl] at hb; cases hb⟩
  · rintro ⟨⟨k1, o, k2, k3⟩, k4⟩
    refine ⟨k1, _, by rw [withE_get, k2]; rfl, fun e he hb => ?_⟩
    cases hj : Nat.beq m j with
    | true =>
      simp only [hj] at he
      rcases List.mem_cons.1 (Array.mem_toList_iff.2 he) with rfl | he
      · exact k4 (Nat.eq_of_beq_eq_true hj)
      · exact k3 e (by simpa using he) hb
    | false =>
      simp only [hj] at he
      exact k3 e he hb

theorem withE_lin {i j : Nat} {ops : Array Oper} (hne : i ≠ j) : ∀ (L : List Nat) (l : Array Bool), l.size = ops.size → Lin ops l L → (l.getD i false = true ∨ ahead i j L = true) → Lin (withE i j ops) l L
  | [], l, hs, h, _ => by
    refine List.eq_nil_iff_forall_not_mem.2 fun m hm => ?_
    have := (withE_ready.1 hm).1
    have h : Region.ready .any ops l = [] := h
    rw [h] at this
    cases this
  | x :: L, l, hs, h, ha => by
    have hx : x < ops.size := by
      obtain ⟨_, o, k, _⟩ := mem_ready.1 h.1
      exact (Array.getElem?_eq_some_iff.1 k).1
    have un := (mem_ready.1 h.1).1
    refine ⟨withE_ready.2 ⟨h.1, fun e => ?_⟩, withE_lin hne L _ (by rw [Array.size_setIfInBounds]; exact hs) h.2 ?_⟩
    · subst e
      rcases ha with ha | ha
      · exact ha
      · simp only [ahead, Nat.beq_refl] at ha
        cases hb : Nat.beq x i with
        | true =>
          exact absurd (Nat.eq_of_beq_eq_true hb).symm hne
        | false => rw [hb] at ha; cases ha
    · rcases ha with ha | ha
      · exact .inl (getD_set_true ha)
      · simp only [ahead] at ha
        cases hb : Nat.beq x i with
        | true =>
          obtain rfl := Nat.eq_of_beq_eq_true hb
          exact .inl (by rw [set_getD (by rw [hs]; exact hx), if_pos rfl])
        | false =>
          rw [hb] at ha
          simp only at ha
          cases hb2 : Nat.beq x j with
          | true => rw [hb2] at ha; cases ha
          | false => rw [hb2] at ha; exact .inr ha

/-- Two operations that may come up either way. -/
theorem WpReg.fork {i j : Nat} {ops : Array Oper} (hne : Nat.beq i j = false) {a : Act} {w : World} (h1 : WpReg P (withE i j ops) Q a w) (h2 : WpReg P (withE j i ops) Q a w) : WpReg P ops Q a w := fun L hl => by
  have hne : i ≠ j := fun e => by subst e; rw [Nat.beq_refl] at hne; cases hne
  have go : ∀ {i j : Nat}, i ≠ j → WpReg P (withE i j ops) Q a w → ahead i j L = true → wpOps P ops Q L a w := fun {i j} hne h ha => by
    refine (withE_same i j ops).wpOps L a w ?_
    rw [List.map_id]
    refine h L ?_
    rw [withE_size]
    exact withE_lin hne L _ (by simp) hl (.inr ha)
  rcases ahead_or i j hne L with ha | ha
  · exact go hne h1 ha
  · exact go (Ne.symm hne) h2 ha

/-! ### another numbering -/
def reO (q : List Nat) (o : Oper) : Oper :=
  { o with after := (o.after.toList.map fun e => (⟨q.getD e.on e.on, e.ground⟩ : Edge)).toArray, guard := match o.guard with
    | some (g, b) => some (q.getD g g, b)
    | none => none }
/-- p: which one comes first, second, ..; q: which place each one has. -/
def reord (p q : List Nat) (ops : Array Oper) : Array Oper := (p.map fun i => reO q (ops.toList.getD i default)).toArray
def permB (p q : List Nat) (n : Nat) : Bool := Nat.beq p.length n && Nat.beq q.length n && ((List.range n).all fun i => Nat.blt (q.getD i i) n && Nat.beq (p.getD (q.getD i i) (q.getD i i)) i) &&
  (List.range n).all fun j => Nat.blt (p.getD j j) n && Nat.beq (q.getD (p.getD j j) (p.getD j j)) j

theorem reO_same (q : List Nat) (o : Oper) : SameOp (fun i => q.getD i i) o (reO q o) := by
  refine ⟨rfl, ?_, fun ρ => execOp_after o _ _ ρ⟩
  cases hg : o.guard with
  | none => simp only [reO, hg, Option.map_none]
  | some g => obtain ⟨g, b⟩ := g; simp only [reO, hg, Option.map_some]

theorem permB_spec {p q : List Nat} {n : Nat} (h : permB p q n = true) : p.length = n ∧ q.length = n ∧ (∀ i, i < n → q.getD i i < n ∧ p.getD (q.getD i i) (q.getD i i) = i) ∧ ∀ j, j < n → p.getD j j < n ∧ q.getD (p.getD j j) (p.getD j j) = j := by
  simp only [permB, Bool.and_eq_true, List.all_eq_true, List.mem_range, Nat.blt_eq, Nat.beq_eq] at h
  exact ⟨h.1.1.1, h.1.1.2, h.1.2, h.2⟩

theorem reord_get {p q : List Nat} {ops : Array Oper} (h : permB p q ops.size = true) {i : Nat} {o : Oper} (ho : ops[i]? = some o) : (reord p q ops)[q.getD i i]? = some (reO q o) := by
  obtain ⟨h1, h2, h3, h4⟩ := permB_spec h
  have hi : i < ops.size := (Array.getElem?_eq_some_iff.1 ho).1
  obtain ⟨k1, k2⟩ := h3 i hi
  have e : p[q.getD i i]? = some i := by
    have hlt : q.getD i i < p.length := by omega
    have : p.getD (q.getD i i) (q.getD i i) = p[q.getD i i] := (List.getElem_eq_getD (h := hlt) _).symm
    rw [List.getElem?_eq_getElem hlt, ← this, k2]
  simp only [reord, List.getElem?_toArray, List.getElem?_map, e, Option.map_some]
  have : ops.toList.getD i default = o := by simp only [List.getD, Array.getElem?_toList, ho, Option.getD_some]
  rw [this]

theorem WpReg.reord {p q : List Nat} {ops : Array Oper} (h : permB p q ops.size = true) {a : Act} {w : World} (hw : WpReg P (reord p q ops) Q a w) : WpReg P ops Q a w := by
  obtain ⟨h1, h2, h3, h4⟩ := permB_spec h
  have ge : ∀ i, ops.size ≤ i → q.getD i i = i := fun i hi => by simp only [List.getD, List.getElem?_eq_none (by omega : q.length ≤ i), Option.getD_none]
  have hs : (Go.Ideal.reord p q ops).size = ops.size := by simp [Go.Ideal.reord, h1]
  have same : SameReg (fun i => q.getD i i) ops (Go.Ideal.reord p q ops) := ⟨fun i o ho => ⟨_, reord_get h ho, reO_same q o⟩, fun i hn => by
    have hge : ops.size ≤ i := by rw [Array.getElem?_eq_none_iff] at hn; exact hn
    simp only [ge i hge]
    rw [Array.getElem?_eq_none_iff, hs]; exact hge⟩
  have inj : ∀ i j, i < ops.size → q.getD i i = q.getD j j → i = j := fun i j hi e => by
    rcases Nat.lt_or_ge j ops.size with hj | hj
    · have := (h3 i hi).2
      rw [e, (h3 j hj).2] at this; exact this.symm
    · have := (h3 i hi).1
      rw [e, ge j hj] at this; omega
  refine WpReg.same same ⟨hs, fun i => ⟨fun hi => (h3 i hi).1, fun hi => ?_⟩, fun i j e => ?_, fun j hj => ⟨p.getD j j, (h4 j hj).1, (h4 j hj).2⟩, fun i o o' ho ho' e' he hb => ?_, fun i o o' ho ho' e he hb => ?_⟩ hw
  · rcases Nat.lt_or_ge i ops.size with k | k
    · exact k
    · simp only [ge i k] at hi; exact hi
  · rcases Nat.lt_or_ge i ops.size with hi | hi
    · exact inj i j hi e
    · rcases Nat.lt_or_ge j ops.size with hj | hj
      · exact (inj j i hj e.symm).symm
      · simp only [ge i hi, ge j hj] at e; exact e
  · rw [reord_get h ho] at ho'
    cases ho'
    obtain ⟨e, q1, rfl⟩ := List.mem_map.1 (show e' ∈ (o.after.toList.map fun e => (⟨q.getD e.on e.on, e.ground⟩ : Edge)) by simpa [reO] using he)
    exact ⟨e, by simpa using q1, hb, rfl⟩
  · rw [reord_get h ho] at ho'
    cases ho'
    exact ⟨⟨q.getD e.on e.on, e.ground⟩, by simp only [reO, List.mem_toArray]; exact List.mem_map.2 ⟨e, by simpa using he, rfl⟩, hb, rfl⟩

/-! ### slices that stay as they are made -/
def markO (o : Oper) : Oper := match o.op with
  | .buildSlice t n ps => match ps.toList with
    | p :: r => { o with op := .buildSlice t n (p :: p :: r).toArray }
    | [] => o
  | _ => o
def markL (ms : List Nat) : Nat → List Oper → List Oper
  | _, [] => []
  | k, o :: l => (match ms.any (Nat.beq k) with
    | true => markO o
    | false => o) :: markL ms (k + 1) l
def mark (ms : List Nat) (ops : Array Oper) : Array Oper := (markL ms 0 ops.toList).toArray

theorem splice_twice (cs : List Value) (off : Nat) (vs : List Value) (h : off + vs.length ≤ cs.length) : splice (splice cs off vs) off vs = splice cs off vs := by
  unfold splice
  have h1 : (cs.take off ++ vs ++ cs.drop (off + vs.length)).take off = cs.take off := by
    rw [List.append_assoc, List.take_append_of_le_length (by simp; omega), List.take_take, Nat.min_self]
  have h2 : (cs.take off ++ vs ++ cs.drop (off + vs.length)).drop (off + vs.length) = cs.drop (off + vs.length) := by
    rw [List.drop_append_of_le_length (by simp; omega)]
    rw [List.drop_of_length_le (by simp; omega), List.nil_append]
  rw [h1, h2]
theorem fill_dup (place : Nat → Option (Nat × Nat)) (cells : Array Value) (p : Nat × Value) (r : List (Nat × Value)) : Instr.fill place cells (p :: p :: r) = Instr.fill place cells (p :: r) := by
  obtain ⟨i, v⟩ := p
  conv => lhs; rw [Instr.fill]
  conv => rhs; rw [Instr.fill]
  cases hp : place i with
  | none => rfl
  | some os =>
    obtain ⟨off, size⟩ := os
    simp only
    by_cases hc : v.cells.size ≠ size ∨ off + v.cells.size > cells.size
    · simp [hc]
    · have hsz : off + v.cells.toList.length ≤ cells.size := by rw [Array.length_toList]; omega
      have fold : ∀ (cells : Array Value), off + v.cells.toList.length ≤ cells.size → (Array.foldl (fun cs (x : Value × Nat) => cs.setIfInBounds (off + x.2) x.1) cells v.cells.zipIdx).toList = splice cells.toList off v.cells.toList := fun cells hsz => by
        rw [← Array.foldl_toList, Array.toList_zipIdx]
        exact foldl_splice off v.cells.toList 0 cells hsz
      have e1 := fold cells hsz
      have hs2 : (Array.foldl (fun cs (x : Value × Nat) => cs.setIfInBounds (off + x.2) x.1) cells v.cells.zipIdx).size = cells.size := by
        rw [← Array.length_toList, e1, splice_length _ _ _ (by rw [Array.length_toList]; exact hsz), Array.length_toList]
      have e2 := fold _ (by rw [hs2]; exact hsz)
      rw [e1, splice_twice _ _ _ (by rw [Array.length_toList]; exact hsz), ← e1] at e2
      have e3 := Array.toList_inj.1 e2
      rw [if_neg (by simpa using hc)]
      rw [Instr.fill, hp]
      simp only
      rw [if_neg (by rw [hs2]; simpa using hc)]
      rw [e3, if_neg (by simpa using hc)]

theorem markO_exec (o : Oper) (ρ : Operand → Value) : execOp ρ (markO o) = execOp ρ o := by
  obtain ⟨dst, op, ty, pos, after, guard⟩ := o
  cases op with
  | buildSlice t n ps =>
    simp only [markO]
    cases hl : ps.toList with
    | nil => rfl
    | cons p r =>
      have hps : ps = (p :: r).toArray := by rw [← hl]
      subst hps
      simp only [execOp, Instr.buildSlice, List.map_toArray, List.map_cons, fill_dup]
  | _ => rfl
theorem markO_rest (o : Oper) : (markO o).dst = o.dst ∧ (markO o).after = o.after ∧ (markO o).guard = o.guard := by
  unfold markO
  split
  · split <;> exact ⟨rfl, rfl, rfl⟩
  · exact ⟨rfl, rfl, rfl⟩
theorem markL_get (ms : List Nat) : ∀ (l : List Oper) (k m : Nat), (markL ms k l)[m]? = (l[m]?).map fun o => match ms.any (Nat.beq (k + m)) with
    | true => markO o
    | false => o
  | [], k, m => by simp [markL]
  | o :: l, k, 0 => rfl
  | o :: l, k, m + 1 => by
    simp only [markL, List.getElem?_cons_succ, markL_get ms l (k + 1) m]
    rw [show k + 1 + m = k + (m + 1) by omega]
theorem markL_length (ms : List Nat) : ∀ (l : List Oper) (k : Nat), (markL ms k l).length = l.length
  | [], _ => rfl
  | _ :: l, k => by simp only [markL, List.length_cons, markL_length ms l (k + 1)]
theorem mark_get (ms : List Nat) (ops : Array Oper) {i : Nat} {o : Oper} (ho : ops[i]? = some o) : ∃ o', (mark ms ops)[i]? = some o' ∧ (o' = o ∨ o' = markO o) := by
  refine ⟨match ms.any (Nat.beq (0 + i)) with
    | true => markO o
    | false => o, ?_, ?_⟩
  · simp only [mark, List.getElem?_toArray, markL_get, Array.getElem?_toList, ho, Option.map_some]
  · split
    · exact .inr rfl
    · exact .inl rfl
theorem WpReg.mark {ms : List Nat} {ops : Array Oper} {a : Act} {w : World} (hw : WpReg P (mark ms ops) Q a w) : WpReg P ops Q a w := by
  have rest : ∀ {o o' : Oper}, o' = o ∨ o' = markO o → SameOp id o o' ∧ o'.after = o.after := fun {o o'} h => by
    rcases h with rfl | rfl
    · exact ⟨⟨rfl, by cases hg : o'.guard <;> simp, fun ρ => rfl⟩, rfl⟩
    · obtain ⟨k1, k2, k3⟩ := markO_rest o
      exact ⟨⟨k1, by rw [k3]; cases hg : o.guard <;> simp, fun ρ => markO_exec o ρ⟩, k2⟩
  have hs : (Go.Ideal.mark ms ops).size = ops.size := by simp [Go.Ideal.mark, markL_length]
  have same : SameReg id ops (Go.Ideal.mark ms ops) := ⟨fun i o ho => by
    obtain ⟨o', k1, k2⟩ := mark_get ms ops ho
    exact ⟨o', k1, (rest k2).1⟩, fun i hn => by
    rw [Array.getElem?_eq_none_iff] at hn ⊢
    rw [hs]; exact hn⟩
  refine WpReg.same same ⟨hs, fun i => Iff.rfl, fun i j e => e, fun j hj => ⟨j, hj, rfl⟩, fun i o o' ho ho' e' he hb => ?_, fun i o o' ho ho' e he hb => ?_⟩ hw
  all_goals
    obtain ⟨o2, k1, k2⟩ := mark_get ms ops ho
    rw [id_eq, k1] at ho'
    cases ho'
    have := (rest k2).2
  · exact ⟨e', by rw [← this]; exact he, hb, rfl⟩
  · exact ⟨e, by rw [this]; exact he, hb, rfl⟩

/-! ### what a region comes to -/
theorem draw_soundR {B : Nat} {w0 : Org} {pf : FuncId → Bool} {call : Nat → CallI} {ops : Array Oper} {ents : List Ent} {ts tf : List Value} {hf : Heap} (hcall : ∀ k, CallSound P B w0 (call k)) (hpure : ∀ k, PureCall (call k) pf) (hok : ops.toList.all (operOK P) = true) {h : Heap} (ht : opsT P call ops.toList ops.toList ts h = some (ents, tf, hf))
    (hp : pairsOK P pf ops (pres ops.toList []) 0 ops.toList = true)
    (hr : drawReads P pf ops ents hf = true ∨ ∃ fl L, FlagsOK fl ents hf ∧ readsL P pf (pres ops.toList []) (loudBits P pf ops.toList 0) fl ents hf 0 ops.toList ents = some L ∧ ∀ p ∈ L, p.1 = p.2)
    {σ : Sg} {a : Act} {w : World} (H : HRel P B w0 σ h w) (hts : LRel σ ts a.tmps.toList) (hd : a.defers = []) {Q : Exit → Act → World → Prop}
    (hQ : ∀ (σ' : Sg) (a' : Act) (w' : World), σ.le σ' → LRel σ' tf a'.tmps.toList → HRel P B w0 σ' hf w' → a'.defers = [] → Q .normal a' w') : WpReg P ops Q a w := by
  obtain ⟨R, h0⟩ := Reg.of hcall hpure hok ht hp hr
  have hrep : ∀ j, (Array.replicate ops.size false).getD j false = false := fun j => by
    simp only [Array.getD_eq_getD_getElem?, Array.getElem?_replicate]
    split <;> rfl
  refine WpReg.any (draw_any R hQ ops.size _ a _ ⟨by simp, fun i o hi hD => ?_, ⟨0, σ, Sg.le_refl σ, Nat.zero_le _, fun l o hl _ => ?_, by rw [h0]; exact H, ?_⟩, hd⟩ ?_)
  · rw [hrep] at hD; cases hD
  · rw [hrep]; simp
  · have : (fun j => (Array.replicate ops.size false).getD j false) = fun _ => false := by
      funext j
      exact hrep j
    rw [this, curL_none]; exact hts
  · unfold todo
    exact Nat.le_trans (List.length_filter_le _ _) (by simp)

def RegS (P : Program) (ops : Array Oper) (ts : List Value) (h : Heap) (R : List Value → Heap → Prop) : Prop :=
  ∀ (B : Nat) (w0 : Org) (σ : Sg) (a : Act) (w : World) (Q : Exit → Act → World → Prop), HRel P B w0 σ h w → LRel σ ts a.tmps.toList → a.defers = [] →
    (∀ (σ' : Sg) (a' : Act) (w' : World) (ts' : List Value) (h' : Heap), R ts' h' → σ.le σ' → LRel σ' ts' a'.tmps.toList → HRel P B w0 σ' h' w' → a'.defers = [] → Q .normal a' w') → WpReg P ops Q a w

theorem withE_ok {i j : Nat} {ops : Array Oper} {p : Oper → Bool} (hp : ∀ o x, p { o with after := x } = p o) (h : ops.toList.all p = true) : (withE i j ops).toList.all p = true := by
  refine List.all_eq_true.2 fun o ho => ?_
  obtain ⟨m, hm⟩ := List.mem_iff_getElem?.1 ho
  rw [Array.getElem?_toList, withE_get] at hm
  obtain ⟨o1, k1, k2⟩ := Option.map_eq_some_iff.1 hm
  have := List.all_eq_true.1 h o1 (by simpa using Array.mem_of_getElem? k1)
  subst k2
  split
  · rw [hp]; exact this
  · exact this
theorem reord_ok {q l : List Nat} {ops : Array Oper} {p : Oper → Bool} (hl : permB l q ops.size = true) (hp : ∀ o, p (reO q o) = p o) (h : ops.toList.all p = true) : (reord l q ops).toList.all p = true := by
  obtain ⟨h1, h2, h3, h4⟩ := permB_spec hl
  refine List.all_eq_true.2 fun o ho => ?_
  simp only [reord] at ho
  obtain ⟨i, k1, rfl⟩ := List.mem_map.1 ho
  obtain ⟨m, hm⟩ := List.mem_iff_getElem?.1 k1
  have hlt : m < l.length := (List.getElem?_eq_some_iff.1 hm).1
  have hi := (h4 m (by omega)).1
  have e : l.getD m m = i := by simp only [List.getD, hm, Option.getD_some]
  rw [e] at hi
  rw [hp]
  refine List.all_eq_true.1 h _ ?_
  have : i < ops.toList.length := by simpa using hi
  simp only [List.getD, List.getElem?_eq_getElem this, Option.getD_some]
  exact List.getElem_mem this
theorem mark_ok {ms : List Nat} {ops : Array Oper} {p : Oper → Bool} (hp : ∀ o, p (markO o) = p o) (h : ops.toList.all p = true) : (mark ms ops).toList.all p = true := by
  refine List.all_eq_true.2 fun o ho => ?_
  obtain ⟨m, hm⟩ := List.mem_iff_getElem?.1 ho
  have hlt : m < (mark ms ops).toList.length := (List.getElem?_eq_some_iff.1 hm).1
  have hm2 : m < ops.size := by simpa [mark, markL_length] using hlt
  obtain ⟨o', k1, k2⟩ := mark_get ms ops (Array.getElem?_eq_getElem hm2)
  rw [Array.getElem?_toList, k1] at hm
  cases hm
  have := List.all_eq_true.1 h ops[m] (by simp)
  rcases k2 with rfl | rfl
  · exact this
  · rw [hp]; exact this
theorem markO_ok (o : Oper) : operOK P (markO o) = operOK P o := by
  obtain ⟨dst, op, ty, pos, after, guard⟩ := o
  cases op with
  | buildSlice t n ps =>
    simp only [markO]
    cases hl : ps.toList with
    | nil => rfl
    | cons p r =>
      have hps : ps = (p :: r).toArray := by rw [← hl]
      subst hps
      simp only [operOK, Op.operands, List.map_cons, List.all_cons]
      cases operandOK P p.2 <;> simp
  | _ => rfl

end Go.Ideal

end
section
/- Two new blocks of the ideal heap, with their numbers exchanged. Over any program. -/
set_option linter.unusedVariables false
set_option linter.unusedSimpArgs false
namespace Go.Ideal
open Go.RowKit

variable {P : Program} {B : Nat} {w0 : Org}

def swp (b c i : Nat) : Nat := match Nat.beq i b with
  | true => c
  | false => match Nat.beq i c with
    | true => b
    | false => i
theorem swp_l (b c : Nat) : swp b c b = c := by unfold swp; rw [Nat.beq_refl]
theorem swp_r (b c : Nat) : swp b c c = b := by
  unfold swp
  cases h : Nat.beq c b with
  | true => exact Nat.eq_of_beq_eq_true h
  | false => simp only; rw [Nat.beq_refl]
theorem swp_ne {b c i : Nat} (h1 : i ≠ b) (h2 : i ≠ c) : swp b c i = i := by
  unfold swp
  cases e : Nat.beq i b with
  | true => exact absurd (Nat.eq_of_beq_eq_true e) h1
  | false =>
    cases e2 : Nat.beq i c with
    | true => exact absurd (Nat.eq_of_beq_eq_true e2) h2
    | false => rfl
theorem swp_swp (b c i : Nat) : swp b c (swp b c i) = i := by
  by_cases h1 : i = b
  · subst h1; rw [swp_l, swp_r]
  · by_cases h2 : i = c
    · subst h2; rw [swp_r, swp_l]
    · rw [swp_ne h1 h2, swp_ne h1 h2]

def Sg.sw (σ : Sg) (b c : Nat) : Sg := ⟨fun i => σ (swp b c i), σ.f, fun i n => σ.T (swp b c i) n⟩
theorem Sg.le_sw {σ0 σ : Sg} {N b c : Nat} (hle : σ0.le σ) (hd : ∀ i x, σ0 i = some x → i < N) (hT : ∀ i n x, σ0.T i n = some x → i < N) (hb : N ≤ b) (hc : N ≤ c) : σ0.le (σ.sw b c) :=
  ⟨fun i x hx => by
    have := hd i x hx
    show σ (swp b c i) = some x
    rw [swp_ne (by omega) (by omega)]; exact hle.pl i x hx, hle.f, fun i n x hx => by
    have := hT i n x hx
    show σ.T (swp b c i) n = some x
    rw [swp_ne (by omega) (by omega)]; exact hle.T i n x hx⟩
theorem Sg.trim_le_sw {σ : Sg} {N b c : Nat} (hb : N ≤ b) (hc : N ≤ c) : (σ.trim N).le (σ.sw b c) :=
  ⟨fun i x hx => by
    rcases Nat.lt_or_ge i N with k | k
    · rw [Sg.trim_lt k] at hx
      show σ (swp b c i) = some x
      rw [swp_ne (by omega) (by omega)]; exact hx
    · simp [Sg.trim, show ¬ i < N by omega] at hx, Fz.le_refl _, fun i n x hx => by
    rcases Nat.lt_or_ge i N with k | k
    · rw [Sg.trim_T k] at hx
      show σ.T (swp b c i) n = some x
      rw [swp_ne (by omega) (by omega)]; exact hx
    · simp [Sg.trim, show ¬ i < N by omega] at hx⟩

def Heap.sw (b c : Nat) (h : Heap) : Option Heap := match h.get b, h.get c with
  | some x, some y => some ((h.set b y).set c x)
  | _, _ => none
theorem Heap.sw_get {b c : Nat} {h h2 : Heap} (hs : h.sw b c = some h2) : h2.next = h.next ∧ b < h.next ∧ c < h.next ∧ ∀ i, h2.get i = h.get (swp b c i) := by
  unfold Heap.sw at hs
  split at hs
  · rename_i x y hx hy
    cases hs
    have hb := Heap.lt_of_get hx
    have hc := Heap.lt_of_get hy
    refine ⟨rfl, hb, hc, fun i => ?_⟩
    rw [Heap.get_set (by rw [Heap.next_set]; exact hc), Heap.get_set hb]
    by_cases h2 : i = c
    · subst h2; rw [if_pos rfl, swp_r, hx]
    · rw [if_neg h2]
      by_cases h1 : i = b
      · subst h1; rw [if_pos rfl, swp_l, hy]
      · rw [if_neg h1, swp_ne h1 h2]
  · cases hs

theorem HRel.sw {σ : Sg} {h h2 : Heap} {w : World} {N b c : Nat} (H : HRel P B w0 σ h w) (hg : P.globals.size ≤ N) (hb : N ≤ b) (hc : N ≤ c) (hs : h.sw b c = some h2) (hr : refsP N h2 h2.next) : HRel P B w0 (σ.sw b c) h2 w := by
  obtain ⟨hn, hbn, hcn, hget⟩ := Heap.sw_get hs
  have lt : ∀ {i : Nat} {b : Blk}, h2.get i = some b → i < h2.next := fun hb => Heap.lt_of_get hb
  have old : ∀ {i : Nat} {x : Blk}, h2.get i = some x → h.get (swp b c i) = some x := fun {i x} hx => by rw [← hget]; exact hx
  have loc : ∀ {i r : Nat} {x : Blk}, x.loc (σ.sw b c) i r = x.loc σ (swp b c i) r := fun {i r x} => by
    cases x with
    | cells cs t m => cases m <;> rfl
    | _ => rfl
  have swlt : ∀ {i : Nat}, swp b c i < h.next → i < h.next := fun {i} hi => by
    by_cases h1 : i = b
    · subst h1; exact hbn
    · by_cases h2 : i = c
      · subst h2; exact hcn
      · rwa [swp_ne h1 h2] at hi
  refine ⟨H.below, H.size, fun i x hx => by rw [hn]; exact swlt (H.dom _ _ hx), fun i x hx => H.codom _ x hx, fun g hg' => ?_, fun i x hx => ?_, fun i j r s bi bj x hi hj li lj hB => ?_, H.frz, H.old, fun i n x hx => by rw [hn]; exact swlt (H.tdom _ _ _ hx)⟩
  · show σ (swp b c g) = _
    rw [swp_ne (by omega) (by omega)]; exact H.glob g hg'
  · have hB := H.blk _ x (old hx)
    have hrb := refsP_get hr i (lt hx) x hx
    have lr : ∀ {l l' : List Value}, l.all (refsOK 8 N) = true → LRel σ l l' → LRel (σ.sw b c) l l' := fun hl k => (k.all_of (VRel.trim 8) hl).mono (Sg.trim_le_sw hb hc)
    cases x with
    | cells cs t m => cases m with
      | ro => obtain ⟨b, o, cc, t', fz, h1, h2', h3, h4, h5⟩ := hB; exact ⟨b, o, cc, t', fz, h1, h2', h3, h4, lr hrb h5⟩
      | fix => obtain ⟨b, cc, t', fz, h1, h2', h3, h4, h5, h6⟩ := hB; exact ⟨b, cc, t', fz, h1, h2', h3, h4, lr hrb h5, h6⟩
      | grow => obtain ⟨b, es, cc, t', fz, h1, h2', h3, h4, h5, h6, h7, h8⟩ := hB; exact ⟨b, es, cc, t', fz, h1, h2', h3, h4, h5, h6, lr hrb h7, h8⟩
      | dead => trivial
    | iter s pos => exact hB
    | own n t => exact hB
    | map ks vs =>
      obtain ⟨b, es, cl, h1, h2', h3, h4, h5, h6, h7⟩ := hB
      refine ⟨b, es, cl, h1, h2', h3, ?_, lr hrb h5, h6, h7⟩
      rw [flats_eq h4 h7]; exact flats_rel h7 _
    | pool rows =>
      obtain ⟨h1, h2', h3⟩ := hB
      refine ⟨h1, fun r row hr => ?_, h3⟩
      have hrow := h2' r row hr
      have hok := hrb row (List.mem_of_getElem? hr)
      cases row with
      | dead => trivial
      | cells cs =>
        rcases hrow with ⟨k1, k2⟩ | ⟨b, cc, t', fz, k1, k2, k3, k4, k5, k6, k7⟩
        · exact .inl ⟨k1, k2⟩
        · exact .inr ⟨b, cc, t', fz, k1, k2, k3, k4, k5, lr hok k6, k7⟩
      | chan cap buf =>
        obtain ⟨b, z, buf', s, rc, k1, k2, k3, k4, k5⟩ := hrow
        exact ⟨b, z, buf', s, rc, k1, k2, k3, lr hok k4, k5⟩
  · rw [loc] at li lj
    have := H.inj _ _ r s bi bj x (old hi) (old hj) li lj hB
    rw [← swp_swp b c i, this, swp_swp]

/-! ### temporaries -/
def swV (b c : Nat) : Value → Value
  | .pointer (some ⟨i, off, none⟩) => .pointer (some ⟨swp b c i, off, none⟩)
  | v => v
/-- A pointer to one of the two, or a value that leads to neither. -/
def swOK (N : Nat) : Value → Bool
  | .pointer (some ⟨_, _, none⟩) => true
  | v => refsOK 8 N v
def swL (W : List Nat) (b c : Nat) : Nat → List Value → List Value
  | _, [] => []
  | k, v :: l => (match W.any (Nat.beq k) with
    | true => swV b c v
    | false => v) :: swL W b c (k + 1) l
theorem swL_length (W : List Nat) (b c : Nat) : ∀ (k : Nat) (l : List Value), (swL W b c k l).length = l.length
  | _, [] => rfl
  | k, _ :: l => by simp only [swL, List.length_cons, swL_length W b c (k + 1) l]
theorem swL_get (W : List Nat) (b c : Nat) : ∀ (k : Nat) (l : List Value) (i : Nat), i < l.length → (swL W b c k l).getD i Go.undef = match W.any (Nat.beq (k + i)) with
    | true => swV b c (l.getD i Go.undef)
    | false => l.getD i Go.undef
  | _, [], i, h => by simp at h
  | k, v :: l, 0, _ => by simp [swL]
  | k, v :: l, i + 1, h => by
    have := swL_get W b c (k + 1) l i (by simpa using h)
    rw [show k + 1 + i = k + (i + 1) by omega] at this
    simpa [swL] using this

theorem VRel.sw {σ : Sg} {N b c : Nat} (hb : N ≤ b) (hc : N ≤ c) {v v' : Value} (ho : swOK N v = true) (h : VRel σ v v') : VRel (σ.sw b c) (swV b c v) v' := by
  have plain : refsOK 8 N v = true → swV b c v = v → VRel (σ.sw b c) (swV b c v) v' := fun hr e => by
    rw [e]; exact (VRel.trim 8 _ _ hr h).mono (Sg.trim_le_sw hb hc)
  unfold swOK at ho
  split at ho
  · rename_i i off
    cases h with
    | ptr hi =>
      have e : (σ.sw b c) (swp b c i) = σ i := by
        show σ (swp b c (swp b c i)) = _
        rw [swp_swp]
      exact .ptr (e.trans hi)
  · rename_i hne
    refine plain ho ?_
    unfold swV
    split
    · rename_i i off; exact absurd rfl (hne i off)
    · rfl

theorem LRel.sw {σ0 σ : Sg} {N b c : Nat} (hd : ∀ i x, σ0 i = some x → i < N) (hT : ∀ i n x, σ0.T i n = some x → i < N) (hb : N ≤ b) (hc : N ≤ c) {W : List Nat} {ts ts' l l' : List Value} (h0 : LRel σ0 ts l) (h : LRel σ ts' l')
    (hW : ∀ i, W.any (Nat.beq i) = true → swOK N (ts'.getD i Go.undef) = true) (hf : ∀ i, W.any (Nat.beq i) = false → ts'.getD i Go.undef = ts.getD i Go.undef) : LRel (σ.sw b c) (swL W b c 0 ts') l' :=
  LRel.of_getD (by rw [swL_length]; exact h.len) fun i hi => by
    rw [swL_length] at hi
    rw [swL_get _ _ _ _ _ _ hi, Nat.zero_add]
    have hv := h.getD i
    cases hw : W.any (Nat.beq i) with
    | true => exact VRel.sw hb hc (hW i hw) hv
    | false =>
      rw [hf i hw] at hv
      simp only
      rw [hf i hw]
      exact (VRel.rebase hd hT (h0.getD i) hv).mono (Sg.trim_le_sw hb hc)

end Go.Ideal

end
section
/- The interpreter that answers with what is to be shown: the kernel runs it through code over values that are not known; advice says what it does where values alone don't tell. Over any program. -/
set_option linter.unusedVariables false
set_option linter.unusedSimpArgs false
namespace Go.Ideal
open Go.RowKit

/-- What is said at a step. -/
inductive Adv : Type 1 where
  | nil
  /-- a Bool's two values -/
  | split (n : Nat) (t e : Adv)
  /-- the answer, written otherwise -/
  | put (n : Nat) (v : Value) (r : Adv)
  /-- an operation that asks something; where it can't be reckoned: its answer -/
  | chk (n : Nat) (told : Option Value) (r : Adv)
  | chks (n : Nat) (told : Option Value) (t e : Adv)
  /-- a case -/
  | cas (n : Nat) (b : Bool) (t e : Adv)
  /-- a call that answers so, and leaves memory alone -/
  | pur (n : Nat) (v : Value) (r : Adv)
  | purs (n : Nat) (b : Bool) (t e : Adv)
  /-- the same, of memory as it stands -/
  | bor (n : Nat) (v : Value) (r : Adv)
  | bors (n : Nat) (b : Bool) (t e : Adv)
  /-- a call that answers so, and leaves this heap -/
  | ctr (n : Nat) (v : Value) (h : Heap) (r : Adv)
  /-- a call of which something is known -/
  | all (n : Nat) {α : Type} (v : α → Value) (h : α → Heap) (p : α → Prop) (r : α → Adv)
  /-- a loop with a state -/
  | loop (n : Nat) {σ : Type} (f : σ → List (Nat × Value)) (H : σ → Heap) (Inv : Nat → σ → Prop) (n0 : Nat) (s0 : σ) (r : Nat → σ → (Nat → Value) → Adv)
  /-- a region: what is known behind it -/
  | join (n : Nat) (f : List (Nat × Value)) (r1 r2 : Adv)
  /-- the state, seen otherwise -/
  | weak (n : Nat) (g : List (Nat × Value)) (h : Heap) (r : Adv)
  /-- two pieces of code, one behind the other: what is known between them -/
  | jn (n : Nat) (J : Prop) (f : List (Nat × Value)) (h : Heap) (ra : Adv) (rb : (Nat → Value) → Adv)
  /-- a call by its text: what is known behind it -/
  | jc (n : Nat) (J : Prop) (v : Value) (h : Heap) (ra rb : Adv)
  /-- a way that parts; which way is known -/
  | cnd (n : Nat) (t e : Adv)
  | cnk (n : Nat) (b : Bool) (r : Adv)
  /-- an operation on a pool -/
  | pl (n : Nat) (told : Option Value) (r : Adv)
  /-- the state, seen otherwise, behind an operation -/
  | wko (n : Nat) (g : List (Nat × Value)) (h : Heap) (r : Adv)
  /-- a region that draws its order: slices that stay as they are made; two operations, either way; another numbering -/
  | mrk (n : Nat) (ms : List Nat) (r : Adv)
  | frk (n : Nat) (i j : Nat) (a b : Adv)
  | ord (n : Nat) (p q : List Nat) (r : Adv)
  /-- behind it: the numbers of two new blocks, exchanged; what is known behind all orders -/
  | ren (n : Nat) (b c : Nat) (r : Adv)
  | fjn (n : Nat) (f : List (Nat × Value)) (h : Heap) (r1 r2 : Adv)

def HoldsL (P : Program) : List Ask → Prop
  | [] => True
  | [a] => a.holds P
  | a :: l => a.holds P ∧ HoldsL P l
theorem HoldsL.holds {P : Program} : ∀ {l : List Ask}, HoldsL P l → Holds P l
  | [], _ => fun a ha => by cases ha
  | [x], h => fun a ha => by simp at ha; subst ha; exact h
  | x :: y :: l, h => fun a ha => by
    rcases List.mem_cons.1 ha with rfl | ha
    · exact h.1
    · exact HoldsL.holds h.2 a ha

def strPlace (d : Int) : Option Value → Option Int
  | some v => intI v
  | none => some d
/-- Operations on the ideal heap that ask something. -/
def opC (P : Program) (o : Oper) (ts : List Value) (h : Heap) (told : Option Value) : Option (Value × Heap × List Ask) := match o.op with
  | .binOp op t x y _ => match flatOp ts x && flatOp ts y with
    | false => none
    | true => match op, evI ts x, evI ts y with
      | .shl, .int k a, .int _ b => some (.int k (k.wrap (a * 2 ^ (min b.toNat k.bits))), h, [.le 0 b])
      | .shr, .int k a, .int _ b => some (.int k (a.fdiv (2 ^ (min b.toNat k.bits))), h, [.le 0 b])
      | .quo, .int k a, .int k' b => match decide (k = k') with
        | true => some (.int k (k.wrap (a.tdiv b)), h, [.ne b 0])
        | false => none
      | .rem, .int k a, .int k' b => match decide (k = k') with
        | true => some (.int k (a.tmod b), h, [.ne b 0])
        | false => none
      | .eql, .agg c, .agg d => match pureRun P (eqGuard .eql t x y (.agg c) (.agg d)), told with
        | some (), some (.bool b) => some (.bool b, h, [.eqv t (.agg c) (.agg d) b])
        | some (), none => match eqD P 10000 t (.agg c) (.agg d) with
          | some b => some (.bool b, h, [])
          | none => none
        | _, _ => none
      | .neq, .agg c, .agg d => match pureRun P (eqGuard .neq t x y (.agg c) (.agg d)), told with
        | some (), some (.bool b) => some (.bool (!b), h, [.eqv t (.agg c) (.agg d) b])
        | some (), none => match eqD P 10000 t (.agg c) (.agg d) with
          | some b => some (.bool (!b), h, [])
          | none => none
        | _, _ => none
      | .add, .string a, .string b => some (.string (a ++ b), h, [.le ((a.size + b.size : Nat) : Int) 9223372036854775807])
      | _, _, _ => none
  | .indexAddr t x ix => match intI (evI ts ix), P.underlying t, evI ts x with
    | some i, some (.array len elem), .pointer (some ⟨b, off, none⟩) => match sizeI P elem with
      | some size => some (.pointer (some ⟨b, off + i.toNat * size, none⟩), h, [.le 0 i, .lt i len])
      | none => none
    | some i, some (.slice elem), .slice (some ⟨b, off, none⟩) len _ => match sizeI P elem with
      | some size => some (.pointer (some ⟨b, off + i.toNat * size, none⟩), h, [.le 0 i, .lt i len])
      | none => none
    | _, _, _ => none
  | .index t x ix => match intI (evI ts ix), P.underlying t, evI ts x, told with
    | some i, some (.array len elem), .agg cs, some v => match sizeI P elem with
      | some size => some (v, h, [.le 0 i, .lt i len, .partv elem cs.toList (i.toNat * size) v])
      | none => none
    | some i, some .string, .string s, some (.int .u8 b) => some (.int .u8 b, h, [.le 0 i, .byte s.data.toList i.toNat b])
    | _, _, _, _ => none
  | .load t a => match evI ts a, told with
    | .pointer (some ad), some v => match h.get ad.block, ad.spot, isAggI P t, sizeI P t with
      | some (.cells _ _ .dead), _, _, _ => none
      | some (.cells cs _ _), none, some true, some n => match v with
        | .agg l => some (v, h, [.part cs ad.off n l.toList])
        | _ => none
      | some (.cells cs _ _), none, some false, some _ => some (v, h, [.part cs ad.off 1 [v]])
      | _, _, _, _ => none
    | _, _ => none
  | .store t a x => match evI ts a, sizeI P t with
    | .pointer (some ad), some n => match Nat.beq (Value.cellList (evI ts x)).length n && (Value.cellList (evI ts x)).all oneCell with
      | false => none
      | true => match h.get ad.block, ad.spot with
        | some (.cells cs t' .fix), none => some (Go.undef, h.set ad.block (.cells (splice cs ad.off (Value.cellList (evI ts x))) t' .fix), [.nle (ad.off + n) cs.length])
        | some (.cells cs t' .grow), none => some (Go.undef, h.set ad.block (.cells (splice cs ad.off (Value.cellList (evI ts x))) t' .grow), [.nle (ad.off + n) cs.length])
        | _, _ => none
    | _, _ => none
  | .makeSlice t l c => match P.underlying t with
    | some (.slice elem) => match P.info? elem, zeroI P elem, evI ts l, evI ts c with
      | some ti, some z, .int _ ln, .int _ cn => match Nat.beq z.length ti.size with
        | true => some (.slice (some ⟨h.next, 0, none⟩) ln.toNat cn.toNat, h.push (.cells (zerosI z cn.toNat) elem .fix), [.le 0 ln, .le ln cn, .le (cn * ((ti.bytes : Int) + 1)) 1099511627776])
        | false => none
      | _, _, _, _ => none
    | _ => none
  | .slice t x lo hi mx => match told with
    | some t => match opV P o ts none with
      | some (v0, l0) => some (t, h, .get [v0] 0 t :: l0)
      | none => none
    | none => match P.underlying t, evI ts x, mx with
      | some .string, .string s, none => match strPlace (s.size : Nat) (hi.map (evI ts)), strPlace 0 (lo.map (evI ts)) with
        | some hh, some l => some (.string (s.extract l.toNat hh.toNat), h, [.le 0 l, .le l hh, .le hh (s.size : Nat)])
        | _, _ => none
      | some (.slice elem), .slice (some ad) len cap, none => match lo, strPlace (len : Nat) (hi.map (evI ts)), sizeI P elem, h.get ad.block with
        | none, some hh, some _, some (.cells _ _ .fix) => some (.slice (some ad) hh.toNat cap, h, [.le 0 hh, .le hh (cap : Nat)])
        | _, _, _, _ => none
      | _, _, _ => none
  | _ => none

/-- An operation that asks something. -/
def askI (P : Program) (o : Oper) (ts : List Value) (h : Heap) (told : Option Value) : Option (Value × Heap × List Ask) := match opC P o ts h told with
  | some r => some r
  | none => match opV P o ts told with
    | some (v, l) => some (v, h, l)
    | none => match opH P o ts h told with
      | some r => some r
      | none => opP P o ts h told

def agreeP : List (Nat × Value) → List Value → Prop
  | [], _ => True
  | [(i, v)], ts => ts.getD i Go.undef = v
  | (i, v) :: r, ts => ts.getD i Go.undef = v ∧ agreeP r ts

def hasText (P : Program) (f : FuncId) : Bool := match P.funcs[f]? with
  | some fn => fn.body.isSome
  | none => false

/-- Two heaps, block by block the same. -/
def eqH (h1 h2 : Heap) : Prop := Nat.beq h1.next h2.next = true ∧ EqBlks h1 h2 h2.next

abbrev KV := Value → Heap → Nat → Adv → Prop
abbrev KT := List Value → Heap → Nat → Adv → Prop
abbrev KX := Ex → List Value → Heap → Nat → Adv → Prop

/-- An operation that is no call of a function, case by case. -/
def wpOp1 (P : Program) (o : Oper) (ts : List Value) (h : Heap) (n : Nat) (adv : Adv) (K : KV) : Prop := match adv with
  | .split m t e => match Nat.beq m n with
    | true => match opI P o ts h with
      | some (.bool b, h') => (b = true → K (.bool true) h' (n + 1) t) ∧ (b = false → K (.bool false) h' (n + 1) e)
      | _ => False
    | false => match opI P o ts h with
      | some (v, h') => K v h' (n + 1) (.split m t e)
      | none => False
  | .put m v r => match Nat.beq m n with
    | true => match opI P o ts h with
      | some (v0, h') => v0 = v ∧ K v h' (n + 1) r
      | none => False
    | false => match opI P o ts h with
      | some (v', h') => K v' h' (n + 1) (.put m v r)
      | none => False
  | .chk m told r => match Nat.beq m n with
    | true => match askI P o ts h told with
      | some (v, h', []) => K v h' (n + 1) r
      | some (v, h', l) => HoldsL P l ∧ K v h' (n + 1) r
      | none => False
    | false => match opI P o ts h with
      | some (v', h') => K v' h' (n + 1) (.chk m told r)
      | none => False
  | .chks m told t e => match Nat.beq m n with
    | true => match askI P o ts h told with
      | some (.bool b, h', l) => HoldsL P l ∧ (b = true → K (.bool true) h' (n + 1) t) ∧ (b = false → K (.bool false) h' (n + 1) e)
      | _ => False
    | false => match opI P o ts h with
      | some (v', h') => K v' h' (n + 1) (.chks m told t e)
      | none => False
  | adv => match opI P o ts h with
    | some (v, h') => K v h' (n + 1) adv
    | none => False

/-- An operation that is no call of a function. -/
def wpOp (P : Program) (o : Oper) (ts : List Value) (h : Heap) (n : Nat) (adv : Adv) (K : KV) : Prop := match adv with
  | .cas m b t e => match Nat.beq m n with
    | true => (b = true → wpOp1 P o ts h n t K) ∧ (b = false → wpOp1 P o ts h n e K)
    | false => wpOp1 P o ts h n (.cas m b t e) K
  | adv => wpOp1 P o ts h n adv K

/-- A call: by what is known of it, or by its text; case by case. -/
def wpCall1 (P : Program) (pf : FuncId → Bool) (d : Bool) (inl : FuncId → List Value → Heap → Nat → Adv → KV → Prop) (f : FuncId) (args : List Value) (h : Heap) (n : Nat) (adv : Adv) (K : KV) : Prop := match adv with
  | .pur m v r => match Nat.beq m n, hasText P f with
    | true, true => CallK P f args v ∧ K v h (n + 1) r
    | true, false => False
    | false, _ => inl f args h (n + 1) (.pur m v r) K
  | .purs m b t e => match Nat.beq m n, hasText P f with
    | true, true => CallK P f args (.bool b) ∧ (b = true → K (.bool true) h (n + 1) t) ∧ (b = false → K (.bool false) h (n + 1) e)
    | true, false => False
    | false, _ => inl f args h (n + 1) (.purs m b t e) K
  | .bor m v r => match Nat.beq m n, hasText P f, d && pf f with
    | true, true, false => match borL (borV false 8 h) args, flat v with
      | some args2, true => CallK P f args2 v ∧ K v h (n + 1) r
      | _, _ => False
    | true, _, _ => False
    | false, _, _ => inl f args h (n + 1) (.bor m v r) K
  | .bors m b t e => match Nat.beq m n, hasText P f, d && pf f with
    | true, true, false => match borL (borV false 8 h) args with
      | some args2 => CallK P f args2 (.bool b) ∧ (b = true → K (.bool true) h (n + 1) t) ∧ (b = false → K (.bool false) h (n + 1) e)
      | none => False
    | true, _, _ => False
    | false, _, _ => inl f args h (n + 1) (.bors m b t e) K
  | .ctr m v h' r => match Nat.beq m n, hasText P f, d && pf f with
    | true, true, false => CallS P f args h (fun v1 h1 => v1 = v ∧ h1 = h') ∧ K v h' (n + 1) r
    | true, _, _ => False
    | false, _, _ => inl f args h (n + 1) (.ctr m v h' r) K
  | .all m v hh p r => match Nat.beq m n, hasText P f, d with
    | true, true, false => CallS P f args h (fun v1 h1 => ∃ x, p x ∧ v1 = v x ∧ h1 = hh x) ∧ ∀ x, p x → K (v x) (hh x) (n + 1) (r x)
    | true, _, _ => False
    | false, _, _ => inl f args h (n + 1) (.all m v hh p r) K
  | .jc m J v h2 ra rb => match Nat.beq m n, d with
    | true, false => inl f args h (n + 1) ra (fun v1 h1 _ _ => J ∧ v1 = v ∧ eqH h1 h2) ∧ (J → K v h2 (n + 1) rb)
    | true, true => False
    | false, _ => inl f args h (n + 1) (.jc m J v h2 ra rb) K
  | adv => inl f args h (n + 1) adv K

def wpCall (P : Program) (pf : FuncId → Bool) (d : Bool) (inl : FuncId → List Value → Heap → Nat → Adv → KV → Prop) (f : FuncId) (args : List Value) (h : Heap) (n : Nat) (adv : Adv) (K : KV) : Prop := match adv with
  | .cas m b t e => match Nat.beq m n with
    | true => (b = true → wpCall1 P pf d inl f args h n t K) ∧ (b = false → wpCall1 P pf d inl f args h n e K)
    | false => wpCall1 P pf d inl f args h n (.cas m b t e) K
  | adv => wpCall1 P pf d inl f args h n adv K

def plAt (d : Bool) (n : Nat) : Adv → Option (Option Value × Adv)
  | .pl m told r => match !d && Nat.beq m n with
    | true => some (told, r)
    | false => none
  | _ => none
def setL : List Value → List (Nat × Value) → List Value
  | ts, [] => ts
  | ts, (i, v) :: g => setL (ts.set i v) g
def wkoAt (wk : List Nat) (d : Bool) (n : Nat) : Adv → Option (List (Nat × Value) × Heap × Adv)
  | .wko m g h r => match !d && Nat.beq m n && g.all fun p => wk.any (Nat.beq p.1) with
    | true => some (g, h, r)
    | false => none
  | _ => none
def wkStep (P : Program) (wk : List Nat) (d : Bool) (ts : List Value) (h : Heap) (n : Nat) (adv : Adv) (K : KT) : Prop := match wkoAt wk d n adv with
  | some (g, h2, r) => Weak P ts h (setL ts g) h2 ∧ K (setL ts g) h2 (n + 1) r
  | none => K ts h n adv

def wpOper (P : Program) (pf : FuncId → Bool) (d : Bool) (inl : FuncId → List Value → Heap → Nat → Adv → KV → Prop) (o : Oper) (ts : List Value) (h : Heap) (n : Nat) (adv : Adv) (K : KV) : Prop := match plAt d n adv with
  | some (told, r) => match opP P o ts h told with
    | some (v, h', []) => K v h' (n + 1) r
    | some (v, h', l) => HoldsL P l ∧ K v h' (n + 1) r
    | none => False
  | none => match o.op with
    | .call c => match c.callee with
      | .builtin _ => wpOp P o ts h n adv K
      | _ => match calleeI ts c with
        | some (f, args) => wpCall P pf d inl f args h n adv K
        | none => False
    | _ => wpOp P o ts h n adv K

def wpOps (P : Program) (pf : FuncId → Bool) (wk : List Nat) (d : Bool) (inl : FuncId → List Value → Heap → Nat → Adv → KV → Prop) (all : List Oper) : List Oper → List Value → Heap → Nat → Adv → KT → Prop
  | [], ts, h, n, adv, K => K ts h n adv
  | o :: l, ts, h, n, adv, K => match wantedI o all ts with
    | false => wpOps P pf wk d inl all l (putI ts o.dst Go.undef) h n adv K
    | true => wpOper P pf d inl o ts h n adv fun v h' n' adv' => wkStep P wk d (putI ts o.dst v) h' n' adv' fun ts2 h2 n2 adv2 => wpOps P pf wk d inl all l ts2 h2 n2 adv2 K

/-- A call by its text, in a region that draws its order: run out. -/
def inlD (P : Program) (pf : FuncId → Bool) (k : Nat) (f : FuncId) (args : List Value) (h : Heap) (n : Nat) (adv : Adv) (K : KV) : Prop := match pf f with
  | true => False
  | false => match callWith P noOrc (exec P noOrc k) f args h with
    | some (v, h') => K v h' n adv
    | none => False

def inlT (P : Program) (ex : Code → List Value → Heap → Nat → Adv → KX → Prop) (f : FuncId) (args : List Value) (h : Heap) (n : Nat) (adv : Adv) (K : KV) : Prop := match P.funcs[f]? with
  | some fn => match fn.body with
    | some c => ex c (args ++ List.replicate (fn.ntmps - args.length) Go.undef) h n adv fun x ts' h' n' adv' => match x with
      | .exit _ => False
      | _ => match resultsI P ts' h' fn.results.toList with
        | some l => K (tupleI l) h' n' adv'
        | none => False
    | none => False
  | none => False

def writes : Code → List Nat
  | .region _ ops _ => ops.toList.filterMap (·.dst)
  | .seq a b => writes a ++ writes b
  | .cond _ a b => writes a ++ writes b
  | .loop a => writes a
  | .block _ a => writes a
  | .scope a => writes a
  | _ => []

def overlay (W : List Nat) (S : List (Nat × Value)) (j : Nat → Value) : Nat → List Value → List Value
  | _, [] => []
  | i, v :: l => (match W.any (Nat.beq i) with
    | true => match S.find? (fun p => Nat.beq p.1 i) with
      | some p => p.2
      | none => j i
    | false => v) :: overlay W S j (i + 1) l

def weakAt (wk : List Nat) (n : Nat) : Adv → Option (List (Nat × Value) × Heap × Adv)
  | .weak m g h r => match Nat.beq m n && g.all fun p => wk.any (Nat.beq p.1) with
    | true => some (g, h, r)
    | false => none
  | _ => none

def jnAt (n : Nat) : Adv → Option (Prop × List (Nat × Value) × Heap × Adv × ((Nat → Value) → Adv))
  | .jn m J f h ra rb => match Nat.beq m n with
    | true => some (J, f, h, ra, rb)
    | false => none
  | _ => none
def cndAt (n : Nat) : Adv → Option ((Adv × Adv) ⊕ (Bool × Adv))
  | .cnd m t e => match Nat.beq m n with
    | true => some (.inl (t, e))
    | false => none
  | .cnk m b r => match Nat.beq m n with
    | true => some (.inr (b, r))
    | false => none
  | _ => none

def inlOf (P : Program) (pf : FuncId → Bool) (k : Nat) (ex : Code → List Value → Heap → Nat → Adv → KX → Prop) : Bool → FuncId → List Value → Heap → Nat → Adv → KV → Prop
  | true => inlD P pf k
  | false => inlT P ex

/-- A loop, round by round. -/
def unrollU (ex : Code → List Value → Heap → Nat → Adv → KX → Prop) (b : Code) : Nat → List Value → Heap → Nat → Adv → KX → Prop
  | 0, _, _, _, _, _ => False
  | m + 1, ts, h, n, adv, Q => ex b ts h n adv fun x ts' h' n' adv' => match x with
    | .normal => unrollU ex b m ts' h' n' adv' Q
    | x => Q x ts' h' n' adv'

/-- Is it said of the call that it leaves memory alone? -/
def keepsM (n : Nat) : Adv → Bool
  | .pur m _ _ => Nat.beq m n
  | .purs m _ _ _ => Nat.beq m n
  | .bor m _ _ => Nat.beq m n
  | .bors m _ _ _ => Nat.beq m n
  | _ => false
def isFn : Op → Bool
  | .call { callee := .builtin _, .. } => false
  | .call _ => true
  | _ => false
def flagOf (P : Program) (pf : FuncId → Bool) (o : Oper) (n : Nat) (adv : Adv) : Bool := !isLoud P pf o.op || (isFn o.op && keepsM n adv)
/-- Operations of a region that draws its order, what is known of each kept. -/
def wpOpsE (P : Program) (pf : FuncId → Bool) (inl : FuncId → List Value → Heap → Nat → Adv → KV → Prop) (all : List Oper) : List Oper → List Value → Heap → Nat → Adv → List Ent → List Bool → (List Ent → List Bool → KT) → Prop
  | [], ts, h, n, adv, acc, fl, K => K acc fl ts h n adv
  | o :: l, ts, h, n, adv, acc, fl, K => match wantedI o all ts with
    | false => wpOpsE P pf inl all l (putI ts o.dst Go.undef) h n adv (acc ++ [⟨false, Go.undef, ts, h⟩]) (fl ++ [true]) K
    | true => wpOper P pf true inl o ts h n adv fun v h' n' adv' => wpOpsE P pf inl all l (putI ts o.dst v) h' n' adv' (acc ++ [⟨true, v, ts, h⟩]) (fl ++ [flagOf P pf o n adv]) K
/-- A region that draws its order; where its reads come up elsewhere they are to be the same. -/
def wpDrawE (P : Program) (pf : FuncId → Bool) (k : Nat) (ops : Array Oper) (ts : List Value) (h : Heap) (n : Nat) (adv : Adv) (K : KT) : Prop := match pairsOK P pf ops (pres ops.toList []) 0 ops.toList with
  | false => False
  | true => wpOpsE P pf (inlD P pf k) ops.toList ops.toList ts h n adv [] [] fun ents fl ts' h' n' adv' => match readsL P pf (pres ops.toList []) (loudBits P pf ops.toList 0) fl ents h' 0 ops.toList ents with
    | some l => EqL l ∧ K ts' h' n' adv'
    | none => False

def renAt (n : Nat) : Adv → Option (Nat × Nat × Adv)
  | .ren m b c r => match Nat.beq m n with
    | true => some (b, c, r)
    | false => none
  | _ => none
/-- Behind a region: the numbers of new blocks, exchanged. -/
def renK (P : Program) (W : List Nat) (N : Nat) : Nat → KT → KT
  | 0, K => K
  | f + 1, K => fun ts h n adv => match renAt n adv with
    | some (b, c, r) => match Nat.ble P.globals.size N && Nat.ble N b && Nat.ble N c && W.all (fun t => swOK N (ts.getD t Go.undef)), h.sw b c with
      | true, some h2 => refsP N h2 h2.next ∧ renK P W N f K (swL W b c 0 ts) h2 (n + 1) r
      | _, _ => False
    | none => K ts h n adv
def dsts (ops : Array Oper) : List Nat := ops.toList.filterMap (·.dst)
/-- The same, order by order. -/
def wpForks (P : Program) (pf : FuncId → Bool) (k : Nat) : Nat → Array Oper → List Value → Heap → Nat → Adv → KT → Prop
  | 0, _, _, _, _, _, _ => False
  | m + 1, ops, ts, h, n, adv, K => match adv with
    | .mrk x ms r => match Nat.beq x n with
      | true => wpForks P pf k m (mark ms ops) ts h (n + 1) r K
      | false => False
    | .frk x i j a b => match Nat.beq x n && !Nat.beq i j with
      | true => wpForks P pf k m (withE i j ops) ts h (n + 1) a K ∧ wpForks P pf k m (withE j i ops) ts h (n + 1) b K
      | false => False
    | .ord x p q r => match Nat.beq x n && permB p q ops.size with
      | true => wpForks P pf k m (reord p q ops) ts h (n + 1) r K
      | false => False
    | .fjn x f h2 r1 r2 => match Nat.beq x n with
      | true => wpForks P pf k m ops ts h (n + 1) r1 (fun ts' h' _ _ => agreeP f ts' ∧ eqH h' h2) ∧ ∀ j, K (overlay (dsts ops) f j 0 ts) h2 (n + 1) r2
      | false => False
    | adv => wpDrawE P pf k ops ts h n adv (renK P (dsts ops) h.next 4 K)

/-- At a round's end: what was made in it is forgotten. -/
def loopEnd (P : Program) (fs : List (Nat × Value)) (h h' h2 : Heap) : Prop :=
  EqBlks h' h2 h.next ∧ (Nat.beq h2.next h.next && fs.all (fun p => refsOK 8 h.next p.2)) = true ∧ refsP h.next h2 h.next
/-- 'wk': the temporaries that may be seen otherwise on the way. -/
def wpA (P : Program) (pf : FuncId → Bool) (wk : List Nat) : Nat → Code → List Value → Heap → Nat → Adv → KX → Prop
  | 0, _, _, _, _, _, _ => False
  | k + 1, c, ts, h, n, adv, Q => match weakAt wk n adv with
    | some (g, h2, r) => Weak P ts h (setL ts g) h2 ∧ wpA P pf wk k c (setL ts g) h2 (n + 1) r Q
    | none => match c with
      | .skip | .label _ => Q .normal ts h n adv
      | .exit id => Q (.exit id) ts h n adv
      | .ret => Q .ret ts h n adv
      | .seq a b => match jnAt n adv with
        | some (J, f, h2, ra, rb) => wpA P pf wk k a ts h (n + 1) ra (fun x ts' h' n' adv' => match x with
            | .normal => J ∧ agreeP f ts' ∧ eqH h' h2
            | x => Q x ts' h' n' adv') ∧
          (J → ∀ j, wpA P pf wk k b (overlay (writes a ++ wk) f j 0 ts) h2 (n + 1) (rb j) Q)
        | none => wpA P pf wk k a ts h (n + 1) adv fun x ts' h' n' adv' => match x with
          | .normal => wpA P pf wk k b ts' h' n' adv' Q
          | x => Q x ts' h' n' adv'
      | .cond c a b => match cndAt n adv with
        | some (.inl (t, e)) => match evI ts c with
          | .bool v => (v = true → wpA P pf wk k a ts h (n + 1) t Q) ∧ (v = false → wpA P pf wk k b ts h (n + 1) e Q)
          | _ => False
        | some (.inr (w, r)) => match evI ts c with
          | .bool v => v = w ∧ (match w with
            | true => wpA P pf wk k a ts h (n + 1) r Q
            | false => wpA P pf wk k b ts h (n + 1) r Q)
          | _ => False
        | none => match evI ts c with
          | .bool true => wpA P pf wk k a ts h (n + 1) adv Q
          | .bool false => wpA P pf wk k b ts h (n + 1) adv Q
          | _ => False
      | .block id b => wpA P pf wk k b ts h n adv fun x ts' h' n' adv' => match x with
        | .exit id' => match Nat.beq id' id with
          | true => Q .normal ts' h' n' adv'
          | false => Q (.exit id') ts' h' n' adv'
        | x => Q x ts' h' n' adv'
      | .scope b => wpA P pf wk k b ts h n adv Q
      | .loop b => match adv with
        | .loop m f H Inv n0 s0 r => match Nat.beq m n with
          | true => (Inv n0 s0 ∧ agreeP (f s0) ts ∧ h = H s0) ∧ ∀ i s j, Inv i s → wpA P pf wk k b (overlay (writes b ++ wk) (f s) j 0 ts) (H s) (n + 1) (r i s j) fun x ts' h' n' adv' => match x with
            | .normal => ∃ i' s', i' < i ∧ Inv i' s' ∧ agreeP (f s') ts' ∧ loopEnd P (f s') (H s) h' (H s')
            | x => Q x ts' h' n' adv'
          | false => unrollU (wpA P pf wk k) b k ts h n (.loop m f H Inv n0 s0 r) Q
        | adv => unrollU (wpA P pf wk k) b k ts h n adv Q
      | .region _ ops d => match !d || (pairsOK P pf ops (pres ops.toList []) 0 ops.toList && drawStill P pf ops) with
        | false => wpForks P pf k 24 ops ts h n adv fun ts' h' n' adv' => Q .normal ts' h' n' adv'
        | true => match adv with
          | .join m f r1 r2 => match Nat.beq m n with
            | true => wpOps P pf wk d (inlOf P pf k (wpA P pf wk k) d) ops.toList ops.toList ts h (n + 1) r1 (fun ts' h' _ _ => agreeP f ts' ∧ h' = h) ∧
                ∀ j, Q .normal (overlay (ops.toList.filterMap (·.dst) ++ wk) f j 0 ts) h (n + 1) r2
            | false => wpOps P pf wk d (inlOf P pf k (wpA P pf wk k) d) ops.toList ops.toList ts h n (.join m f r1 r2) fun ts' h' n' adv' => Q .normal ts' h' n' adv'
          | adv => wpOps P pf wk d (inlOf P pf k (wpA P pf wk k) d) ops.toList ops.toList ts h n adv fun ts' h' n' adv' => Q .normal ts' h' n' adv'
      | _ => False

end Go.Ideal

end
