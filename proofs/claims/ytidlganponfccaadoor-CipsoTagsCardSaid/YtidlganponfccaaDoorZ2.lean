/- Texts packed together: IRel. -/
import Derived.Laws.Entries
import Derived.Test.YtidlganponfccaaDoorZ1
section
/- The relation between the ideal interpreter's values and heap and the model's: plain lemmas, over any program. -/
set_option linter.unusedVariables false
set_option linter.unusedSimpArgs false
namespace Go.Ideal
open Go.RowKit

/-! ### pureRun -/
theorem pureRun_run {α : Type} {P : Program} : ∀ {e : Sem α} {a : α}, pureRun P e = some a → ∀ w, e.run P w = .ok a w
  | .pure a, _, h, w => by simp only [pureRun, Option.some.injEq] at h; subst h; rfl
  | .program k, _, h, w => by simp only [pureRun] at h; simp only [Sem.run]; exact pureRun_run h w
  | .mark m k, _, h, w => by simp only [pureRun] at h; simp only [Sem.run]; exact pureRun_run h w
  | .load _ _ _, _, h, _ => by simp [pureRun] at h
  | .store _ _ _ _, _, h, _ => by simp [pureRun] at h
  | .new _ _, _, h, _ => by simp [pureRun] at h
  | .shape _ _, _, h, _ => by simp [pureRun] at h
  | .freeze _ _ _, _, h, _ => by simp [pureRun] at h
  | .frozen _ _, _, h, _ => by simp [pureRun] at h
  | .getObj _ _, _, h, _ => by simp [pureRun] at h
  | .setObj _ _ _, _, h, _ => by simp [pureRun] at h
  | .choose _ _, _, h, _ => by simp [pureRun] at h
  | .sys _ _, _, h, _ => by simp [pureRun] at h
  | .halt _, _, h, _ => by simp [pureRun] at h

/-! ### the trie -/
theorem beq_mod (n : Nat) : (Nat.beq (n % 2) 0 = true ∧ n % 2 = 0) ∨ (Nat.beq (n % 2) 0 = false ∧ n % 2 = 1) := by
  rcases Nat.mod_two_eq_zero_or_one n with h | h
  · exact .inl ⟨by rw [h]; rfl, h⟩
  · exact .inr ⟨by rw [h]; rfl, h⟩

theorem Trie.get_leaf {α : Type} (n : Nat) : (Trie.leaf : Trie α).get n = none := by cases n <;> rfl

theorem Trie.get_setF {α : Type} (a : α) : ∀ (f : Nat) (t : Trie α) (i j : Nat), i < f → (Trie.setF a f t i).get j = if j = i then some a else t.get j
  | 0, _, _, _, h => absurd h (Nat.not_lt_zero _)
  | f + 1, .leaf, 0, j, _ => by
    cases j with
    | zero => rfl
    | succ j => simp only [Trie.setF, Trie.get]; rcases beq_mod j with ⟨h, _⟩ | ⟨h, _⟩ <;> simp [h, Trie.get_leaf]
  | f + 1, .node v l r, 0, j, _ => by
    cases j with
    | zero => rfl
    | succ j => simp only [Trie.setF, Trie.get]; rcases beq_mod j with ⟨h, _⟩ | ⟨h, _⟩ <;> simp [h]
  | f + 1, .leaf, i + 1, j, hi => by
    have ih := fun (t : Trie α) (k : Nat) => Trie.get_setF a f t (i / 2) k (by omega)
    simp only [Trie.setF]
    rcases beq_mod i with ⟨h, hm⟩ | ⟨h, hm⟩ <;> simp only [h]
    all_goals
      cases j with
      | zero => simp [Trie.get]
      | succ j =>
        simp only [Trie.get]
        rcases beq_mod j with ⟨h', hm'⟩ | ⟨h', hm'⟩ <;> simp only [h', ih, Trie.get_leaf]
        all_goals
          first
            | (have e : (j / 2 = i / 2) ↔ (j + 1 = i + 1) := by omega
               simp [e]; done)
            | (have e : ¬ (j + 1 = i + 1) := by omega
               simp only [e, if_false])
  | f + 1, .node v l r, i + 1, j, hi => by
    have ih := fun (t : Trie α) (k : Nat) => Trie.get_setF a f t (i / 2) k (by omega)
    simp only [Trie.setF]
    rcases beq_mod i with ⟨h, hm⟩ | ⟨h, hm⟩ <;> simp only [h]
    all_goals
      cases j with
      | zero => simp [Trie.get]
      | succ j =>
        simp only [Trie.get]
        rcases beq_mod j with ⟨h', hm'⟩ | ⟨h', hm'⟩ <;> simp only [h', ih]
        all_goals
          first
            | (have e : (j / 2 = i / 2) ↔ (j + 1 = i + 1) := by omega
               simp [e]; done)
            | (have e : ¬ (j + 1 = i + 1) := by omega
               simp only [e, if_false])

theorem Heap.get_lt {h : Heap} {i : Nat} (hi : i < h.next) : h.get i = h.tr.get i := by unfold Heap.get; rw [show Nat.blt i h.next = true by simpa [Nat.blt_eq] using hi]
theorem Heap.get_ge {h : Heap} {i : Nat} (hi : ¬ i < h.next) : h.get i = none := by
  unfold Heap.get
  cases hb : Nat.blt i h.next with
  | false => rfl
  | true => exact absurd (by simpa [Nat.blt_eq] using hb) hi
theorem Heap.lt_of_get {h : Heap} {i : Nat} {b : Blk} (hg : h.get i = some b) : i < h.next := by
  rcases Nat.lt_or_ge i h.next with k | k
  · exact k
  · rw [Heap.get_ge (by omega)] at hg; cases hg
theorem Heap.get_set {h : Heap} {i : Nat} (hi : i < h.next) (j : Nat) (b : Blk) : (h.set i b).get j = if j = i then some b else h.get j := by
  by_cases hj : j < h.next
  · rw [Heap.get_lt (h := h.set i b) hj, Heap.get_lt hj]; exact Trie.get_setF b (i + 1) h.tr i j (by omega)
  · rw [Heap.get_ge (h := h.set i b) hj, Heap.get_ge hj, if_neg (by omega)]
theorem Heap.get_set_ge {h : Heap} {i : Nat} (hi : ¬ i < h.next) (j : Nat) (b : Blk) : (h.set i b).get j = h.get j := by
  by_cases hj : j < h.next
  · rw [Heap.get_lt (h := h.set i b) hj, Heap.get_lt hj]
    have := Trie.get_setF b (i + 1) h.tr i j (by omega)
    rw [if_neg (by omega)] at this; exact this
  · rw [Heap.get_ge (h := h.set i b) hj, Heap.get_ge hj]
theorem Heap.get_push (h : Heap) (j : Nat) (b : Blk) : (h.push b).get j = if j = h.next then some b else h.get j := by
  have key := Trie.get_setF b (h.next + 1) h.tr h.next j (by omega)
  by_cases hj : j < h.next + 1
  · rw [Heap.get_lt (h := h.push b) hj]
    refine key.trans ?_
    split
    · rfl
    · exact (Heap.get_lt (by omega)).symm
  · rw [Heap.get_ge (h := h.push b) hj, if_neg (by omega), Heap.get_ge (by omega)]
theorem Heap.push_mono {h : Heap} {j : Nat} {b x : Blk} (hg : h.get j = some x) : (h.push b).get j = some x := by
  rw [Heap.get_push, if_neg (by have := Heap.lt_of_get hg; omega)]; exact hg
theorem Heap.next_set (h : Heap) (i : Nat) (b : Blk) : (h.set i b).next = h.next := rfl
theorem Heap.next_push (h : Heap) (b : Blk) : (h.push b).next = h.next + 1 := rfl

/-! ### where an ideal block lies -/
/-- 'exact': what slices say of their capacity is exact; 'grown es sz': a block of sz cells, its elements of es cells each. -/
inductive SK where
  | exact
  | grown (es sz : Nat)
  deriving DecidableEq

structure Spot where
  b : Nat
  o : Nat
  k : SK

/-- Memory that stays as it is: cells, and maps. -/
structure Fz where
  c : Nat → Nat → Option Value
  m : Nat → Option (Array MapEntry)

structure Fz.le (f f' : Fz) : Prop where
  c : ∀ b o v, f.c b o = some v → f'.c b o = some v
  m : ∀ b es, f.m b = some es → f'.m b = some es
theorem Fz.le_refl (f : Fz) : f.le f := ⟨fun _ _ _ h => h, fun _ _ h => h⟩
theorem Fz.le_trans {a b c : Fz} (h : a.le b) (k : b.le c) : a.le c := ⟨fun x y z hx => k.c x y z (h.c x y z hx), fun x y hx => k.m x y (h.m x y hx)⟩

/-- Where blocks lie; what stays; the versions of arrays that are appended to: by token and length, the block and its cells. -/
structure Sg where
  pl : Nat → Option Spot
  f : Fz
  T : Nat → Nat → Option (Nat × Nat)
instance : CoeFun Sg (fun _ => Nat → Option Spot) := ⟨Sg.pl⟩

structure Sg.le (σ σ' : Sg) : Prop where
  pl : ∀ i x, σ i = some x → σ' i = some x
  f : σ.f.le σ'.f
  T : ∀ i n x, σ.T i n = some x → σ'.T i n = some x
theorem Sg.le_refl (σ : Sg) : σ.le σ := ⟨fun _ _ h => h, Fz.le_refl _, fun _ _ _ h => h⟩
theorem Sg.le_trans {a b c : Sg} (h : a.le b) (k : b.le c) : a.le c := ⟨fun i x hx => k.pl i x (h.pl i x hx), Fz.le_trans h.f k.f, fun i n x hx => k.T i n x (h.T i n x hx)⟩

def Sg.put (σ : Sg) (i : Nat) (x : Spot) : Sg := { σ with pl := fun j => if j = i then some x else σ j }
theorem Sg.put_self (σ : Sg) (i : Nat) (x : Spot) : (σ.put i x) i = some x := by simp [Sg.put]
theorem Sg.put_ne (σ : Sg) {i j : Nat} (x : Spot) (h : j ≠ i) : (σ.put i x) j = σ j := by simp [Sg.put, h]
theorem Sg.put_T (σ : Sg) (i : Nat) (x : Spot) : (σ.put i x).T = σ.T := rfl
theorem Sg.le_put {σ : Sg} {i : Nat} {x : Spot} (h : σ i = none) : σ.le (σ.put i x) := ⟨fun j y hy => by
  by_cases e : j = i
  · subst e; rw [h] at hy; cases hy
  · rw [Sg.put_ne _ _ e]; exact hy, Fz.le_refl _, fun _ _ _ h => h⟩

/-- Values that lead to nothing but memory that stays. -/
inductive FRel (F : Fz) : Value → Value → Prop
  | bool (b : Bool) : FRel F (.bool b) (.bool b)
  | int (k : IntKind) (n : Int) : FRel F (.int k n) (.int k n)
  | float (k : FloatKind) (n : Nat) : FRel F (.float k n) (.float k n)
  | complex (k : FloatKind) (n m : Nat) : FRel F (.complex k n m) (.complex k n m)
  | string (s : ByteArray) : FRel F (.string s) (.string s)
  | pnil : FRel F (.pointer none) (.pointer none)
  | snil (n c : Nat) : FRel F (.slice none n c) (.slice none n c)
  | mnil : FRel F (.map none) (.map none)
  | cnil : FRel F (.chan none) (.chan none)
  | nilFunc : FRel F .nilFunc .nilFunc
  | nilIface : FRel F .nilIface .nilIface
  | func (fn : Fn) {a a' c c' : Array Value} (ha : a.size = a'.size) (hc : c.size = c'.size) (h1 : ∀ j : Nat, FRel F (a.getD j undef) (a'.getD j undef))
      (h2 : ∀ j : Nat, FRel F (c.getD j undef) (c'.getD j undef)) : FRel F (.func fn a c) (.func fn a' c')
  | iface (t : TypeId) {v v' : Value} (ht : isV t = false) (h : FRel F v v') : FRel F (.iface t v) (.iface t v')
  | agg {a a' : Array Value} (ha : a.size = a'.size) (h : ∀ j : Nat, FRel F (a.getD j undef) (a'.getD j undef)) : FRel F (.agg a) (.agg a')
  | tuple {a a' : Array Value} (ha : a.size = a'.size) (h : ∀ j : Nat, j < a.size → FRel F (a.getD j undef) (a'.getD j undef)) : FRel F (.tuple a) (.tuple a')
  | vsl {cells ms : Array Value} {b o n c' : Nat} (hc : n ≤ c') (hs : cells.size = ms.size) (hF : ∀ j, j < ms.size → F.c b (o + j) = some (ms.getD j undef)) (h : ∀ j : Nat, FRel F (cells.getD j undef) (ms.getD j undef)) :
      FRel F (vsl n cells) (.slice (some ⟨b, o, none⟩) n c')
  | vnil (a' : Option Addr) (c' : Nat) : FRel F (vsl 0 #[]) (.slice a' 0 c')
  | vpt {cells ms : Array Value} {b o off : Nat} (hs : cells.size = ms.size) (hF : ∀ j, j < ms.size → F.c b (o + j) = some (ms.getD j undef)) (h : ∀ j : Nat, FRel F (cells.getD j undef) (ms.getD j undef)) :
      FRel F (vpt off cells) (.pointer (some ⟨b, o + off, none⟩))
  | vzc (a' : Option Addr) : FRel F vzc (.slice a' 0 0)
  | any {v' : Value} (h : refLike v' = true) : FRel F vany v'
  | vmp {ks vs : Array Value} {es : Array MapEntry} {b : Nat} (hfl : ks.toList.all flat = true) (hk : ks.size = es.size) (hv : vs.size = es.size) (hF : F.m b = some es) (h1 : ∀ j : Nat, FRel F (ks.getD j undef) ((es.map (·.key)).getD j undef))
      (h2 : ∀ j : Nat, FRel F (vs.getD j undef) ((es.map (·.val)).getD j undef)) : FRel F (vmp ks vs) (.map (some b))

theorem FRel.mono {F F' : Fz} (hle : F.le F') {v v' : Value} (h : FRel F v v') : FRel F' v v' := by
  induction h with
  | bool b => exact .bool b
  | int k n => exact .int k n
  | float k n => exact .float k n
  | complex k n m => exact .complex k n m
  | string s => exact .string s
  | pnil => exact .pnil
  | snil n c => exact .snil n c
  | mnil => exact .mnil
  | cnil => exact .cnil
  | nilFunc => exact .nilFunc
  | nilIface => exact .nilIface
  | func fn ha hc _ _ i1 i2 => exact .func fn ha hc i1 i2
  | iface t ht _ ih => exact .iface t ht ih
  | agg ha _ ih => exact .agg ha ih
  | tuple ha _ ih => exact .tuple ha ih
  | vsl hc hs hF _ ih => exact .vsl hc hs (fun j hj => hle.c _ _ _ (hF j hj)) ih
  | vnil a' c' => exact .vnil a' c'
  | vpt hs hF _ ih => exact .vpt hs (fun j hj => hle.c _ _ _ (hF j hj)) ih
  | vzc a' => exact .vzc a'
  | any h => exact .any h
  | vmp hfl hk hv hF _ _ i1 i2 => exact .vmp hfl hk hv (hle.m _ _ hF) i1 i2

theorem FRel.undef (F : Fz) : FRel F Go.undef Go.undef := .tuple rfl fun j h => absurd h (Nat.not_lt_zero _)

inductive VRel (σ : Sg) : Value → Value → Prop
  | bool (b : Bool) : VRel σ (.bool b) (.bool b)
  | int (k : IntKind) (n : Int) : VRel σ (.int k n) (.int k n)
  | float (k : FloatKind) (n : Nat) : VRel σ (.float k n) (.float k n)
  | complex (k : FloatKind) (n m : Nat) : VRel σ (.complex k n m) (.complex k n m)
  | string (s : ByteArray) : VRel σ (.string s) (.string s)
  | pnil : VRel σ (.pointer none) (.pointer none)
  | ptr {i off b o : Nat} {k : SK} (h : σ i = some ⟨b, o, k⟩) : VRel σ (.pointer (some ⟨i, off, none⟩)) (.pointer (some ⟨b, o + off, none⟩))
  | snil (n c : Nat) : VRel σ (.slice none n c) (.slice none n c)
  | sfix {i off b o n c : Nat} (h : σ i = some ⟨b, o, .exact⟩) : VRel σ (.slice (some ⟨i, off, none⟩) n c) (.slice (some ⟨b, o + off, none⟩) n c)
  | sgrown {i off b n c c' es sz : Nat} (h : σ i = some ⟨b, 0, .grown es sz⟩) (hc : c ≤ c') (hz : off + c' * es ≤ sz) :
      VRel σ (.slice (some ⟨i, off, none⟩) n c) (.slice (some ⟨b, 0 + off, none⟩) n c')
  | sloose {i off b c' es sz : Nat} {a' : Addr} (h : σ i = some ⟨b, 0, .grown es sz⟩) (ho : off ≠ 0) :
      VRel σ (.slice (some ⟨i, off, none⟩) 0 0) (.slice (some a') 0 c')
  | mnil : VRel σ (.map none) (.map none)
  | cnil : VRel σ (.chan none) (.chan none)
  | nilFunc : VRel σ .nilFunc .nilFunc
  | nilIface : VRel σ .nilIface .nilIface
  | func (fn : Fn) {a a' c c' : Array Value} (ha : a.size = a'.size) (hc : c.size = c'.size) (h1 : ∀ j : Nat, VRel σ (a.getD j undef) (a'.getD j undef))
      (h2 : ∀ j : Nat, VRel σ (c.getD j undef) (c'.getD j undef)) : VRel σ (.func fn a c) (.func fn a' c')
  | iface (t : TypeId) {v v' : Value} (ht : isV t = false) (h : VRel σ v v') : VRel σ (.iface t v) (.iface t v')
  | frz (t : TypeId) {u v' : Value} (ht : isV t = true) (h : FRel σ.f (.iface t u) v') : VRel σ (.iface t u) v'
  | osnil (tok es : Nat) : VRel σ (osl tok es 0 #[]) (.slice none 0 0)
  | osome {cells ms : Array Value} {tok es b sz n c' : Nat} (hs : cells.size = ms.size) (hF : ∀ j, j < ms.size → σ.f.c b j = some (ms.getD j undef)) (h : ∀ j : Nat, FRel σ.f (cells.getD j undef) (ms.getD j undef))
      (hT : σ.T tok cells.size = some (b, sz)) (hp : 0 < cells.size) (hn : n * es = cells.size) (hc : c' * es ≤ sz) (hnc : n ≤ c') : VRel σ (osl tok es n cells) (.slice (some ⟨b, 0, none⟩) n c')
  | mptr {i b o : Nat} {k : SK} (h : σ i = some ⟨b, o, k⟩) : VRel σ (.map (some i)) (.map (some b))
  | rsl {p r es off b sz n c' : Nat} (hT : σ.T p (r + 1) = some (b, sz)) (hc : off + c' * es ≤ sz) (hnc : n ≤ c') : VRel σ (rsl p r es off n) (.slice (some ⟨b, off, none⟩) n c')
  | rnil {p : Nat} {x : Nat × Nat} (hT : σ.T p 0 = some x) (r es : Nat) (a' : Option Addr) : VRel σ (rsl p r es 0 0) (.slice a' 0 0)
  | rpt {p r off b sz : Nat} (hT : σ.T p (r + 1) = some (b, sz)) : VRel σ (rpt p r off) (.pointer (some ⟨b, off, none⟩))
  | rch {p r b sz : Nat} (hT : σ.T p (r + 1) = some (b, sz)) : VRel σ (rch p r) (.chan (some b))
  | agg {a a' : Array Value} (ha : a.size = a'.size) (h : ∀ j : Nat, VRel σ (a.getD j undef) (a'.getD j undef)) : VRel σ (.agg a) (.agg a')
  | tuple {a a' : Array Value} (ha : a.size = a'.size) (h : ∀ j : Nat, j < a.size → VRel σ (a.getD j undef) (a'.getD j undef)) : VRel σ (.tuple a) (.tuple a')

theorem VRel.undef (σ : Sg) : VRel σ undef undef := .tuple rfl fun j h => absurd h (Nat.not_lt_zero _)

theorem VRel.mono {σ σ' : Sg} (hle : σ.le σ') {v v' : Value} (h : VRel σ v v') : VRel σ' v v' := by
  induction h with
  | bool b => exact .bool b
  | int k n => exact .int k n
  | float k n => exact .float k n
  | complex k n m => exact .complex k n m
  | string s => exact .string s
  | pnil => exact .pnil
  | ptr h => exact .ptr (hle.pl _ _ h)
  | snil n c => exact .snil n c
  | sfix h => exact .sfix (hle.pl _ _ h)
  | sgrown h hc hz => exact .sgrown (hle.pl _ _ h) hc hz
  | sloose h ho => exact .sloose (hle.pl _ _ h) ho
  | mnil => exact .mnil
  | cnil => exact .cnil
  | nilFunc => exact .nilFunc
  | nilIface => exact .nilIface
  | func fn ha hc _ _ i1 i2 => exact .func fn ha hc i1 i2
  | iface t ht _ ih => exact .iface t ht ih
  | frz t ht h => exact .frz t ht (h.mono hle.f)
  | osnil tok es => exact .osnil tok es
  | osome hs hF h hT hp hn hc hnc => exact .osome hs (fun j hj => hle.f.c _ _ _ (hF j hj)) (fun j => (h j).mono hle.f) (hle.T _ _ _ hT) hp hn hc hnc
  | mptr h => exact .mptr (hle.pl _ _ h)
  | rsl hT hc hnc => exact .rsl (hle.T _ _ _ hT) hc hnc
  | rnil hT r es a' => exact .rnil (hle.T _ _ _ hT) r es a'
  | rpt hT => exact .rpt (hle.T _ _ _ hT)
  | rch hT => exact .rch (hle.T _ _ _ hT)
  | agg ha _ ih => exact .agg ha ih
  | tuple ha _ ih => exact .tuple ha ih

/-! ### lists of values -/
inductive LRel (σ : Sg) : List Value → List Value → Prop
  | nil : LRel σ [] []
  | cons {v v' : Value} {l l' : List Value} (h : VRel σ v v') (t : LRel σ l l') : LRel σ (v :: l) (v' :: l')

theorem LRel.mono {σ σ' : Sg} (hle : σ.le σ') {l l' : List Value} (h : LRel σ l l') : LRel σ' l l' := by
  induction h with
  | nil => exact .nil
  | cons h _ ih => exact .cons (h.mono hle) ih
theorem LRel.len {σ : Sg} {l l' : List Value} (h : LRel σ l l') : l.length = l'.length := by
  induction h with
  | nil => rfl
  | cons _ _ ih => simp [ih]
theorem LRel.getD {σ : Sg} {l l' : List Value} (h : LRel σ l l') : ∀ j, VRel σ (l.getD j undef) (l'.getD j undef) := by
  induction h with
  | nil => intro j; simpa using VRel.undef σ
  | cons h _ ih => intro j; cases j with
    | zero => simpa using h
    | succ j => simpa using ih j
theorem LRel.of_getD {σ : Sg} : ∀ {l l' : List Value}, l.length = l'.length → (∀ j, j < l.length → VRel σ (l.getD j Go.undef) (l'.getD j Go.undef)) → LRel σ l l'
  | [], [], _, _ => .nil
  | [], _ :: _, h, _ => by simp at h
  | _ :: _, [], h, _ => by simp at h
  | v :: l, v' :: l', h, g => .cons (by simpa using g 0 (by simp)) (LRel.of_getD (by simpa using h) fun j hj => by simpa using g (j + 1) (by simpa using hj))
theorem LRel.get? {σ : Sg} {l l' : List Value} (h : LRel σ l l') : ∀ (j : Nat) (v : Value), l[j]? = some v → ∃ v', l'[j]? = some v' ∧ VRel σ v v' := by
  induction h with
  | nil => intro j v hv; simp at hv
  | cons h _ ih => intro j v hv; cases j with
    | zero => simp only [List.getElem?_cons_zero, Option.some.injEq] at hv; subst hv; exact ⟨_, rfl, h⟩
    | succ j => simpa using ih j v (by simpa using hv)
theorem LRel.append {σ : Sg} {a a' b b' : List Value} (h : LRel σ a a') (k : LRel σ b b') : LRel σ (a ++ b) (a' ++ b') := by
  induction h with
  | nil => exact k
  | cons h _ ih => exact .cons h ih
theorem LRel.take {σ : Sg} {a a' : List Value} (h : LRel σ a a') : ∀ n, LRel σ (a.take n) (a'.take n) := by
  induction h with
  | nil => intro n; simp; exact .nil
  | cons h _ ih => intro n; cases n with
    | zero => exact .nil
    | succ n => exact .cons h (ih n)
theorem LRel.drop {σ : Sg} {a a' : List Value} (h : LRel σ a a') : ∀ n, LRel σ (a.drop n) (a'.drop n) := by
  induction h with
  | nil => intro n; simp; exact .nil
  | cons h t ih => intro n; cases n with
    | zero => exact .cons h t
    | succ n => exact ih n
theorem LRel.set {σ : Sg} {a a' : List Value} (h : LRel σ a a') {v v' : Value} (hv : VRel σ v v') : ∀ n, LRel σ (a.set n v) (a'.set n v') := by
  induction h with
  | nil => intro n; exact .nil
  | cons h t ih => intro n; cases n with
    | zero => exact .cons hv t
    | succ n => exact .cons h (ih n)
theorem LRel.replicate (σ : Sg) : ∀ n, LRel σ (List.replicate n Go.undef) (List.replicate n Go.undef)
  | 0 => .nil
  | n + 1 => .cons (VRel.undef σ) (LRel.replicate σ n)
theorem LRel.map {σ : Sg} {α : Type} {f g : α → Value} : ∀ {l : List α}, (∀ x ∈ l, VRel σ (f x) (g x)) → LRel σ (l.map f) (l.map g)
  | [], _ => .nil
  | x :: l, h => .cons (h x (by simp)) (LRel.map fun y hy => h y (by simp [hy]))

theorem VRel.agg_of {σ : Sg} {a a' : Array Value} (h : LRel σ a.toList a'.toList) : VRel σ (.agg a) (.agg a') :=
  .agg (by simpa using h.len) fun j => by simpa using h.getD j
theorem VRel.agg_list {σ : Sg} {a a' : Array Value} (h : VRel σ (.agg a) (.agg a')) : LRel σ a.toList a'.toList := by
  cases h with
  | agg ha h => exact LRel.of_getD (by simpa using ha) fun j _ => by simpa using h j
theorem VRel.tuple_of {σ : Sg} {a a' : Array Value} (h : LRel σ a.toList a'.toList) : VRel σ (.tuple a) (.tuple a') :=
  .tuple (by simpa using h.len) fun j _ => by simpa using h.getD j
theorem VRel.tuple_list {σ : Sg} {a a' : Array Value} (h : VRel σ (.tuple a) (.tuple a')) : LRel σ a.toList a'.toList := by
  cases h with
  | tuple ha h => exact LRel.of_getD (by simpa using ha) fun j hj => by simpa using h j (by simpa using hj)
theorem VRel.func_of {σ : Sg} {fn : Fn} {a a' c c' : Array Value} (h : LRel σ a.toList a'.toList) (k : LRel σ c.toList c'.toList) : VRel σ (.func fn a c) (.func fn a' c') :=
  .func fn (by simpa using h.len) (by simpa using k.len) (fun j => by simpa using h.getD j) fun j => by simpa using k.getD j
theorem VRel.func_lists {σ : Sg} {fn fn' : Fn} {a a' c c' : Array Value} (h : VRel σ (.func fn a c) (.func fn' a' c')) : fn = fn' ∧ LRel σ a.toList a'.toList ∧ LRel σ c.toList c'.toList := by
  cases h with
  | func _ ha hc h1 h2 => exact ⟨rfl, LRel.of_getD (by simpa using ha) fun j _ => by simpa using h1 j, LRel.of_getD (by simpa using hc) fun j _ => by simpa using h2 j⟩

/-! ### values without addresses -/
theorem flatN_rel : ∀ (n : Nat) {v : Value}, flatN n v = true → ∀ σ, VRel σ v v
  | 0, v, h, _ => by simp [flatN] at h
  | n + 1, v, h, σ => by
    have lst : ∀ (l : List Value), l.all (flatN n) = true → LRel σ l l := fun l => by
      induction l with
      | nil => intro _; exact .nil
      | cons v l ih => intro hl; simp only [List.all_cons, Bool.and_eq_true] at hl; exact .cons (flatN_rel n hl.1 σ) (ih hl.2)
    cases v with
    | bool b => exact .bool b
    | int k x => exact .int k x
    | float k x => exact .float k x
    | complex k x y => exact .complex k x y
    | string s => exact .string s
    | pointer a => cases a with
      | none => exact .pnil
      | some a => simp [flatN] at h
    | slice a x y => cases a with
      | none => exact .snil x y
      | some a => simp [flatN] at h
    | map r => cases r with
      | none => exact .mnil
      | some a => simp [flatN] at h
    | chan r => cases r with
      | none => exact .cnil
      | some a => simp [flatN] at h
    | func fn a c => simp only [flatN, Bool.and_eq_true] at h; exact VRel.func_of (lst _ h.1) (lst _ h.2)
    | nilFunc => exact .nilFunc
    | iface t v =>
      cases ht : isV t with
      | true => simp [flatN, ht] at h
      | false => simp only [flatN, ht] at h; exact .iface t ht (flatN_rel n h σ)
    | nilIface => exact .nilIface
    | agg cs => simp only [flatN] at h; exact VRel.agg_of (lst _ h)
    | tuple cs => simp only [flatN] at h; exact VRel.tuple_of (lst _ h)

theorem flatN_eq : ∀ (n : Nat) {v : Value}, flatN n v = true → ∀ {σ : Sg} {v' : Value}, VRel σ v v' → v' = v
  | 0, v, h, _, _, _ => by simp [flatN] at h
  | n + 1, v, h, σ, v', hv => by
    have lst : ∀ {l l' : List Value}, l.all (flatN n) = true → LRel σ l l' → l' = l := fun {l l'} hl hr => by
      induction hr with
      | nil => rfl
      | cons h _ ih => simp only [List.all_cons, Bool.and_eq_true] at hl; rw [flatN_eq n hl.1 h, ih hl.2]
    have arr : ∀ {a a' : Array Value}, a.toList.all (flatN n) = true → LRel σ a.toList a'.toList → a' = a := fun ha hr => Array.toList_inj.1 (lst ha hr)
    cases v with
    | agg cs => cases hv with
      | agg ha hh => simp only [flatN] at h; rw [arr h (VRel.agg_list (.agg ha hh))]
    | tuple cs => cases hv with
      | tuple ha hh => simp only [flatN] at h; rw [arr h (VRel.tuple_list (.tuple ha hh))]
    | func fn a c => cases hv with
      | func _ ha hc h1 h2 =>
        simp only [flatN, Bool.and_eq_true] at h
        obtain ⟨_, k1, k2⟩ := VRel.func_lists (.func fn ha hc h1 h2)
        rw [arr h.1 k1, arr h.2 k2]
    | iface t v =>
      have ht : isV t = false := by
        cases ht : isV t with
        | true => simp [flatN, ht] at h
        | false => rfl
      simp only [flatN, ht] at h
      cases hv with
      | iface _ _ hh => rw [flatN_eq n h hh]
      | frz _ ht' _ => rw [ht] at ht'; cases ht'
      | osnil => simp [isV] at ht
      | osome => simp [isV] at ht
      | rsl => simp [isV] at ht
      | rnil => simp [isV] at ht
      | rpt => simp [isV] at ht
      | rch => simp [isV] at ht
    | pointer a => cases hv <;> first | rfl | simp [flatN] at h
    | slice a x y => cases hv <;> first | rfl | simp [flatN] at h
    | map r => cases hv <;> first | rfl | simp [flatN] at h
    | chan r => cases hv; rfl
    | bool b => cases hv; rfl
    | int k x => cases hv; rfl
    | float k x => cases hv; rfl
    | complex k x y => cases hv; rfl
    | string s => cases hv; rfl
    | nilFunc => cases hv; rfl
    | nilIface => cases hv; rfl

theorem flat_rel {v : Value} (h : flat v = true) (σ : Sg) : VRel σ v v := flatN_rel 6 h σ
theorem flat_eq {v v' : Value} (h : flat v = true) {σ : Sg} (hv : VRel σ v v') : v' = v := flatN_eq 6 h hv

theorem flats_eq {σ : Sg} {l l' : List Value} (hr : LRel σ l l') : l.all flat = true → l' = l := by
  induction hr with
  | nil => intro _; rfl
  | cons k _ ih => intro hh; simp only [List.all_cons, Bool.and_eq_true] at hh; rw [flat_eq hh.1 k, ih hh.2]

theorem flats_rel {l : List Value} (h : l.all flat = true) (σ : Sg) : LRel σ l l := by
  induction l with
  | nil => exact .nil
  | cons v l ih => simp only [List.all_cons, Bool.and_eq_true] at h; exact .cons (flat_rel h.1 σ) (ih h.2)

/-! ### cells of values -/
theorem FRel.one_cells {F : Fz} {t : TypeId} {u v' : Value} (ht : isV t = true) (h : FRel F (.iface t u) v') : v'.cells.toList = [v'] := by
  cases h with
  | iface _ h0 _ => rw [ht] at h0; cases h0
  | any h => cases v' <;> first | rfl | simp [refLike] at h
  | _ => rfl
theorem VRel.cells {σ : Sg} {v v' : Value} (h : VRel σ v v') : LRel σ (Value.cellList v) v'.cells.toList := by
  cases h with
  | agg ha hh => exact VRel.agg_list (.agg ha hh)
  | tuple ha hh => exact .cons (.tuple ha hh) .nil
  | frz t ht h => rw [FRel.one_cells ht h]; exact .cons (.frz t ht h) .nil
  | osnil tok es => exact .cons (.osnil tok es) .nil
  | osome hs hF h hT hp hn hc hnc => exact .cons (.osome hs hF h hT hp hn hc hnc) .nil
  | iface t ht h => exact .cons (.iface t ht h) .nil
  | mptr h => exact .cons (.mptr h) .nil
  | rsl hT hc hnc => exact .cons (.rsl hT hc hnc) .nil
  | rnil hT r es a' => exact .cons (.rnil hT r es a') .nil
  | rpt hT => exact .cons (.rpt hT) .nil
  | rch hT => exact .cons (.rch hT) .nil
  | _ => exact .cons (by first | exact .bool _ | exact .int _ _ | exact .float _ _ | exact .complex _ _ _ | exact .string _ | exact .pnil | exact .ptr ‹_› | exact .snil _ _ | exact .sfix ‹_› | exact .sgrown ‹_› ‹_› ‹_› | exact .sloose ‹_› ‹_› | exact .mnil | exact .cnil | exact .nilFunc | exact .nilIface | exact .func _ ‹_› ‹_› ‹_› ‹_›) .nil

theorem cellList_eq (v : Value) : Value.cellList v = v.cells.toList := by cases v <;> rfl

theorem FRel.oneCell {F : Fz} {v v' : Value} (h : FRel F v v') : oneCell v' = oneCell v := by
  cases h with
  | any h => cases v' <;> first | rfl | simp [refLike] at h
  | _ => rfl
theorem VRel.oneCell {σ : Sg} {v v' : Value} (h : VRel σ v v') : oneCell v' = oneCell v := by
  cases h with
  | frz t ht h => exact h.oneCell
  | _ => rfl

/-! ### the heaps -/
def okFrozen (n : Nat) (fz : Nat × Nat) : Prop := ∀ j, j < n → (decide (fz.1 ≤ j) && decide (j < fz.2)) = false

/-- The block of memory in which an ideal block lies. -/
def Blk.loc (σ : Sg) (i r : Nat) : Blk → Option Nat
  | .cells _ _ .dead => none
  | .own n _ => (σ.T i n).map (·.1)
  | .pool rows => match rows[r]? with
    | some (.cells _) | some (.chan _ _) => (σ.T i (r + 1)).map (·.1)
    | _ => none
  | _ => (σ i).map (·.b)

/-- Nothing of a block is said to stay. -/
def Fz.off (F : Fz) (b : Nat) : Prop := (∀ o, F.c b o = none) ∧ F.m b = none

/-- A row of a pool. -/
def RowRel (B : Nat) (σ : Sg) (w : World) (i r : Nat) : Row → Prop
  | .dead => True
  | .cells cs => (cs = [] ∧ σ.T i (r + 1) = none) ∨ ∃ b cc t' fz, σ.T i (r + 1) = some (b, cc.size) ∧ B ≤ b ∧ w.heap[b]? = some (.cells cc t' fz) ∧ okFrozen cc.size fz ∧ cs.length ≤ cc.size ∧ LRel σ cs (cc.toList.take cs.length) ∧ σ.f.off b
  | .chan cap buf => ∃ b z buf' sent received, σ.T i (r + 1) = some (b, z) ∧ B ≤ b ∧ w.heap[b]? = some (.chan cap buf' false sent received false) ∧ LRel σ buf buf'.toList ∧ σ.f.off b

def BRel (P : Program) (B : Nat) (σ : Sg) (w : World) (i : Nat) : Blk → Prop
  | .cells cs t .ro => ∃ b o cc t' fz, σ i = some ⟨b, o, .exact⟩ ∧ b < B ∧ w.heap[b]? = some (.cells cc t' fz) ∧ o + cs.length ≤ cc.size ∧ LRel σ cs ((cc.toList.drop o).take cs.length)
  | .cells cs t .fix => ∃ b cc t' fz, σ i = some ⟨b, 0, .exact⟩ ∧ B ≤ b ∧ w.heap[b]? = some (.cells cc t' fz) ∧ okFrozen cc.size fz ∧ LRel σ cs cc.toList ∧ σ.f.off b ∧ t' = t
  | .cells cs t .grow => ∃ b es cc t' fz, σ i = some ⟨b, 0, .grown es cc.size⟩ ∧ sizeI P t = some es ∧ B ≤ b ∧ w.heap[b]? = some (.cells cc t' fz) ∧ okFrozen cc.size fz ∧ cs.length ≤ cc.size ∧ LRel σ cs (cc.toList.take cs.length) ∧ σ.f.off b
  | .cells _ _ .dead => True
  | .iter s pos => ∃ b, σ i = some ⟨b, 0, .exact⟩ ∧ B ≤ b ∧ w.heap[b]? = some (.stringIter s pos) ∧ σ.f.off b
  | .own n t => (n = 0 ∧ ∀ m, σ.T i m = none) ∨ ∃ b cc t' fz, σ.T i n = some (b, cc.size) ∧ (∀ m x, σ.T i m = some x → m ≤ n) ∧ B ≤ b ∧ w.heap[b]? = some (.cells cc t' fz) ∧ okFrozen cc.size fz ∧ n ≤ cc.size ∧ (∀ o, n ≤ o → σ.f.c b o = none) ∧ σ.f.m b = none ∧ t' = t
  | .map ks vs => ∃ b es clock, σ i = some ⟨b, 0, .exact⟩ ∧ B ≤ b ∧ w.heap[b]? = some (.map es clock) ∧ LRel σ ks (es.toList.map (·.key)) ∧ LRel σ vs (es.toList.map (·.val)) ∧ σ.f.off b ∧ ks.all flat = true
  | .pool rows => ((∃ x, σ.T i 0 = some x) ∧ ∀ r, rows.length ≤ r → σ.T i (r + 1) = none) ∧ (∀ r row, rows[r]? = some row → RowRel B σ w i r row) ∧ ∀ r r' b, (Blk.pool rows).loc σ i r = some b → (Blk.pool rows).loc σ i r' = some b → r = r'

def live : Blk → Bool
  | .cells _ _ .dead => false
  | .own _ _ => false
  | .pool _ => false
  | _ => true
theorem loc_live {σ : Sg} {i r : Nat} {b : Blk} (h : live b = true) : b.loc σ i r = (σ i).map (·.b) := by
  cases b with
  | cells cs t m => cases m <;> first | rfl | simp [live] at h
  | own n t => simp [live] at h
  | pool rows => simp [live] at h
  | _ => rfl
theorem loc_some {σ : Sg} {i : Nat} (r : Nat) {b : Blk} {x : Spot} (h : live b = true) (hx : σ i = some x) : b.loc σ i r = some x.b := by rw [loc_live h, hx]; rfl
theorem loc_pool {σ : Sg} {i r b : Nat} {rows : List Row} (h : (Blk.pool rows).loc σ i r = some b) : ∃ row z, rows[r]? = some row ∧ row ≠ .dead ∧ σ.T i (r + 1) = some (b, z) := by
  simp only [Blk.loc] at h
  split at h
  · rename_i cs e
    obtain ⟨x, k1, k2⟩ := Option.map_eq_some_iff.1 h
    exact ⟨_, x.2, e, (by intro h; cases h), by rw [k1, ← k2]⟩
  · rename_i c b e
    obtain ⟨x, k1, k2⟩ := Option.map_eq_some_iff.1 h
    exact ⟨_, x.2, e, (by intro h; cases h), by rw [k1, ← k2]⟩
  · cases h
theorem pool_loc {σ : Sg} {i r b z : Nat} {rows : List Row} {row : Row} (h : rows[r]? = some row) (hd : row ≠ .dead) (hT : σ.T i (r + 1) = some (b, z)) : (Blk.pool rows).loc σ i r = some b := by
  cases row with
  | dead => exact absurd rfl hd
  | _ => simp [Blk.loc, h, hT]

/-- How the world was when this run began: the world, what stayed. -/
structure Org where
  w : World
  f : Fz

/-- What is said to stay is so. -/
structure FzOK (F : Fz) (w : World) : Prop where
  c : ∀ b o v, F.c b o = some v → ∃ cc t fz, w.heap[b]? = some (.cells cc t fz) ∧ cc[o]? = some v
  m : ∀ b es, F.m b = some es → ∃ clock, w.heap[b]? = some (.map es clock)

/-- Ten to the powers, as Go's library keeps them. -/
def pow10Cells : Array Value := ((List.range 20).map fun i => Value.int .u64 ((10 ^ i : Nat) : Int)).toArray
/-- Whether anything is asked of the library's variables: a law whose row does not list them asks nothing. -/
def sentOn : Bool := false
/-- The variables that hold the library's errors hold some, and its table holds the powers of ten: all of it stays as it was from the beginning. -/
def SentAt (P : Program) (B : Nat) (w : World) : Prop := sentOn = true → ∀ g x, P.globals[g]? = some x → (x.name = "strconv.ErrSyntax" ∨ x.name = "strconv.ErrRange" → g < B ∧ ∃ t p, w.cell? ⟨g, 0, none⟩ = some (.iface t p)) ∧ (x.name.length = 28 → g < B ∧ ∃ t fz, w.heap[g]? = some (.cells pow10Cells t fz))
theorem SentAt.goes {P : Program} {B B' : Nat} {w w' : World} (h : SentAt P B w) (hb : Below B w w') (hB : B ≤ B') : SentAt P B' w' := fun hs g x hg => by
  obtain ⟨k1, k2⟩ := h hs g x hg
  refine ⟨fun hn => ?_, fun hn => ?_⟩
  · obtain ⟨q1, t, p, q2⟩ := k1 hn
    exact ⟨by omega, t, p, by rw [hb.cell q1]; exact q2⟩
  · obtain ⟨q1, t, p, q2⟩ := k2 hn
    exact ⟨by omega, t, p, by rw [hb.block g q1]; exact q2⟩
theorem SentAt.none {P : Program} {B : Nat} {w : World} (h : P.globals.size = 0) : SentAt P B w := fun _ g x hg => by
  rw [Array.getElem?_eq_none (by omega)] at hg
  cases hg
theorem SentAt.off {P : Program} {B : Nat} {w : World} (h : sentOn = false) : SentAt P B w := fun hs => by
  rw [h] at hs
  cases hs
structure HRel (P : Program) (B : Nat) (w0 : Org) (σ : Sg) (h : Heap) (w : World) : Prop where
  below : Below B w0.w w
  size : B ≤ w.heap.size
  dom : ∀ i x, σ i = some x → i < h.next
  codom : ∀ i x, σ i = some x → x.b < w.heap.size
  glob : ∀ g, g < P.globals.size → σ g = some ⟨g, 0, .exact⟩
  blk : ∀ i b, h.get i = some b → BRel P B σ w i b
  inj : ∀ i j r s bi bj b, h.get i = some bi → h.get j = some bj → bi.loc σ i r = some b → bj.loc σ j s = some b → B ≤ b → i = j
  frz : FzOK σ.f w
  old : (∀ b, b < B → σ.f.c b = w0.f.c b ∧ σ.f.m b = w0.f.m b) ∧ SentAt P B w0.w
  tdom : ∀ i n x, σ.T i n = some x → i < h.next

theorem HRel.blk_lt {P : Program} {B : Nat} {w0 : Org} {σ : Sg} {h : Heap} {w : World} (H : HRel P B w0 σ h w) {i r b : Nat} {blk : Blk} (hg : h.get i = some blk) (hl : blk.loc σ i r = some b) : b < w.heap.size := by
  by_cases hv : live blk = true
  · rw [loc_live hv] at hl
    cases hx : σ i with
    | none => simp [hx] at hl
    | some x => simp only [hx, Option.map_some, Option.some.injEq] at hl; subst hl; exact H.codom _ _ hx
  · cases blk with
    | cells cs t m => cases m <;> first | (simp [Blk.loc] at hl; done) | exact absurd rfl hv
    | iter s pos => exact absurd rfl hv
    | map ks vs => exact absurd rfl hv
    | pool rows =>
      obtain ⟨row, z, k1, k2, k3⟩ := loc_pool hl
      have := (H.blk _ _ hg).2.1 r row k1
      cases row with
      | dead => exact absurd rfl k2
      | cells cs =>
        rcases this with ⟨_, h2⟩ | ⟨b', cc, t', fz, h1, _, h3, _⟩
        · rw [h2] at k3; cases k3
        · rw [h1] at k3; cases k3; exact (Array.getElem?_eq_some_iff.1 h3).1
      | chan cap buf =>
        obtain ⟨b', z', buf', s, rc, h1, _, h3, _⟩ := this
        rw [h1] at k3; cases k3; exact (Array.getElem?_eq_some_iff.1 h3).1
    | own n t =>
      have := H.blk _ _ hg
      simp only [Blk.loc] at hl
      rcases this with ⟨_, h2⟩ | ⟨b', cc, t', fz, h1, _, _, h3, _⟩
      · simp [h2] at hl
      · rw [h1] at hl; simp only [Option.map_some, Option.some.injEq] at hl; subst hl; exact (Array.getElem?_eq_some_iff.1 h3).1

end Go.Ideal

end
