/- Texts packed together: IRead CData IFrzP. -/
import Derived.ChangeArms
import Derived.OpenShut
import Derived.Test.YtidlganponfccaaDoorZ12
section
/- What a law is handed, read as plain values: all memory that is there stays. Over any program. -/
set_option linter.unusedVariables false
set_option linter.unusedSimpArgs false
namespace Go.Ideal
open Go.RowKit

/-- All cells that are there stay. -/
def memF (W : World) : Fz := ⟨fun b o => match W.heap[b]? with
  | some (.cells cc _ _) => cc[o]?
  | _ => none, fun _ => none⟩
theorem memF_ok (W : World) : FzOK (memF W) W := by
  refine ⟨fun b o v h => ?_, fun b es h => by cases h⟩
  simp only [memF] at h
  split at h
  · rename_i cc t fz e; exact ⟨cc, t, fz, e, h⟩
  · cases h

/-- Cells, as they are read: 'is' are the plain values for the cells cs. -/
def CellsF (F : Fz) (is cs : List Value) : Prop := is.length = cs.length ∧ ∀ j, FRel F (is.getD j Go.undef) (cs.getD j Go.undef)
theorem CellsF.one {F : Fz} {i c : Value} (h : FRel F i c) : CellsF F [i] [c] := ⟨rfl, fun j => by
  cases j with
  | zero => simpa using h
  | succ j => simpa using FRel.undef F⟩
theorem CellsF.nil (F : Fz) : CellsF F [] [] := ⟨rfl, fun j => by simpa using FRel.undef F⟩
theorem CellsF.append {F : Fz} {a b c d : List Value} (h : CellsF F a c) (k : CellsF F b d) : CellsF F (a ++ b) (c ++ d) := ⟨by simp [h.1, k.1], fun j => by
  simp only [List.getD, List.getElem?_append, h.1]
  split
  · exact h.2 j
  · exact k.2 _⟩

section
variable {H : Type} {enc : TypeId × Value → H} {P : Program} {W : World} {base : Nat} {spare : Nat → Bool} {held : Bool}

theorem mapM_some_list {α β : Type} {f : α → Option β} : ∀ {l : List α} {r : List β}, l.mapM f = some r → r.length = l.length ∧ ∀ (i : Nat) (x : α), l[i]? = some x → f x = r[i]?
  | [], r, h => by simp at h; subst h; exact ⟨rfl, fun i x hx => by simp at hx⟩
  | a :: l, r, h => by
    simp only [List.mapM_cons, Option.bind_eq_bind, Option.bind_eq_some_iff, Option.pure_def, Option.some.injEq] at h
    obtain ⟨b, h1, r', h2, rfl⟩ := h
    obtain ⟨k1, k2⟩ := mapM_some_list h2
    refine ⟨by simp [k1], fun i x hx => ?_⟩
    cases i with
    | zero => simp at hx; subst hx; simpa using h1
    | succ i => simpa using k2 i x (by simpa using hx)

theorem cells_memF {a : Addr} {n : Nat} {cs : List Value} (h : W.cells? base a n = some cs) : cs.length = n ∧ (0 < n → a.spot = none) ∧ ∀ j, j < n → (memF W).c a.block (a.off + j) = some (cs.getD j Go.undef) := by
  unfold World.cells? at h
  split at h
  · obtain ⟨k1, k2⟩ := mapM_some_list h
    simp only [List.length_range] at k1
    have hget : ∀ j, j < n → W.cell? (a.add j) = some (cs.getD j Go.undef) := fun j hj => by
      rw [k2 j j (by simp [hj])]
      have : j < cs.length := by omega
      simp [List.getD, List.getElem?_eq_getElem this]
    have hsp : 0 < n → a.spot = none := fun hn => by
      have := hget 0 hn
      rw [Addr.add_zero'] at this
      unfold World.cell? at this
      split at this
      · split at this
        · cases this
        · rename_i hs; cases hq : a.spot with
          | none => rfl
          | some x => rw [hq] at hs; simp at hs
      · cases this
    refine ⟨k1, hsp, fun j hj => ?_⟩
    have h0 := hsp (by omega)
    have := hget j hj
    obtain ⟨b, o, s⟩ := a
    simp only at h0; subst h0
    rw [Addr.add_none] at this
    unfold World.cell? at this
    simp only [memF]
    cases hb : W.heap[b]? with
    | none => rw [hb] at this; cases this
    | some ob =>
      rw [hb] at this
      cases ob <;> simp at this ⊢
      exact this
  · cases h

/-- How values of a type are read: as an α, whose cells are f. -/
def ReadsAs (enc : TypeId × Value → H) (P : Program) (W : World) (base : Nat) (spare : Nat → Bool) (held : Bool) (t : TypeId) {α : Type} (f : α → List Value) (wf : α → Prop) : Prop :=
  ∀ (fuel : Nat) (cs : List Value) (x : DataW H × List MemPlace), DataW.trod enc P W base spare held fuel t cs = some x → ∃ a : α, wf a ∧ CellsF (memF W) (f a) cs

theorem ReadsAs.int {t : TypeId} {k : IntKind} (ht : P.underlying t = some (.int k)) : ReadsAs enc P W base spare held t (fun n : Int => [.int k n]) fun n => (Lit.int k n).wf = true := fun fuel cs x h => by
  obtain ⟨n, rfl, _, hw⟩ := DataW.trod_int ht h
  exact ⟨n, hw, .one (.int k n)⟩
theorem ReadsAs.bool {t : TypeId} (ht : P.underlying t = some .bool) : ReadsAs enc P W base spare held t (fun b : Bool => [.bool b]) fun _ => True := fun fuel cs x h => by
  obtain ⟨b, rfl, _⟩ := DataW.trod_bool ht h
  exact ⟨b, trivial, .one (.bool b)⟩
theorem ReadsAs.string {t : TypeId} (ht : P.underlying t = some .string) : ReadsAs enc P W base spare held t (fun s : ByteArray => [.string s]) fun s => s.size ≤ maxLen := fun fuel cs x h => by
  obtain ⟨s, rfl, _, hs⟩ := DataW.trod_string ht h
  exact ⟨s, hs, .one (.string s)⟩

/-- A list's cells, one element after the other. -/
def cellsOf {α : Type} (f : α → List Value) : List α → List Value
  | [] => []
  | a :: l => f a ++ cellsOf f l
theorem cellsOf_append {α : Type} (f : α → List Value) : ∀ (l m : List α), cellsOf f (l ++ m) = cellsOf f l ++ cellsOf f m
  | [], m => rfl
  | a :: l, m => by simp only [List.cons_append, cellsOf, cellsOf_append f l m, List.append_assoc]
theorem cellsOf_length {α : Type} {f : α → List Value} {n : Nat} (h : ∀ a, (f a).length = n) : ∀ l : List α, (cellsOf f l).length = l.length * n
  | [] => by simp [cellsOf]
  | a :: l => by simp only [cellsOf, List.length_append, h, cellsOf_length h l, List.length_cons, Nat.succ_mul]; omega

/-- The value of a slice. -/
def sliceV {α : Type} (f : α → List Value) (l : List α) : Value := vsl l.length (cellsOf f l).toArray

theorem ReadsAs.slice {t e : TypeId} {α : Type} {f : α → List Value} {wf : α → Prop} (ht : P.underlying t = some (.slice e)) (hsz : 0 < P.cellsOf e) (hl : ∀ a, (f a).length = P.cellsOf e) (he : ReadsAs enc P W base spare held e f wf) :
    ReadsAs enc P W base spare held t (fun l : List α => [sliceV f l]) fun l => (∀ a ∈ l, wf a) ∧ l.length ≤ maxLen := fun fuel cs x h => by
  rcases DataW.trod_slice ht h with ⟨rfl, _⟩ | ⟨a, len, cap, elems, rest, n, rfl, rfl, _, hb, hlc, hcm, hel, hget, _, _⟩
  · exact ⟨[], ⟨fun a ha => (by cases ha), Nat.zero_le _⟩, .one (.vnil none 0)⟩
  · -- element by element
    have key : ∀ k : Nat, k ≤ len → ∃ l : List α, l.length = k ∧ (∀ a ∈ l, wf a) ∧ ∃ ms : List Value, CellsF (memF W) (cellsOf f l) ms ∧ (0 < k → a.spot = none) ∧ ∀ j, j < ms.length → (memF W).c a.block (a.off + j) = some (ms.getD j Go.undef) := fun k => by
      induction k with
      | zero => intro _; exact ⟨[], rfl, fun a ha => (by cases ha), [], .nil _, fun h => absurd h (Nat.lt_irrefl _), fun j hj => absurd hj (Nat.not_lt_zero _)⟩
      | succ k ih =>
        intro hk
        obtain ⟨l, h1, h2, ms, h3, h4, h5⟩ := ih (by omega)
        have hk2 := hget k (by omega)
        have : k < elems.length := by omega
        rw [List.getElem?_eq_getElem this] at hk2
        obtain ⟨ci, c1, c2⟩ := Option.bind_eq_some_iff.1 hk2
        obtain ⟨y, y1, y2⟩ := he _ _ _ c2
        obtain ⟨q1, q2, q3⟩ := cells_memF c1
        have hspot : a.spot = none := by
          cases k with
          | zero => simpa [Addr.add] using q2 hsz
          | succ k => exact h4 (Nat.succ_pos k)
        have hml : ms.length = k * P.cellsOf e := by rw [← h3.1, cellsOf_length hl, h1]
        refine ⟨l ++ [y], by simp [h1], fun z hz => ?_, ms ++ ci, ?_, fun _ => hspot, fun j hj => ?_⟩
        · rcases List.mem_append.1 hz with hz | hz
          · exact h2 z hz
          · simp at hz; subst hz; exact y1
        · rw [cellsOf_append]; simp only [cellsOf, List.append_nil]; exact h3.append y2
        · rcases Nat.lt_or_ge j ms.length with hj2 | hj2
          · rw [h5 j hj2]; simp only [List.getD, List.getElem?_append_left hj2]
          · have := q3 (j - ms.length) (by simp at hj; omega)
            obtain ⟨b, o, s⟩ := a
            simp only at hspot; subst hspot
            rw [Addr.add_none] at this
            simp only at this ⊢
            rw [show o + j = o + k * P.cellsOf e + (j - ms.length) by omega, this]
            simp only [List.getD, List.getElem?_append_right hj2]
    obtain ⟨l, h1, h2, ms, h3, h4, h5⟩ := key len (Nat.le_refl _)
    refine ⟨l, ⟨h2, by omega⟩, .one ?_⟩
    subst h1
    by_cases h0 : l = []
    · subst h0; exact .vnil _ _
    · have hsp := h4 (by cases l with | nil => exact absurd rfl h0 | cons => simp)
      obtain ⟨b, o, s⟩ := a
      simp only at hsp; subst hsp
      refine .vsl (ms := ms.toArray) hlc (by simp [h3.1]) (fun j hj => ?_) fun j => ?_
      · have := h5 j (by simpa using hj)
        simpa using this
      · have := h3.2 j
        simpa using this

/-- A struct of fields. -/
theorem trod_fields {t : TypeId} {fs : Array Field} (ht : P.underlying t = some (.struct fs)) {fuel : Nat} {cs : List Value} {x : DataW H × List MemPlace} (h : DataW.trod enc P W base spare held fuel t cs = some x) :
    cs.length = P.cellsOf t ∧ ∀ (i : Nat) (f : Field), fs[i]? = some f → ∃ n y, DataW.trod enc P W base spare held n f.type ((cs.drop f.offset).take (P.cellsOf f.type)) = some y := by
  obtain ⟨xs, n, _, _, hl, hx, hf⟩ := DataW.trod_struct ht h
  refine ⟨hl, fun i f hi => ?_⟩
  have hlt : i < xs.length := by rw [hx]; exact (Array.getElem?_eq_some_iff.1 hi).1
  exact ⟨n, xs[i], by rw [hf i f hi, List.getElem?_eq_getElem hlt]⟩

/-- An argument. -/
theorem ReadsAs.arg {t : TypeId} {α : Type} {f : α → List Value} {wf : α → Prop} (he : ReadsAs enc P W base spare held t f wf) {v : Value} {d : DataW H} {p : List MemPlace} (h : DataW.Trod enc P W base spare held t v d p) :
    ∃ a : α, wf a ∧ CellsF (memF W) (f a) v.cells.toList := let ⟨fuel, h⟩ := h; he fuel _ _ h

/-- The fields of a struct from the cell o on. -/
def FieldsAs (enc : TypeId × Value → H) (P : Program) (W : World) (base : Nat) (spare : Nat → Bool) (held : Bool) (t : TypeId) (o : Nat) {α : Type} (f : α → List Value) (wf : α → Prop) : Prop :=
  ∀ (fuel : Nat) (cs : List Value) (x : DataW H × List MemPlace), DataW.trod enc P W base spare held fuel t cs = some x → ∃ a : α, wf a ∧ CellsF (memF W) (f a) (cs.drop o)
theorem FieldsAs.nil {t : TypeId} {fs : Array Field} {o : Nat} (ht : P.underlying t = some (.struct fs)) (ho : P.cellsOf t = o) : FieldsAs enc P W base spare held t o (fun _ : Unit => []) fun _ => True := fun fuel cs x h => by
  have := (trod_fields ht h).1
  rw [List.drop_eq_nil_of_le (by omega)]
  exact ⟨(), trivial, .nil _⟩
theorem FieldsAs.cons {t : TypeId} {fs : Array Field} {o n : Nat} {α β : Type} {f : β → List Value} {wf : β → Prop} {g : α → List Value} {wg : α → Prop} (ht : P.underlying t = some (.struct fs)) (i : Nat) (fld : Field)
    (hi : fs[i]? = some fld) (ho : fld.offset = o) (hn : P.cellsOf fld.type = n) (hg : ReadsAs enc P W base spare held fld.type g wg) (hr : FieldsAs enc P W base spare held t (o + n) f wf) :
    FieldsAs enc P W base spare held t o (fun p : α × β => g p.1 ++ f p.2) fun p => wg p.1 ∧ wf p.2 := fun fuel cs x h => by
  obtain ⟨m, y, hy⟩ := (trod_fields ht h).2 i fld hi
  obtain ⟨a, a1, a2⟩ := hg _ _ _ hy
  obtain ⟨b, b1, b2⟩ := hr _ _ _ h
  refine ⟨(a, b), ⟨a1, b1⟩, ?_⟩
  rw [ho, hn] at a2
  have := a2.append b2
  rwa [← List.drop_drop, List.take_append_drop] at this
theorem FieldsAs.all {t : TypeId} {α : Type} {f : α → List Value} {wf : α → Prop} (h : FieldsAs enc P W base spare held t 0 f wf) : ReadsAs enc P W base spare held t f wf := fun fuel cs x k => by
  have := h fuel cs x k
  simpa using this
theorem ReadsAs.map {t : TypeId} {α β : Type} {f : α → List Value} {wf : α → Prop} {f' : β → List Value} {wf' : β → Prop} (h : ReadsAs enc P W base spare held t f wf) (g : α → β) (hf : ∀ a, f' (g a) = f a) (hw : ∀ a, wf a → wf' (g a)) : ReadsAs enc P W base spare held t f' wf' := fun fuel cs x k => by
  obtain ⟨a, a1, a2⟩ := h fuel cs x k
  exact ⟨g a, hw a a1, by rw [hf]; exact a2⟩

/-- An array, element by element. -/
theorem ReadsAs.array {t e : TypeId} {n m : Nat} {α : Type} {f : α → List Value} {wf : α → Prop} (ht : P.underlying t = some (.array n e)) (hm : P.cellsOf e = m) (hn : P.cellsOf t = n * m) (he : ReadsAs enc P W base spare held e f wf) :
    ReadsAs enc P W base spare held t (fun l : List α => cellsOf f l) fun l => l.length = n ∧ ∀ a ∈ l, wf a := fun fuel cs x h => by
  obtain ⟨xs, k, _, _, hl, hx, hg⟩ := DataW.trod_array ht h
  have key : ∀ j, j ≤ n → ∃ l : List α, l.length = j ∧ (∀ a ∈ l, wf a) ∧ CellsF (memF W) (cellsOf f l) (cs.take (j * m)) := fun j => by
    induction j with
    | zero => intro _; exact ⟨[], rfl, fun a ha => (by cases ha), by simpa [cellsOf] using CellsF.nil _⟩
    | succ j ih =>
      intro hj
      obtain ⟨l, h1, h2, h3⟩ := ih (by omega)
      have hlt : j < xs.length := by omega
      have := hg j (by omega)
      rw [List.getElem?_eq_getElem hlt] at this
      obtain ⟨y, y1, y2⟩ := he _ _ _ this
      refine ⟨l ++ [y], by simp [h1], fun z hz => ?_, ?_⟩
      · rcases List.mem_append.1 hz with hz | hz
        · exact h2 z hz
        · simp at hz; subst hz; exact y1
      · rw [cellsOf_append]; simp only [cellsOf, List.append_nil]
        rw [hm] at y2
        have := h3.append y2
        rwa [← List.take_add, ← Nat.succ_mul] at this
  obtain ⟨l, h1, h2, h3⟩ := key n (Nat.le_refl _)
  refine ⟨l, ⟨h1, h2⟩, ?_⟩
  rwa [← hn, ← hl, List.take_length] at h3

/-- An argument of more cells. -/
theorem ReadsAs.argN {t : TypeId} {α : Type} {f : α → List Value} {wf : α → Prop} (he : ReadsAs enc P W base spare held t f wf) {v : Value} {d : DataW H} {p : List MemPlace} (hl : ∀ a, wf a → (f a).length ≠ 1) (h : DataW.Trod enc P W base spare held t v d p) :
    ∃ a : α, wf a ∧ FRel (memF W) (.agg (f a).toArray) v := by
  obtain ⟨a, a1, a2⟩ := he.arg h
  refine ⟨a, a1, ?_⟩
  have hne := hl a a1
  have : ∃ cs, v = .agg cs := by
    cases v <;> first | exact ⟨_, rfl⟩ | exact absurd a2.1 hne
  obtain ⟨cs, rfl⟩ := this
  refine .agg (by simpa [Value.cells] using a2.1) fun j => ?_
  have := a2.2 j
  simpa [Value.cells] using this

end
end Go.Ideal

end
section
/- Configs' data as plain structures, and their cells. -/
set_option linter.unusedVariables false
set_option linter.unusedSimpArgs false
namespace Go.Proofs.YtidlganponfccaaDoor
open Go Go.Ideal

/-- A set's bytes. -/
def catsL (c : List Int) : List Value := [.int .u8 (c.getD 0 0), .int .u8 (c.getD 1 0), .int .u8 (c.getD 2 0), .int .u8 (c.getD 3 0), .int .u8 (c.getD 4 0), .int .u8 (c.getD 5 0), .int .u8 (c.getD 6 0), .int .u8 (c.getD 7 0), .int .u8 (c.getD 8 0), .int .u8 (c.getD 9 0), .int .u8 (c.getD 10 0), .int .u8 (c.getD 11 0), .int .u8 (c.getD 12 0), .int .u8 (c.getD 13 0), .int .u8 (c.getD 14 0), .int .u8 (c.getD 15 0), .int .u8 (c.getD 16 0), .int .u8 (c.getD 17 0), .int .u8 (c.getD 18 0), .int .u8 (c.getD 19 0), .int .u8 (c.getD 20 0), .int .u8 (c.getD 21 0), .int .u8 (c.getD 22 0), .int .u8 (c.getD 23 0), .int .u8 (c.getD 24 0), .int .u8 (c.getD 25 0), .int .u8 (c.getD 26 0), .int .u8 (c.getD 27 0), .int .u8 (c.getD 28 0), .int .u8 (c.getD 29 0)]
def catsV (c : List Int) : Value := .agg (catsL c).toArray
structure Pfx where
  addr : Int
  bits : Int
instance : Inhabited Pfx := ⟨⟨0, 0⟩⟩
structure Lbl where
  level : Int
  cats : List Int
instance : Inhabited Lbl := ⟨⟨0, []⟩⟩
def lblL (x : Lbl) : List Value := [.int .i64 x.level] ++ catsL x.cats
def lblV (x : Lbl) : Value := .agg (lblL x).toArray
structure Face where
  addr : Int
  mtu : Int
  mode : Int
  doi : Int
  lo : Lbl
  hi : Lbl
  dflt : Lbl
instance : Inhabited Face := ⟨⟨0, 0, 0, 0, default, default, default⟩⟩
structure Pair where
  here : Int
  there : Int
instance : Inhabited Pair := ⟨⟨0, 0⟩⟩
structure Doi where
  number : Int
  levels : List Pair
  cats : List Pair
instance : Inhabited Doi := ⟨⟨0, [], []⟩⟩
structure Rule where
  inp : Int
  out : Int
  src : Pfx
  dst : Pfx
  proto : Int
  sportLo : Int
  sportHi : Int
  dportLo : Int
  dportHi : Int
  allow : Bool
instance : Inhabited Rule := ⟨⟨0, 0, default, default, 0, 0, 0, 0, 0, false⟩⟩
structure Relab where
  inp : Int
  label : Int
  src : Pfx
  dst : Pfx
  proto : Int
  to : Int
instance : Inhabited Relab := ⟨⟨0, 0, default, default, 0, 0⟩⟩
structure Rout where
  to : Pfx
  out : Int
instance : Inhabited Rout := ⟨⟨default, 0⟩⟩
structure Quot where
  queue : Int
  flows : Int
  bytes : Int
  datagrams : Int
  audit : Int
  tokens : Int
  whole : Int
  idle : Int
  open_ : Int
instance : Inhabited Quot := ⟨⟨0, 0, 0, 0, 0, 0, 0, 0, 0⟩⟩
structure Conf where
  faces : List Face
  labels : List Lbl
  dois : List Doi
  relabels : List Relab
  rules : List Rule
  routes : List Rout
  quotas : Quot
instance : Inhabited Conf := ⟨⟨[], [], [], [], [], [], default⟩⟩
end Go.Proofs.YtidlganponfccaaDoor

end
section
/- Answers whose memory stays from then on, rows of pools among it: told as a relation. Over any program. -/
set_option linter.unusedVariables false
set_option linter.unusedSimpArgs false
namespace Go.Ideal
open Go.RowKit

variable {P : Program} {B : Nat} {w0 : Org}

/-- A value, the memory behind it read as it stands now. -/
inductive BorR (h : Heap) : Value → Value → Prop
  | of (n : Nat) {v v2 : Value} (e : borV true n h v = some v2) : BorR h v v2
  | sl {i n : Nat} {cs l : List Value} {t : TypeId} (hg : h.get i = some (.cells cs t .fix)) (hl : l.length = cs.length) (hr : ∀ j, j < cs.length → BorR h (cs.getD j Go.undef) (l.getD j Go.undef)) : BorR h (.slice (some ⟨i, 0, none⟩) n n) (vsl n l.toArray)
  | row {p r es off n : Nat} {rows : List Row} {cs l : List Value} (hg : h.get p = some (.pool rows)) (hc : rows[r]? = some (.cells cs)) (hle : off + l.length ≤ cs.length) (h0 : n = 0 → l = []) (hr : ∀ j, j < l.length → BorR h (cs.getD (off + j) Go.undef) (l.getD j Go.undef)) :
      BorR h (rsl p r es off n) (vsl n l.toArray)
  | agg {l l2 : List Value} (hl : l.length = l2.length) (hr : ∀ j, j < l.length → BorR h (l.getD j Go.undef) (l2.getD j Go.undef)) : BorR h (.agg l.toArray) (.agg l2.toArray)
  | tuple {l l2 : List Value} (hl : l.length = l2.length) (hr : ∀ j, j < l.length → BorR h (l.getD j Go.undef) (l2.getD j Go.undef)) : BorR h (.tuple l.toArray) (.tuple l2.toArray)

theorem getD_some' {l : List Value} {j : Nat} (h : j < l.length) : l[j]? = some (l.getD j Go.undef) := by simp [List.getD, List.getElem?_eq_getElem h]
theorem getD_ge' {l : List Value} {j : Nat} (h : l.length ≤ j) : l.getD j Go.undef = Go.undef := by simp [List.getD, List.getElem?_eq_none h]

theorem BorR.rel {σ : Sg} {h : Heap} {w : World} (H : HRel P B w0 σ h w) {F : Fz} (hle : σ.f.le F) (hW : Whole B F w) (hm : mapsP h h.next) {v v2 : Value} (hb : BorR h v v2) : ∀ {v' : Value}, VRel σ v v' → FRel F v2 v' := by
  have cells : ∀ {l l2 l' : List Value}, l.length = l2.length → (∀ j, j < l.length → ∀ {v' : Value}, VRel σ (l.getD j Go.undef) v' → FRel F (l2.getD j Go.undef) v') → LRel σ l l' → CellsR F l2 l' := fun {l l2 l'} hl ih hr => ⟨by rw [← hl, hr.len], fun j => by
    rcases Nat.lt_or_ge j l.length with k | k
    · exact ih j k (hr.getD j)
    · rw [getD_ge' (by omega), getD_ge' (by rw [← hr.len]; exact k)]; exact FRel.undef F⟩
  induction hb with
  | of n e => intro v' hv; exact borV_rel H hle hW (fun _ => hm) n _ _ _ e hv
  | @sl i n cs l t hg hl hr ih =>
    intro v' hv
    obtain ⟨b, cc, t', fz, h1, h2, h3, h4, h5, _⟩ := H.blk _ _ hg
    have hc := cells hl.symm ih h5
    have st : Stay F b 0 l.toArray := hc.stay fun j hj => hW.c b _ cc t' fz _ h2 h3 (by
      have := getD_some' hj
      rw [← this, Nat.zero_add]; simp)
    cases hv with
    | sfix hi =>
      rw [h1] at hi; cases hi
      exact st.vsl (Nat.le_refl n)
    | sgrown hi => rw [h1] at hi; cases hi
    | sloose hi => rw [h1] at hi; cases hi
  | @row p r es off n rows cs l hg hcr hle2 h0 hr ih =>
    intro v' hv
    generalize ho : Go.Ideal.rsl p r es off n = q at hv
    cases hv with
    | rsl hT hc hnc =>
      rename_i p2 r2 es2 off2 b sz n2 c'
      simp only [Go.Ideal.rsl, Value.iface.injEq, Value.tuple.injEq, Array.mk.injEq, List.cons.injEq, Value.int.injEq, true_and, and_true] at ho
      obtain ⟨e1, e2, e3, e4, e5⟩ := ho
      obtain rfl : p = p2 := by omega
      obtain rfl : r = r2 := by omega
      obtain rfl : off = off2 := by omega
      obtain rfl : n = n2 := by omega
      obtain ⟨cc, t', fz, ecc, hB, k3, k4, k5, k6, hoff⟩ := row_at H hg hcr hT
      have hlr : LRel σ ((cs.drop off).take l.length) (((cc.toList.take cs.length).drop off).take l.length) := (k6.drop off).take l.length
      have hcl : CellsR F l (((cc.toList.take cs.length).drop off).take l.length) := by
        refine cells (l := (cs.drop off).take l.length) (by simp; omega) (fun j hj v' hv => ?_) hlr
        have hj2 : j < l.length := by simp at hj; omega
        refine ih j hj2 ?_
        have e : ((cs.drop off).take l.length).getD j Go.undef = cs.getD (off + j) Go.undef := by
          simp only [List.getD, List.getElem?_take, List.getElem?_drop]
          rw [if_pos hj2]
        rw [← e]; exact hv
      have st : Stay F b off l.toArray := hcl.stay fun j hj => hW.c b _ cc t' fz _ hB k3 (by
        have := getD_some' hj
        rw [← this, List.getElem?_take, if_pos (by simp at hj; omega), List.getElem?_drop, List.getElem?_take, if_pos (by simp at hj; omega)]
        simp)
      exact st.vsl hnc
    | rnil hT r2 es2 a' =>
      simp only [Go.Ideal.rsl, Value.iface.injEq, Value.tuple.injEq, Array.mk.injEq, List.cons.injEq, Value.int.injEq, true_and, and_true] at ho
      obtain ⟨_, _, _, _, e5⟩ := ho
      have hn : n = 0 := by omega
      subst hn
      rw [h0 rfl]
      exact .vnil a' 0
    | frz t ht hf => exact absurd ho (by intro ho; cases ho; cases hf with | iface _ h0 _ => rw [ht] at h0; cases h0)
    | iface t ht _ => exact absurd ho (by intro ho; cases ho; simp [isV] at ht)
    | _ => cases ho
  | @agg l l2 hl hr ih =>
    intro v' hv
    cases hv with
    | agg ha hh =>
      have := cells hl ih (by simpa using VRel.agg_list (.agg ha hh))
      exact .agg (by simpa using this.1) fun j => by simpa using this.2 j
  | @tuple l l2 hl hr ih =>
    intro v' hv
    cases hv with
    | tuple ha hh =>
      have := cells hl ih (by simpa using VRel.tuple_list (.tuple ha hh))
      exact .tuple (by simpa using this.1) fun j _ => by simpa using this.2 j

/-- From now on nothing is written: all that was made stays. -/
theorem Weak.freezeR {v v2 : Value} {h : Heap} (hm : mapsP h h.next) (hb : BorR h v v2) : Weak P [v] h [v2] ⟨h.next, .leaf⟩ := fun B w0 σ w l H hl => by
  let F2 : Fz := ⟨fun b o => if b < B then σ.f.c b o else (memAll w).c b o, fun b => if b < B then σ.f.m b else (memAll w).m b⟩
  have hle : σ.f.le F2 := ⟨fun b o v hv => by
    show (if b < B then σ.f.c b o else (memAll w).c b o) = some v
    split
    · exact hv
    · exact H.frz.le_all.c _ _ _ hv, fun b es he => by
    show (if b < B then σ.f.m b else (memAll w).m b) = some es
    split
    · exact he
    · exact H.frz.le_all.m _ _ he⟩
  have hW : Whole B F2 w := ⟨fun b o cc t fz v hB hb hv => by
    show (if b < B then σ.f.c b o else (memAll w).c b o) = some v
    rw [if_neg (by omega)]; exact (memAll_whole B w).c b o cc t fz v hB hb hv, fun b es cl hB hb => by
    show (if b < B then σ.f.m b else (memAll w).m b) = some es
    rw [if_neg (by omega)]; exact (memAll_whole B w).m b es cl hB hb⟩
  have hget : ∀ i, Heap.get ⟨h.next, .leaf⟩ i = none := fun i => by
    unfold Heap.get
    split
    · exact Trie.get_leaf i
    · rfl
  refine ⟨{ σ with f := F2 }, ⟨fun _ _ h => h, hle, fun _ _ _ h => h⟩, ⟨H.below, H.size, H.dom, H.codom, H.glob, fun i b hg => (by rw [hget] at hg; cases hg), fun i j _ _ bi bj b hi => (by rw [hget] at hi; cases hi), ⟨fun b o v hv => ?_, fun b es he => ?_⟩, ?_, H.tdom⟩, ?_⟩
  · have hv : (if b < B then σ.f.c b o else (memAll w).c b o) = some v := hv
    split at hv
    · exact H.frz.c b o v hv
    · exact (memAll_ok w).c b o v hv
  · have he : (if b < B then σ.f.m b else (memAll w).m b) = some es := he
    split at he
    · exact H.frz.m b es he
    · exact (memAll_ok w).m b es he
  · refine ⟨fun b hb => ?_, H.old.2⟩
    obtain ⟨q1, q2⟩ := H.old.1 b hb
    refine ⟨?_, ?_⟩
    · rw [← q1]; funext o; exact if_pos hb
    · rw [← q2]; exact if_pos hb
  · cases hl with
    | cons hv ht =>
      cases ht
      exact .cons (FRel.vrel (σ := { σ with f := F2 }) (hb.rel H hle hW hm hv)) .nil

def FrzR (v : Value) (v' : Value) (h' : Heap) : Prop := mapsP h' h'.next ∧ BorR h' v' v
theorem CallS.frzR {f : FuncId} {args : List Value} {h : Heap} {v : Value} (hc : CallS P f args h (FrzR v)) : CallS P f args h fun v1 _ => v1 = v :=
  CallS.post_weak (hc.mono fun v' h' hb => ⟨v, _, Weak.freezeR hb.1 hb.2, rfl⟩)
theorem CallK.frzR (hP : ProgOK P) (pf : FuncId → Bool) (wk : List Nat) (k : Nat) {f : FuncId} {args : List Value} (adv : Adv) {v : Value} (ha : args.all clo = true) (hv : clo v = true) {p : Prop}
    (he : wpF P pf wk k f args (Heap.empty P.globals.size) adv (FrzR v) = p) (hp : p) : CallK P f args v := CallK.of ha hv (CallS.frzR (CallS.wp hP (S := FrzR v) (he ▸ hp)))

/-! ### memory that goes into a pool, told with equalities -/
theorem Weak.pool' {ts : List Value} {h h2 : Heap} (eh : h2 = h.push (.pool [])) : Weak P ts h ts h2 := by subst eh; exact Weak.pool
theorem Weak.rowNil' {ts ts2 : List Value} {h h2 : Heap} {p i es : Nat} {rows : List Row} (hg : h.get p = some (.pool rows)) (hi : ts[i]? = some (.slice none 0 0) ∨ ts[i]? = some vzc) (ets : ts2 = ts.set i (rsl p rows.length es 0 0)) (eh : h2 = h.set p (.pool (rows ++ [.cells []]))) : Weak P ts h ts2 h2 := by
  subst ets; subst eh; exact Weak.rowNil hg hi
/-! ### rows, read and written -/
theorem cellsAt_of {rows : List Row} {r : Nat} {cs : List Value} (h : rows[r]? = some (.cells cs)) : liveAt rows r = true ∧ cellsAt rows r = cs := by
  unfold liveAt cellsAt; rw [h]; exact ⟨rfl, rfl⟩
theorem Ask.row_of {rows : List Row} {r off n : Nat} {out cs : List Value} (h : rows[r]? = some (.cells cs)) (hle : off + n ≤ cs.length) (he : (cs.drop off).take n = out) : (Ask.row rows r off n out).holds P := by
  obtain ⟨k1, k2⟩ := cellsAt_of h
  exact ⟨k1, by rw [k2]; exact hle, by rw [k2]; exact he⟩
theorem Ask.space_of {rows : List Row} {r n : Nat} {cs : List Value} (h : rows[r]? = some (.cells cs)) (hle : n ≤ cs.length) : (Ask.space rows r n).holds P := by
  obtain ⟨k1, k2⟩ := cellsAt_of h
  exact ⟨k1, by rw [k2]; exact hle⟩
theorem Ask.full_of {rows : List Row} {r n : Nat} {cs : List Value} (h : rows[r]? = some (.cells cs)) (he : cs.length = n) : (Ask.full rows r n).holds P := by
  obtain ⟨k1, k2⟩ := cellsAt_of h
  exact ⟨k1, by rw [k2]; exact he⟩
end Go.Ideal

end
