/- Texts packed together: IBld IBorR IClone IChan. -/
import Derived.Lib.Builder
import Derived.Lib.UnsafeStr
import Derived.Test.YtidlganponfccaaDoorZ21
section
/- Writers: a block of three cells (what failed; a strings.Builder: its own address, its buffer): what its writing methods do to the ideal heap. Over any program. -/
set_option linter.unusedVariables false
set_option linter.unusedSimpArgs false
namespace Go.Ideal
open Go.RowKit

variable {P : Program} {B : Nat} {w0 : Org} {w : World} {σ : Sg} {h : Heap}

theorem HRel.bigger (H : HRel P B w0 σ h w) (o : Obj) : HRel P B w0 σ h (w.alloc o) := H.goes ((Below.refl _ w).alloc (Nat.le_refl _) o)

/-- A block that stands where its pointer says. -/
theorem fix_at (H : HRel P B w0 σ h w) {i o : Nat} {cs : List Value} {t : TypeId} (hg : h.get i = some (.cells cs t .fix)) {v' : Value} (hv : VRel σ (.pointer (some ⟨i, o, none⟩)) v') :
    ∃ b cc fz, v' = .pointer (some ⟨b, o, none⟩) ∧ B ≤ b ∧ σ i = some ⟨b, 0, .exact⟩ ∧ w.heap[b]? = some (.cells cc t fz) ∧ okFrozen cc.size fz ∧ LRel σ cs cc.toList := by
  obtain ⟨a', rfl, ha⟩ := VRel.ptr_inv hv
  obtain ⟨b, o', k, g1, _, rfl⟩ := ha
  obtain ⟨b2, cc, t', fz, h1, h2, h3, h4, h5, h6, h7⟩ := H.blk _ _ hg
  subst h7
  rw [h1] at g1
  simp only [Option.some.injEq, Spot.mk.injEq] at g1
  obtain ⟨rfl, rfl, rfl⟩ := g1
  exact ⟨b2, cc, fz, by simp, h2, h1, h3, h4, h5⟩

/-- A store into such a block. -/
theorem HRel.setAt (H : HRel P B w0 σ h w) {i o b : Nat} {cs : List Value} {t : TypeId} (hg : h.get i = some (.cells cs t .fix)) (hs : σ i = some ⟨b, 0, .exact⟩) {v v' : Value} (hv : VRel σ v v') :
    HRel P B w0 σ (h.set i (.cells (cs.set o v) t .fix)) (w.setCell ⟨b, o, none⟩ v') := by
  obtain ⟨b2, cc, t', fz, h1, h2, h3, h4, h5, h6, h7⟩ := H.blk _ _ hg
  subst h7
  rw [hs] at h1
  simp only [Option.some.injEq, Spot.mk.injEq] at h1
  obtain ⟨rfl, -, -⟩ := h1
  rw [setCell_put h3]
  have hb : b < w.heap.size := (Array.getElem?_eq_some_iff.1 h3).1
  refine H.put hg rfl rfl hs h2 ⟨b, cc.setIfInBounds o v', t', fz, hs, h2, by rw [putBlock_get _ hb, if_pos rfl], by simpa using h4, ?_, h6, rfl⟩
  rw [Array.toList_setIfInBounds]
  exact h5.set hv o

/-- A buffer that is nil becomes one that is appended to. -/
def bufH (u : TypeId) (i : Nat) (h : Heap) : Heap := match h.get i with
  | some (.cells [x, a, .slice none 0 0] t .fix) => (h.set i (.cells [x, a, osl h.next 1 0 #[]] t .fix)).push (.own 0 u)
  | _ => h
/-- Cells written behind a buffer's. -/
def addH (i : Nat) (new : List Value) (h : Heap) : Option Heap := match h.get i with
  | some (.cells [x, _, b] t .fix) => match asOs b with
    | some (tok, es, n, os) => match h.get tok with
      | some (.own m u) => some (((h.set i (.cells [x, .pointer (some ⟨i, 1, none⟩), b] t .fix)).set tok (.own (m + new.length) u)).set i (.cells [x, .pointer (some ⟨i, 1, none⟩), osl tok es (n + (new.length : Nat)) ⟨os.toList ++ new⟩] t .fix))
      | _ => none
    | none => none
  | _ => none
/-- An append of which it is known what it comes to. -/
theorem wpList_appendS {ops : Array Oper} {rest : List Oper} {o : Oper} {a : Act} {Q : Exit → Act → World → Prop} (hgd : o.guard = none) (s x : Operand) (ts : Array TypeId) (ho : o.op = .call { callee := .builtin .append, args := #[s, x], argTypes := ts })
    {T : Value → World → Prop} (hrun : ∃ v' w', (Builtin.append_ ts o.type #[a.eval s, a.eval x]).run P w = .ok v' w' ∧ T v' w') (h : ∀ v' w', T v' w' → wpList P ops Q rest (a.put o.dst v') w') : wpList P ops Q (o :: rest) a w :=
  wpList_plain hgd fun K hK => by
    obtain ⟨v', w', hr, hT⟩ := hrun
    unfold Oper.wp execOp
    simp only [ho, resolve, invoke, builtin, Sem.run_bind, Sem.run_pure, Result.andThen_ok, List.map_toArray, List.map_cons, List.map_nil, hr]
    exact hK _ _ (h v' w' hT)
theorem first_one {u : World} {b : Nat} {v : Value} (hc : u.cell? ⟨b, 0, none⟩ = some v) : (Builtin.firstCells 1 1 (.slice (some ⟨b, 0, none⟩) 1 1)).run P u = .ok [v].toArray u := by
  simp [Builtin.firstCells, loadCells, loadCellsFrom, hc, Sem.run, Addr.add]
theorem byte_cell {w : World} {v : Value} {t : TypeId} {d : Nat} : ({ (w.alloc (.cells #[v] t)) with drawn := d } : World).cell? ⟨w.heap.size, 0, none⟩ = some v := by
  have h : ({ (w.alloc (.cells #[v] t)) with drawn := d } : World).heap[w.heap.size]? = some (.cells #[v] t (0, 0)) := by
    show (w.heap.push _)[w.heap.size]? = _
    rw [Array.getElem?_push, if_pos rfl]
  rw [cell_of h]
  rfl
theorem asOs_osl (tok es : Nat) (n : Int) (cs : Array Value) : asOs (osl tok es n cs) = some (tok, es, n, cs) := by simp [asOs, osl]
theorem os_slice {tok es : Nat} {n : Int} {cs : Array Value} {v : Value} (hb : VRel σ (osl tok es n cs) v) : ∃ base sl cp, v = .slice base sl cp := by
  generalize hx : osl tok es n cs = u at hb
  cases hb with
  | osome => exact ⟨_, _, _, rfl⟩
  | osnil => exact ⟨_, _, _, rfl⟩
  | iface _ ht _ =>
    unfold osl at hx
    cases hx
    simp [isV] at ht
  | frz _ ht hf =>
    unfold osl at hx
    cases hx
    cases hf with | iface _ ht _ => simp [isV] at ht
  | _ => cases hx
/-- A type of one cell and one byte. -/
def byteInfo (P : Program) (t : TypeId) : Bool := match P.info? t with
  | some i => match i.zero with
    | some z => (z.cells.size == i.size) && (i.size == 1) && (i.bytes == 1)
    | none => false
  | none => false
theorem byteInfo_of {t : TypeId} (h : byteInfo P t = true) : ∃ ti zv, P.info? t = some ti ∧ ti.zero = some zv ∧ zv.cells.size = ti.size ∧ ti.size = 1 ∧ ti.bytes = 1 := by
  unfold byteInfo at h
  split at h
  · rename_i i hi
    split at h
    · rename_i z hz
      simp only [Bool.and_eq_true, beq_iff_eq] at h
      exact ⟨i, z, hi, hz, h.1.1, h.1.2, h.2⟩
    · cases h
  · cases h
/-- What is written, as a string. -/
def u8s (l : List UInt8) : List Value := l.map fun b => .int .u8 b.toNat
def strOf (l : List Value) : ByteArray := ⟨(l.map fun v => match v with
  | .int _ n => UInt8.ofNat n.toNat
  | _ => 0).toArray⟩
theorem strOf_u8s (l : List UInt8) : strOf (u8s l) = ⟨l.toArray⟩ := by
  unfold strOf u8s
  congr 2
  rw [List.map_map]
  conv => rhs; rw [← List.map_id l]
  refine List.map_congr_left fun b _ => ?_
  simp
theorem u8s_append (a b : List UInt8) : u8s (a ++ b) = u8s a ++ u8s b := List.map_append
theorem u8s_length (l : List UInt8) : (u8s l).length = l.length := List.length_map ..
theorem u8s_one (l : List UInt8) : (u8s l).all oneCell = true := List.all_eq_true.2 fun v hv => by
  obtain ⟨b, _, rfl⟩ := List.mem_map.1 hv
  rfl
theorem u8s_frel (F : Fz) (l : List UInt8) (j : Nat) : FRel F ((u8s l).getD j undef) ((u8s l).getD j undef) := by
  by_cases hj : j < l.length
  · simp only [u8s, List.getD, List.getElem?_map, List.getElem?_eq_getElem hj, Option.map_some, Option.getD_some]
    exact .int _ _
  · have : (u8s l).getD j undef = undef := by simp [u8s, List.getD, List.getElem?_eq_none (Nat.le_of_not_lt hj)]
    rw [this]
    exact FRel.undef F

theorem bufH_weak {u : TypeId} {i : Nat} {x a : Value} {t : TypeId} {ts : List Value} (hg : h.get i = some (.cells [x, a, .slice none 0 0] t .fix)) : Weak P ts h ts (bufH u i h) := by
  unfold bufH
  rw [hg]
  exact Weak.ownAt i 2 1 u hg rfl

/-- What a frozen buffer leaves. -/
def strH : List Value → Heap → Option (Value × Heap)
  | [.pointer (some ⟨i, _, none⟩)], h => match h.get i with
    | some (.cells [_, _, .slice none 0 0] _ .fix) => some (.string ⟨#[]⟩, h)
    | some (.cells [_, _, b] _ .fix) => match asOs b with
      | some (tok, _, _, os) => some (.string (strOf os.toList), h.set tok (.cells [] 0 .dead))
      | none => none
    | _ => none
  | _, _ => none
def wbyteH (u : TypeId) : List Value → Heap → Option (Value × Heap)
  | [.pointer (some ⟨i, _, none⟩), v], h => match addH i [v] (bufH u i h) with
    | some h2 => some (.nilIface, h2)
    | none => none
  | _, _ => none
def wstrH (u : TypeId) : List Value → Heap → Option (Value × Heap)
  | [.pointer (some ⟨i, _, none⟩), .string s], h => match addH i (u8s s.data.toList) (bufH u i h) with
    | some h2 => some (.tuple #[.int .i64 s.size, .nilIface], h2)
    | none => none
  | _, _ => none

/-- A block of memory that nobody writes any more. -/
theorem HRel.die (H : HRel P B w0 σ h w) {i n : Nat} {t u : TypeId} (hg : h.get i = some (.own n t)) : HRel P B w0 σ (h.set i (.cells [] u .dead)) w := by
  refine ⟨H.below, H.size, H.dom, H.codom, H.glob, fun j b hj => ?_, fun j k r s bj bk b hj hk lj lk hB => ?_, H.frz, H.old, H.tdom⟩
  · rw [Heap.get_set (Heap.lt_of_get hg)] at hj
    split at hj
    · simp only [Option.some.injEq] at hj; subst hj; trivial
    · exact H.blk j b hj
  · rw [Heap.get_set (Heap.lt_of_get hg)] at hj hk
    split at hj
    · simp only [Option.some.injEq] at hj; subst hj; simp [Blk.loc] at lj
    · split at hk
      · simp only [Option.some.injEq] at hk; subst hk; simp [Blk.loc] at lk
      · exact H.inj j k r s bj bk b hj hk lj lk hB

/-- What becomes of the world when a buffer is frozen: nobody writes it any more. -/
theorem HRel.freeze (H : HRel P B w0 σ h w) {i n b m : Nat} {t u : TypeId} (hg : h.get i = some (.own n t)) (hT : (Blk.own n t).loc σ i 0 = some b) (hB : B ≤ b) {cc : Array Value} {t' : TypeId} {fz : Nat × Nat} (hb : w.heap[b]? = some (.cells cc t' fz)) :
    HRel P B w0 σ (h.set i (.cells [] u .dead)) (w.freeze ⟨b, 0, none⟩ m) := by
  have hsz : (w.freeze ⟨b, 0, none⟩ m).heap.size = w.heap.size := by
    unfold World.freeze
    split
    · rfl
    · simp
  have hother : ∀ k, k ≠ b → (w.freeze ⟨b, 0, none⟩ m).heap[k]? = w.heap[k]? := fun k hk => by
    unfold World.freeze
    split
    · rfl
    · show (w.heap.modify b _)[k]? = _
      rw [Array.getElem?_modify, if_neg (Ne.symm hk)]
  have hself : ∃ fz', (w.freeze ⟨b, 0, none⟩ m).heap[b]? = some (.cells cc t' fz') := by
    unfold World.freeze
    split
    · exact ⟨fz, hb⟩
    · obtain ⟨lo, hi⟩ := fz
      refine ⟨if lo == hi then (0, 0 + m) else (min lo 0, max hi (0 + m)), ?_⟩
      show (w.heap.modify b _)[b]? = _
      rw [Array.getElem?_modify, if_pos rfl, hb]
      rfl
  refine ⟨Lib.below_freeze H.below hB m, by rw [hsz]; exact H.size, H.dom, fun j x hj => by rw [hsz]; exact H.codom j x hj, H.glob, fun j bb hj => ?_, fun j k r s bj bk b' hj hk lj lk hB' => ?_, ⟨fun k o v hv => ?_, fun k es he => ?_⟩, H.old, H.tdom⟩
  · rw [Heap.get_set (Heap.lt_of_get hg)] at hj
    split at hj
    · simp only [Option.some.injEq] at hj; subst hj; trivial
    · rename_i e
      refine (H.blk j bb hj).same fun r y hy => hother y fun heq => ?_
      subst heq
      exact e (H.inj j i r 0 bb (.own n t) y hj hg hy hT hB)
  · rw [Heap.get_set (Heap.lt_of_get hg)] at hj hk
    split at hj
    · simp only [Option.some.injEq] at hj; subst hj; simp [Blk.loc] at lj
    · split at hk
      · simp only [Option.some.injEq] at hk; subst hk; simp [Blk.loc] at lk
      · exact H.inj j k r s bj bk b' hj hk lj lk hB'
  · obtain ⟨c2, t2, fz2, q1, q2⟩ := H.frz.c k o v hv
    by_cases e : k = b
    · subst e
      rw [hb] at q1
      simp only [Option.some.injEq, Obj.cells.injEq] at q1
      obtain ⟨rfl, rfl, _⟩ := q1
      obtain ⟨fz', hf⟩ := hself
      exact ⟨cc, t', fz', hf, q2⟩
    · exact ⟨c2, t2, fz2, by rw [hother k e]; exact q1, q2⟩
  · obtain ⟨cl, q1⟩ := H.frz.m k es he
    by_cases e : k = b
    · subst e; rw [hb] at q1; cases q1
    · exact ⟨cl, by rw [hother k e]; exact q1⟩
theorem len_str {s : ByteArray} (w : World) : (Builtin.lenOf (.string s)).run P w = .ok s.data.toList.length w := by
  show Result.ok s.size w = _
  rw [Array.length_toList]
  rfl
theorem first_str {u : World} {s : ByteArray} : (Builtin.firstCells 1 s.data.toList.length (.string s)).run P u = .ok (u8s s.data.toList).toArray u := by
  have e : s.extract 0 s.data.toList.length = s := by
    have : s.data.toList.length = s.size := Array.length_toList
    rw [this]
    exact ByteArray.extract_zero_size
  simp only [Builtin.firstCells, e, u8s]
  have e2 : s.data.map (fun b => Value.int .u8 b.toNat) = (s.data.toList.map fun b => Value.int .u8 b.toNat).toArray := Array.toList_inj.1 (by rw [Array.toList_map])
  rw [e2]
  rfl
theorem os_empty {tok : Nat} {cs : Array Value} {v : Value} (hb : VRel σ (osl tok 1 0 cs) v) : v = .slice none 0 0 := by
  generalize hx : osl tok 1 0 cs = u at hb
  cases hb with
  | osome hs hF hh hT hp hnn hc hnc =>
    simp only [osl, Value.iface.injEq, Value.tuple.injEq, true_and] at hx
    have hx := congrArg Array.toList hx
    simp only [List.cons.injEq, Value.int.injEq, true_and, Value.agg.injEq, and_true] at hx
    obtain ⟨e1, e2, e3, e4⟩ := hx
    subst e4
    rename_i n' c'
    have e5 : n' = 0 := by omega
    rw [e5, Nat.zero_mul] at hnn
    omega
  | osnil => rfl
  | iface _ ht _ =>
    unfold osl at hx
    cases hx
    simp [isV] at ht
  | frz _ ht hf =>
    unfold osl at hx
    cases hx
    cases hf with | iface _ ht _ => simp [isV] at ht
  | _ => cases hx
/-- A buffer's bytes, as they lie in memory. -/
theorem cells_u8 {σ : Sg} {w : World} {B : Nat} {w0 : Org} {h : Heap} (H : HRel P B w0 σ h w) {tok n : Nat} {u5 : TypeId} {l : List UInt8} {buf : Value} (hb : VRel σ (osl tok 1 n ⟨u8s l⟩) buf) (hn : n = l.length) (h0 : l ≠ []) {m : Nat} (ht : h.get tok = some (.own m u5)) (hm : m = l.length) :
    ∃ g cap cc fz, buf = .slice (some ⟨g, 0, none⟩) l.length cap ∧ B ≤ g ∧ (Blk.own m u5).loc σ tok 0 = some g ∧ w.heap[g]? = some (Obj.cells cc u5 fz) ∧ l.length ≤ cap ∧ cap ≤ cc.size ∧ ∀ (j : Nat) (x : UInt8), l[j]? = some x → cc[j]? = some (Value.int .u8 x.toNat) := by
  subst hn
  subst hm
  have hl0 : 0 < l.length := by
    cases l with
    | nil => exact absurd rfl h0
    | cons a l => simp
  generalize hx : osl tok 1 l.length ⟨u8s l⟩ = u at hb
  cases hb with
  | osome hs hF hh hT hp hnn hc hnc =>
    rename_i cells ms tok' es b sz n' c'
    simp only [osl, Value.iface.injEq, Value.tuple.injEq, true_and] at hx
    have hx := congrArg Array.toList hx
    simp only [List.cons.injEq, Value.int.injEq, true_and, Value.agg.injEq, and_true] at hx
    obtain ⟨e1, e2, e3, e4⟩ := hx
    have e1 : tok' = tok := by omega
    have e2 : es = 1 := by omega
    have e3 : n' = l.length := by omega
    subst e1; subst e2; subst e3; subst e4
    have hsz : (⟨u8s l⟩ : Array Value).size = l.length := u8s_length l
    rw [hsz] at hT
    have hloc : (Blk.own l.length u5).loc σ tok' 0 = some b := by simp [Blk.loc, hT]
    rcases H.blk _ _ ht with ⟨h2, _⟩ | ⟨b2, cc, t', fz, p1, p2, p3, p4, p5, p6, p7, p8, p9⟩
    · omega
    · rw [hT] at p1
      simp only [Option.some.injEq, Prod.mk.injEq] at p1
      obtain ⟨rfl, rfl⟩ := p1
      subst p9
      refine ⟨b, c', cc, fz, rfl, p3, hloc, p4, hnc, by omega, fun j x hj => ?_⟩
      have hjl : j < l.length := (List.getElem?_eq_some_iff.1 hj).1
      have hjm : j < ms.size := by rw [← hs, hsz]; exact hjl
      obtain ⟨c3, t3, fz3, q1, q2⟩ := H.frz.c _ _ _ (hF j hjm)
      rw [p4] at q1
      simp only [Option.some.injEq, Obj.cells.injEq] at q1
      obtain ⟨rfl, _, _⟩ := q1
      rw [q2]
      have hr := hh j
      have e5 : (⟨u8s l⟩ : Array Value).getD j undef = .int .u8 x.toNat := by
        simp [u8s, Array.getD_eq_getD_getElem?, hj]
      rw [e5] at hr
      generalize ms.getD j undef = q at hr ⊢
      cases hr with
      | int k n => rfl
  | osnil =>
    simp only [osl, Value.iface.injEq, Value.tuple.injEq, true_and] at hx
    have hx := congrArg Array.toList hx
    simp only [List.cons.injEq, Value.int.injEq, true_and, Value.agg.injEq, and_true] at hx
    omega
  | iface _ ht _ =>
    unfold osl at hx
    cases hx
    simp [isV] at ht
  | frz _ ht hf =>
    unfold osl at hx
    cases hx
    cases hf with | iface _ ht _ => simp [isV] at ht
  | _ => cases hx
end Go.Ideal

end
section
/- A call that is handed memory as it stands, rows of pools among it. Over any program. -/
set_option linter.unusedVariables false
set_option linter.unusedSimpArgs false
namespace Go.Ideal
open Go.RowKit
variable {P : Program}

end Go.Ideal

end
section
/- A slice that is copied: the copy is a row of a pool. Over any program. -/
set_option linter.unusedVariables false
set_option linter.unusedSimpArgs false
namespace Go.Ideal
open Go.RowKit
variable {P : Program} {B : Nat} {w0 : Org}

/-- What a slice holds, as it stands: of memory that stays, or a whole row. -/
def sliceNow (h : Heap) (s : Value) : Option (Int × List Value) := match asSl s with
  | some (n, cs) => some (n, cs.toList)
  | none => match asRs s with
    | some (p, r, _, off, n) => match rowsAt h p, Nat.beq off 0 with
      | some rows, true => some (n, cellsAt rows r)
      | _, _ => none
    | none => none
/-- A row is one that is there. -/
def liveNow (h : Heap) (s : Value) : Prop := match asRs s with
  | some (p, r, _, _, _) => match rowsAt h p with
    | some rows => liveAt rows r = true
    | none => True
  | none => True
/-- The copy is a row of a pool of its own. -/
def cloneNew (es : Nat) (args : List Value) (h : Heap) : Option (Value × Heap) := match args with
  | [s] => match sliceNow h s with
    | some (n, cs) => some (rsl h.next 1 es 0 n, ((h.push (.pool [])).set h.next (.pool [.cells []])).set h.next (.pool [.dead, .cells cs]))
    | none => none
  | _ => none
theorem now_load {w : World} {σ : Sg} {h : Heap} (H : HRel P B w0 σ h w) {es : Nat} {s s' : Value} {n : Int} {cs : List Value} (hs : sliceNow h s = some (n, cs)) (hlv : liveNow h s) (hc : cs.length = n.toNat * es) (hx : VRel σ s s') :
    ∃ (k : Nat) (a' : Option Addr) (c' : Nat) (new' : List Value), n = k ∧ s' = .slice a' k c' ∧ (a' = none → k = 0) ∧ (∀ d, (Builtin.firstCells es k s').run P { w with drawn := d } = .ok new'.toArray { w with drawn := d }) ∧ LRel σ cs new' := by
  unfold sliceNow at hs
  split at hs
  · rename_i m xs hxs
    simp only [Option.some.injEq, Prod.mk.injEq] at hs; obtain ⟨rfl, rfl⟩ := hs
    obtain ⟨kn, rfl, hsl⟩ := asSl_rel hxs hx
    simp only [Int.toNat_natCast] at hc
    rcases hsl with ⟨a', c', rfl, rfl, rfl⟩ | ⟨b, o, c', rfl, hcc, hst⟩
    · exact ⟨0, a', c', [], rfl, rfl, fun _ => rfl, fun d => by cases a' <;> simp [Builtin.firstCells, loadCells, loadCellsFrom], .nil⟩
    · have hcz : kn * es = xs.size := by simpa using hc.symm
      obtain ⟨ms, k1, k2, k3⟩ := hst.load (P := P) 0 (kn * es) (by omega)
      have k3 : ∀ j : Nat, FRel σ.f (xs.toList.getD j undef) (ms.getD j undef) := fun j => by
        have := k3 j
        rw [List.drop_zero, List.take_of_length_le (by simp; omega)] at this
        exact this
      have hlr : LRel σ xs.toList ms := LRel.of_getD (by rw [k2]; simpa using hcz.symm) fun j _ => (k3 j).vrel
      exact ⟨kn, some ⟨b, o, none⟩, c', ms, rfl, rfl, (by intro h; cases h), fun d => by simpa [Builtin.firstCells] using k1 { w with drawn := d } ⟨H.frz.c, H.frz.m⟩, hlr⟩
  · split at hs
    · rename_i p r es2 off m hrs
      split at hs
      · rename_i rows hg ho
        rw [Nat.beq_eq] at ho; subst ho
        simp only [Option.some.injEq, Prod.mk.injEq] at hs; obtain ⟨rfl, rfl⟩ := hs
        unfold liveNow at hlv
        rw [hrs] at hlv
        simp only [hg] at hlv
        obtain ⟨k, rfl, ⟨a', y, rfl, rfl, -, hT0⟩ | ⟨b, sz, c', rfl, hT, hcs, hnc⟩⟩ := asRs_rel hrs hx
        · have e : cellsAt rows r = [] := List.length_eq_zero_iff.1 (by simpa using hc)
          rw [e]
          exact ⟨0, a', 0, [], rfl, rfl, fun _ => rfl, fun d => by cases a' <;> simp [Builtin.firstCells, loadCells, loadCellsFrom], .nil⟩
        · simp only [Int.toNat_natCast] at hc
          obtain ⟨old', g1, g2, g3⟩ := row_load (w := w) (P := P) H (rowsAt_get hg) (liveAt_get hlv) hT 0 (k * es) (by omega)
          rw [List.drop_zero, List.take_of_length_le (by omega)] at g2
          exact ⟨k, some ⟨b, 0, none⟩, c', old', rfl, rfl, (by intro h; cases h), fun d => by simp only [Builtin.firstCells]; exact g1 d, g2⟩
      · cases hs
    · cases hs

section
variable {w : World} {σ : Sg} {h : Heap} {argTypes : Array TypeId} {st elem ty : TypeId} {ti : TypeInfo} {zv s s' : Value} {n : Int} {cs : List Value}

/-- append, to nothing, of all of it: a row of a pool of its own. -/
theorem clone_new (H : HRel P B w0 σ h w) (h0 : argTypes[0]? = some st) (h1 : argTypes[1]? = some st) (hus : P.underlying st = some (.slice elem)) (hti : P.info? elem = some ti) (hz : ti.zero = some zv) (hzs : zv.cells.size = ti.size)
    (hs : sliceNow h s = some (n, cs)) (hlv : liveNow h s) (hc : cs.length = n.toNat * ti.size) (hone : cs.all Go.Ideal.oneCell = true) (hx : VRel σ s s') (hbig : n.toNat * (ti.bytes + 1) ≤ 1099511627776) (a0 : Option Addr) :
    ∃ σ' w' v', σ.le σ' ∧ (Builtin.append_ argTypes ty #[.slice a0 0 0, s']).run P w = .ok v' w' ∧ VRel σ' (rsl h.next 1 ti.size 0 n) v' ∧ HRel P B w0 σ' (((h.push (.pool [])).set h.next (.pool [.cells []])).set h.next (.pool [.dead, .cells cs])) w' := by
  obtain ⟨k, a', c', new', rfl, rfl, -, hnew, hrel⟩ := now_load H hs hlv hc hx
  simp only [Int.toNat_natCast] at hc hbig
  obtain ⟨σ1, l1, H1, r1⟩ := Weak.trans (Weak.pool (P := P)) (Weak.rowNil (i := 0) (es := ti.size) (rows := []) (ts := [vzc]) (p := h.next) (h := h.push (.pool [])) (by rw [Heap.get_push, if_pos rfl]) (.inr rfl)) B w0 σ w [.slice a0 0 0] H (.cons (FRel.vzc a0).vrel .nil)
  have r1 : VRel σ1 (rsl h.next 0 ti.size 0 0) (.slice a0 0 0) := by cases r1 with | cons q _ => exact q
  have hg1 : ((h.push (.pool [])).set h.next (.pool ([] ++ [.cells []]))).get h.next = some (.pool [.cells []]) := by
    rw [Heap.get_set (by show h.next < h.next + 1; omega), if_pos rfl]; rfl
  obtain ⟨σ2, w2, v2, l2, run, rv, H2⟩ := pool_append (ty := ty) (n := 0) (k := k) (r := 0) (rows := [.cells []]) (cs := []) H1 h0 h1 hus (.inl ⟨_, hus⟩) hti hz hzs hg1 rfl (asRs_rel rfl r1) (by simp) (fun w => by simp [Builtin.lenOf]) (by simpa using hbig) hnew (hrel.mono l1) hc (hrel.ones hone)
  exact ⟨σ2, w2, v2, Sg.le_trans l1 l2, run, by simpa using rv, by simpa using H2⟩
theorem clone_newNil (H : HRel P B w0 σ h w) (es : Nat) : ∃ σ', σ.le σ' ∧ VRel σ' (rsl h.next 1 es 0 0) (.slice none 0 0) ∧ HRel P B w0 σ' (((h.push (.pool [])).set h.next (.pool [.cells []])).set h.next (.pool [.dead, .cells []])) w := by
  obtain ⟨σ1, l1, H1, r1⟩ := Weak.trans (Weak.pool (P := P)) (Weak.rowNil (i := 0) (es := es) (rows := []) (ts := [vzc]) (p := h.next) (h := h.push (.pool [])) (by rw [Heap.get_push, if_pos rfl]) (.inr rfl)) B w0 σ w [.slice none 0 0] H (.cons (FRel.vzc none).vrel .nil)
  have hg1 : ((h.push (.pool [])).set h.next (.pool ([] ++ [.cells []]))).get h.next = some (.pool [.cells []]) := by
    rw [Heap.get_set (by show h.next < h.next + 1; omega), if_pos rfl]; rfl
  have H2 := HRel.nextNil (r := 0) H1 hg1 (by simp)
  obtain ⟨x, hT0⟩ := (H1.blk _ _ hg1).1.1
  exact ⟨σ1, l1, .rnil hT0 1 es none, by simpa using H2⟩
end

/-- What a function that copies does: nothing of nothing; else append to a new slice of nothing. -/
def ClonesAs (P : Program) (f : FuncId) (st ty : TypeId) : Prop := ∀ (w : World) (s' : Value),
  (∀ k c, s' = .slice none k c → Calls P f #[s'] w fun e w' => e = .returned (.slice none 0 0) ∧ w' = w) ∧
  (∀ a k c, s' = .slice (some a) k c → ∃ (a0 : Option Addr) (w1 : World), Below w.heap.size w w1 ∧ ∀ v' w2, (Builtin.append_ #[st, st] ty #[.slice a0 0 0, s']).run P w1 = .ok v' w2 → Calls P f #[s'] w fun e w' => e = .returned v' ∧ w' = w2)
theorem one_argS {σ : Sg} {s : Value} {args' : Array Value} (h : LRel σ [s] args'.toList) : ∃ s', args' = #[s'] ∧ VRel σ s s' := by
  generalize hl : args'.toList = l at h
  cases h with
  | cons q t => cases t; exact ⟨_, Array.toList_inj.1 hl, q⟩
section
variable {f : FuncId} {h h2 : Heap} {st elem ty : TypeId} {ti : TypeInfo} {zv s v : Value} {n : Int} {cs : List Value}
theorem ClonesAs.new (hC : ClonesAs P f st ty) (hus : P.underlying st = some (.slice elem)) (hti : P.info? elem = some ti) (hz : ti.zero = some zv) (hzs : zv.cells.size = ti.size) (e : cloneNew ti.size [s] h = some (v, h2))
    (hs : sliceNow h s = some (n, cs)) (hlv : liveNow h s) (hc : cs.length = n.toNat * ti.size) (hone : cs.all Go.Ideal.oneCell = true) (hbig : n.toNat * (ti.bytes + 1) ≤ 1099511627776) : CallS P f [s] h fun v1 h1 => v1 = v ∧ h1 = h2 := fun B w0 σ w args' H ha => by
  obtain ⟨s', rfl, hx⟩ := one_argS ha
  obtain ⟨k, a', c', new', hn, es, hnil, _, _⟩ := now_load H hs hlv hc hx
  unfold cloneNew at e
  simp only [hs, Option.some.injEq, Prod.mk.injEq] at e
  obtain ⟨rfl, rfl⟩ := e
  cases a' with
  | none =>
    have hk : k = 0 := hnil rfl
    subst hk
    subst hn
    have hcs : cs = [] := List.length_eq_zero_iff.1 (by simpa using hc)
    subst hcs
    obtain ⟨σ1, l1, r1, H1⟩ := clone_newNil H ti.size
    exact ((hC w s').1 _ _ es).mono fun e w' ⟨q1, q2⟩ => ⟨_, _, _, q1, ⟨rfl, rfl⟩, σ1, l1, by simpa using r1, by rw [q2]; exact H1⟩
  | some a =>
    obtain ⟨a0, w1, hb, run⟩ := (hC w s').2 a k c' es
    obtain ⟨σ2, w2, v2, l2, rn, rv, H2⟩ := clone_new (ty := ty) (argTypes := #[st, st]) (H.goes hb) rfl rfl hus hti hz hzs hs hlv hc hone hx hbig a0
    exact (run _ _ rn).mono fun e w' ⟨q1, q2⟩ => ⟨_, _, _, q1, ⟨rfl, rfl⟩, σ2, l2, rv, by rw [q2]; exact H2⟩
end
end Go.Ideal

end
section
/- Channels in pools: a buffer that changes. Over any program. -/
set_option linter.unusedVariables false
set_option linter.unusedSimpArgs false
namespace Go.Ideal
open Go.RowKit
variable {P : Program} {B : Nat} {w0 : Org}

end Go.Ideal

end
