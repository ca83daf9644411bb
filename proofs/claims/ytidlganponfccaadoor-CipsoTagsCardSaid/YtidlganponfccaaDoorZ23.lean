/- Texts packed together: CBuild CCip3 CBuild2 CCip4. -/
import Derived.Test.YtidlganponfccaaDoorChecked
import Derived.Tactics
import Derived.WalkKit
import Derived.Laws.Externs
import Derived.OwnWalk
import Derived.Shelf.Abstract
import Derived.Shelf.RegionOpenPlain
import Derived.Test.YtidlganponfccaaDoorZ22
section
/- strings.Builder within a writer: what its methods do to memory. -/
set_option linter.unusedVariables false
set_option linter.unusedSimpArgs false
set_option maxRecDepth 100000
namespace Go.Proofs.YtidlganponfccaaDoor
open Go Go.Ideal Go.RowKit
theorem mixedT : Tryd.prog.follows Departure.mixedOrders = true := by kernel_rfl
theorem infoB : ∃ j, Tryd.prog.info? 109 = some j ∧ j.size = 2 := by
  have h : (Tryd.prog.info? 109).map (·.size) = some 2 := by kernel_rfl
  obtain ⟨i, hi, hb⟩ := Option.map_eq_some_iff.1 h
  exact ⟨i, hi, hb⟩
set_option maxHeartbeats 1000000 in
set_option maxRecDepth 100000 in
theorem cc_used (b o : Nat) (w : World) (h0 : w.cell? ⟨b, o, none⟩ = some (.pointer (some ⟨b, o, none⟩))) :
    Calls Tryd.prog 105 #[.pointer (some ⟨b, o, none⟩)] w fun e w' => e = .returned (.tuple #[]) ∧ w' = w := by
  obtain ⟨j, hj, hjs⟩ := infoB
  go_enter Tryd.func105, Tryd.ntmps105
  go_wp2
  rw [Lib.run_neq_ptr_same w _ Tryd.underlying107 hj]
  simp only [Result.andThen]
  rw [Oper.upon_value]
  go_wp2
  go_end0
  exact ⟨rfl, rfl⟩
set_option maxHeartbeats 1000000 in
set_option maxRecDepth 100000 in
theorem cc_fresh (b o n : Nat) (e : TypeId) (w : World) (h0 : w.cell? ⟨b, o, none⟩ = some (.pointer none)) (hsh : w.shape? b = some (e, n)) (ho : o < n) (hl : liesAt Tryd.prog Tryd.prog.depth e (n / Tryd.prog.cellsOf e) o 109 1 = true) (hfz : w.frozen? ⟨b, o, none⟩ = false) :
    Calls Tryd.prog 105 #[.pointer (some ⟨b, o, none⟩)] w fun e w' => e = .returned (.tuple #[]) ∧ w' = w.setCell ⟨b, o, none⟩ (.pointer (some ⟨b, o, none⟩)) := by
  obtain ⟨j, hj, hjs⟩ := infoB
  go_enter Tryd.func105, Tryd.ntmps105
  go_wp2
  rw [Lib.run_to_unsafe w ⟨b, o, none⟩ Tryd.underlying107 Tryd.underlying156 hj (by rw [hjs]; decide) hsh ho]
  simp only [Result.andThen]
  rw [Oper.upon_value]
  go_wp2
  rw [run_callFunc_extern Tryd.func123 (by kernel_rfl) (by kernel_rfl) (by kernel_rfl) (e := Extern.AbiNoEscape.same) (by kernel_rfl)]
  rw [Lib.run_noEscape]
  simp only [Result.andThen]
  rw [Oper.upon_value]
  go_wp2
  rw [Lib.run_from_unsafe w ⟨b, o, none⟩ Tryd.underlying156 Tryd.underlying107 hj hsh hl]
  simp only [Result.andThen]
  rw [Oper.upon_value]
  go_wp2
  go_end0
  exact ⟨rfl, rfl⟩
theorem lies_writer : liesAt Tryd.prog Tryd.prog.depth 111 (3 / Tryd.prog.cellsOf 111) 1 109 1 = true := by kernel_rfl
theorem three {σ : Sg} {x a b : Value} {cc : Array Value} (h : LRel σ [x, a, b] cc.toList) : ∃ x' a' b', cc = #[x', a', b'] ∧ VRel σ x x' ∧ VRel σ a a' ∧ VRel σ b b' := by
  generalize hl : cc.toList = l at h
  cases h with
  | cons q1 t => cases t with
    | cons q2 t => cases t with
      | cons q3 t =>
        cases t
        exact ⟨_, _, _, Array.toList_inj.1 hl, q1, q2, q3⟩
theorem self_eq {σ : Sg} {i b o : Nat} (hs : σ i = some ⟨b, 0, .exact⟩) {a' : Value} (h : VRel σ (.pointer (some ⟨i, o, none⟩)) a') : a' = .pointer (some ⟨b, o, none⟩) := by
  obtain ⟨x, rfl, hx⟩ := VRel.ptr_inv h
  obtain ⟨b', o', k, g1, _, rfl⟩ := hx
  rw [hs] at g1
  simp only [Option.some.injEq, Spot.mk.injEq] at g1
  obtain ⟨rfl, rfl, rfl⟩ := g1
  simp
theorem cc_s {h : Heap} {i : Nat} {x a buf : Value} (hg : h.get i = some (.cells [x, a, buf] 111 .fix)) (ha : a = .pointer none ∨ a = .pointer (some ⟨i, 1, none⟩)) :
    CallS Tryd.prog 105 [.pointer (some ⟨i, 1, none⟩)] h fun v h' => v = .tuple #[] ∧ h' = h.set i (.cells [x, .pointer (some ⟨i, 1, none⟩), buf] 111 .fix) := fun B w0 σ w args' H hargs => by
  obtain ⟨v', rfl, hv⟩ := one_argS hargs
  obtain ⟨b, cc, fz, rfl, hB, hs, hb, hfz, hl⟩ := fix_at H hg hv
  obtain ⟨x', a', buf', rfl, hx, ha', hbuf⟩ := three hl
  have hcell : w.cell? ⟨b, 1, none⟩ = some a' := by rw [cell_of hb]; rfl
  rcases ha with rfl | rfl
  · obtain rfl : a' = .pointer none := by
      have := flat_eq rfl ha'
      exact this
    refine (cc_fresh b 1 3 111 w hcell (by simp [World.shape?, hb]) (by decide) lies_writer (by rw [frozen_of hb]; exact hfz 1 (by show 1 < 3; decide))).mono fun e w' ⟨q1, q2⟩ => ⟨_, _, _, q1, ⟨rfl, rfl⟩, σ, Sg.le_refl σ, flat_rel rfl σ, ?_⟩
    rw [q2]
    exact H.setAt (o := 1) hg hs hv
  · obtain rfl := self_eq hs ha'
    refine (cc_used b 1 w hcell).mono fun e w' ⟨q1, q2⟩ => ⟨_, _, _, q1, ⟨rfl, rfl⟩, σ, Sg.le_refl σ, flat_rel rfl σ, ?_⟩
    rw [q2]
    exact H.set_same hg
theorem info5 : ∃ ti zv, Tryd.prog.info? 5 = some ti ∧ ti.zero = some zv ∧ zv.cells.size = ti.size ∧ ti.size = 1 ∧ ti.bytes = 1 := byteInfo_of (by kernel_rfl)
/-- The world is as the heap says, for some way of reading it. -/
def Stands (B : Nat) (w0 : Org) (σ : Sg) (h : Heap) (w : World) : Prop := ∃ σ', σ.le σ' ∧ HRel Tryd.prog B w0 σ' h w
theorem cc_c {h : Heap} {i : Nat} {x a buf : Value} (hg : h.get i = some (.cells [x, a, buf] 111 .fix)) (ha : a = .pointer none ∨ a = .pointer (some ⟨i, 1, none⟩)) {B : Nat} {w0 : Org} {σ : Sg} {w : World} {b : Nat} (H : HRel Tryd.prog B w0 σ h w) (hv : VRel σ (.pointer (some ⟨i, 1, none⟩)) (.pointer (some ⟨b, 1, none⟩))) :
    Calls Tryd.prog 105 #[.pointer (some ⟨b, 1, none⟩)] w fun e w' => e = .returned (.tuple #[]) ∧ Stands B w0 σ (h.set i (.cells [x, .pointer (some ⟨i, 1, none⟩), buf] 111 .fix)) w' :=
  (cc_s hg ha B w0 σ w _ H (.cons hv .nil)).mono fun e w' ⟨v, v', h', q1, ⟨q2, q3⟩, σ', le, rv, H'⟩ => by
    subst q2; subst q3
    obtain rfl : v' = .tuple #[] := flat_eq rfl rv
    exact ⟨q1, σ', le, H'⟩
theorem u8_frel (F : Fz) (c : Int) (j : Nat) : FRel F ([Value.int .u8 c].getD j undef) ([Value.int .u8 c].getD j undef) := by
  cases j with
  | zero => exact .int _ _
  | succ j => exact FRel.undef F
theorem u105 : ∀ args w, (callFunc 105 args).run Tryd.prog w = .ok (.enter 105 args) w := enters_of Tryd.func105 (by kernel_rfl) rfl
/-- What a buffer is behind an append. -/
def Appd (B : Nat) (w0 : Org) (σ : Sg) (h : Heap) (tok m n : Nat) (os new : List Value) (v' : Value) (w' : World) : Prop :=
  ∃ σ', σ.le σ' ∧ VRel σ' (osl tok 1 ((n : Int) + (new.length : Nat)) ⟨os ++ new⟩) v' ∧ HRel Tryd.prog B w0 σ' (h.set tok (.own (m + new.length) 5)) w'
/-- What is appended to a buffer, whatever it comes from. -/
theorem app_s {B : Nat} {w0 : Org} {σ : Sg} {w : World} {h : Heap} {tok m k : Nat} {n : Nat} {os : Array Value} {buf' x' : Value} {new : List Value} {argTypes : Array TypeId} {xt ty : TypeId} (H : HRel Tryd.prog B w0 σ h w)
    (h0 : argTypes[0]? = some 94) (h1 : argTypes[1]? = some xt) (hux : (∃ e, Tryd.prog.underlying xt = some (.slice e)) ∨ Tryd.prog.underlying xt = some .string) (hg : h.get tok = some (.own m 5)) (hb : VRel σ (osl tok 1 n os) buf') (hos : os.size = m)
    (hlen : ∀ w, (Builtin.lenOf x').run Tryd.prog w = .ok k w) (hnk : n + k ≤ 549755813888) (hnew : ∀ d, (Builtin.firstCells 1 k x').run Tryd.prog { w with drawn := d } = .ok new.toArray { w with drawn := d }) (hrel : ∀ j : Nat, FRel σ.f (new.getD j undef) (new.getD j undef)) (hln : new.length = k) (hone : new.all Go.Ideal.oneCell = true) :
    ∃ v' w', (Builtin.append_ argTypes ty #[buf', x']).run Tryd.prog w = .ok v' w' ∧ Appd B w0 σ h tok m n os.toList new v' w' := by
  obtain ⟨ti, zv, i1, i2, i3, i4, i5⟩ := info5
  have hb' : VRel σ (osl tok ti.size n os) buf' := by rw [i4]; exact hb
  obtain ⟨σ', w', v', k1, k2, k3, k4⟩ := own_append (ty := ty) (t := 5) H h0 h1 Tryd.underlying94 hux i1 i2 i3 (by omega) rfl hg hb' hos hlen (by rw [i5]; omega) (by rw [i4]; exact hnew) hrel (by rw [i4]; omega) (by rw [i4]; omega) hone
  refine ⟨v', w', k2, σ', k1, ?_, k4⟩
  have e : os ++ new.toArray = ⟨os.toList ++ new⟩ := Array.toList_inj.1 (by simp)
  rw [e, i4] at k3
  rw [hln]
  exact_mod_cast k3
set_option maxHeartbeats 2000000 in
set_option maxRecDepth 100000 in
theorem wbyte1 {h : Heap} {i tok m : Nat} {n : Nat} {os : Array Value} {c : Int} {x a : Value} (hg : h.get i = some (.cells [x, a, osl tok 1 n os] 111 .fix)) (ha : a = .pointer none ∨ a = .pointer (some ⟨i, 1, none⟩)) (ht : h.get tok = some (.own m 5)) (hos : os.size = m) (hn : n + 1 ≤ 549755813888) :
    CallS Tryd.prog 121 [.pointer (some ⟨i, 1, none⟩), .int .u8 c] h fun v h' => v = .nilIface ∧ addH i [.int .u8 c] h = some h' := fun B w0 σ w args' H hargs => by
  obtain ⟨v', c', rfl, hv, hc⟩ : ∃ v' c', args' = #[v', c'] ∧ VRel σ (.pointer (some ⟨i, 1, none⟩)) v' ∧ VRel σ (.int .u8 c) c' := by
    generalize hl : args'.toList = l at hargs
    cases hargs with
    | cons q t => cases t with
      | cons q2 t2 => cases t2; exact ⟨_, _, Array.toList_inj.1 hl, q, q2⟩
  obtain rfl : c' = .int .u8 c := flat_eq rfl hc
  obtain ⟨b, cc, fz, rfl, hB, hs, hb, hfz, hl⟩ := fix_at H hg hv
  have hit : i ≠ tok := fun e => by subst e; rw [hg] at ht; cases ht
  go_enter Tryd.func121, Tryd.ntmps121
  have e105 := u105
  go_wp2_with (go_at_call 105; refine (cc_c hg ha H hv).mono ?_)
  intro e w1 he hS
  subst he
  obtain ⟨σ1, le1, H1⟩ := hS
  have hv1 := hv.mono le1
  have hg1 : (h.set i (.cells [x, .pointer (some ⟨i, 1, none⟩), osl tok 1 n os] 111 .fix)).get i = some (.cells [x, .pointer (some ⟨i, 1, none⟩), osl tok 1 n os] 111 .fix) := by rw [Heap.get_set (Heap.lt_of_get hg), if_pos rfl]
  have ht1 : (h.set i (.cells [x, .pointer (some ⟨i, 1, none⟩), osl tok 1 n os] 111 .fix)).get tok = some (.own m 5) := by rw [Heap.get_set (Heap.lt_of_get hg), if_neg (Ne.symm hit)]; exact ht
  obtain ⟨b1, cc1, fz1, eb, hB1, hs1, hb1, hfz1, hl1⟩ := fix_at H1 hg1 hv1
  simp only [Value.pointer.injEq, Option.some.injEq, Addr.mk.injEq, and_true] at eb
  subst eb
  obtain ⟨x', a', buf', rfl, hx, ha', hbuf⟩ := three hl1
  have c2 : w1.cell? ⟨b, 2, none⟩ = some buf' := by rw [cell_of hb1]; rfl
  go_wp2_with (at_builtin; refine wpList_appendS rfl _ _ _ rfl (app_s (x' := .slice (some ⟨w1.heap.size, 0, none⟩) 1 1) (new := [.int .u8 c]) (ty := 94) (H1.bigger (.cells #[.int .u8 c] 5)) rfl rfl (.inl ⟨_, Tryd.underlying94⟩) ht1 hbuf hos (fun w => rfl) hn (fun d => first_one byte_cell) (fun j => u8_frel _ _ j) rfl rfl) ?_)
  intro v2 w2 ⟨σ2, le2, hb2, H2⟩
  have hg2 : ((h.set i (.cells [x, .pointer (some ⟨i, 1, none⟩), osl tok 1 n os] 111 .fix)).set tok (.own (m + [Value.int .u8 c].length) 5)).get i = some (.cells [x, .pointer (some ⟨i, 1, none⟩), osl tok 1 n os] 111 .fix) := by
    rw [Heap.get_set (Heap.lt_of_get ht1), if_neg hit]; exact hg1
  obtain ⟨b2, cc2, fz2, eb2, hB2, hs2, hbk2, hfz2, hl2⟩ := fix_at H2 hg2 (hv1.mono le2)
  simp only [Value.pointer.injEq, Option.some.injEq, Addr.mk.injEq, and_true] at eb2
  subst eb2
  obtain ⟨x2, a2, buf2, rfl, hx2, ha2, hbuf2⟩ := three hl2
  have d2 : w2.cell? ⟨b, 2, none⟩ = some buf2 := by rw [cell_of hbk2]; rfl
  have f2 : w2.frozen? ⟨b, 2, none⟩ = false := by rw [frozen_of hbk2]; exact hfz2 2 (by show 2 < 3; decide)
  obtain ⟨base, sl, cp, rfl⟩ := os_slice hb2
  go_wp2
  go_ret
  refine ⟨.nilIface, .nilIface, rfl, _, ⟨rfl, ?_⟩, σ2, Sg.le_trans le1 le2, .nilIface, H2.setAt (o := 2) hg2 hs2 hb2⟩
  unfold addH
  rw [hg]
  simp [asOs_osl, ht]
set_option maxHeartbeats 2000000 in
set_option maxRecDepth 100000 in
theorem wstr1 {h : Heap} {i tok m : Nat} {n : Nat} {os : Array Value} {s : ByteArray} {x a : Value} (hg : h.get i = some (.cells [x, a, osl tok 1 n os] 111 .fix)) (ha : a = .pointer none ∨ a = .pointer (some ⟨i, 1, none⟩)) (ht : h.get tok = some (.own m 5)) (hos : os.size = m) (hn : n + s.data.toList.length ≤ 549755813888) :
    CallS Tryd.prog 85 [.pointer (some ⟨i, 1, none⟩), .string s] h fun v h' => v = .tuple #[.int .i64 s.size, .nilIface] ∧ addH i (u8s s.data.toList) h = some h' := fun B w0 σ w args' H hargs => by
  obtain ⟨v', c', rfl, hv, hc⟩ : ∃ v' c', args' = #[v', c'] ∧ VRel σ (.pointer (some ⟨i, 1, none⟩)) v' ∧ VRel σ (.string s) c' := by
    generalize hl : args'.toList = l at hargs
    cases hargs with
    | cons q t => cases t with
      | cons q2 t2 => cases t2; exact ⟨_, _, Array.toList_inj.1 hl, q, q2⟩
  obtain rfl : c' = .string s := flat_eq rfl hc
  obtain ⟨b, cc, fz, rfl, hB, hs, hb, hfz, hl⟩ := fix_at H hg hv
  have hit : i ≠ tok := fun e => by subst e; rw [hg] at ht; cases ht
  go_enter Tryd.func85, Tryd.ntmps85
  have e105 := u105
  go_wp2_with (go_at_call 105; refine (cc_c hg ha H hv).mono ?_)
  intro e w1 he hS
  subst he
  obtain ⟨σ1, le1, H1⟩ := hS
  have hv1 := hv.mono le1
  have hg1 : (h.set i (.cells [x, .pointer (some ⟨i, 1, none⟩), osl tok 1 n os] 111 .fix)).get i = some (.cells [x, .pointer (some ⟨i, 1, none⟩), osl tok 1 n os] 111 .fix) := by rw [Heap.get_set (Heap.lt_of_get hg), if_pos rfl]
  have ht1 : (h.set i (.cells [x, .pointer (some ⟨i, 1, none⟩), osl tok 1 n os] 111 .fix)).get tok = some (.own m 5) := by rw [Heap.get_set (Heap.lt_of_get hg), if_neg (Ne.symm hit)]; exact ht
  obtain ⟨b1, cc1, fz1, eb, hB1, hs1, hb1, hfz1, hl1⟩ := fix_at H1 hg1 hv1
  simp only [Value.pointer.injEq, Option.some.injEq, Addr.mk.injEq, and_true] at eb
  subst eb
  obtain ⟨x', a', buf', rfl, hx, ha', hbuf⟩ := three hl1
  have c2 : w1.cell? ⟨b, 2, none⟩ = some buf' := by rw [cell_of hb1]; rfl
  go_wp2_with (at_builtin; refine wpList_appendS rfl _ _ _ rfl (app_s (x' := .string s) (k := s.data.toList.length) (new := u8s s.data.toList) (ty := 94) H1 rfl rfl (.inr Tryd.underlying9) ht1 hbuf hos len_str hn (fun d => first_str) (fun j => u8s_frel _ _ j) (u8s_length _) (u8s_one _)) ?_)
  intro v2 w2 ⟨σ2, le2, hb2, H2⟩
  have hg2 : ((h.set i (.cells [x, .pointer (some ⟨i, 1, none⟩), osl tok 1 n os] 111 .fix)).set tok (.own (m + (u8s s.data.toList).length) 5)).get i = some (.cells [x, .pointer (some ⟨i, 1, none⟩), osl tok 1 n os] 111 .fix) := by
    rw [Heap.get_set (Heap.lt_of_get ht1), if_neg hit]; exact hg1
  obtain ⟨b2, cc2, fz2, eb2, hB2, hs2, hbk2, hfz2, hl2⟩ := fix_at H2 hg2 (hv1.mono le2)
  simp only [Value.pointer.injEq, Option.some.injEq, Addr.mk.injEq, and_true] at eb2
  subst eb2
  obtain ⟨x2, a2, buf2, rfl, hx2, ha2, hbuf2⟩ := three hl2
  have d2 : w2.cell? ⟨b, 2, none⟩ = some buf2 := by rw [cell_of hbk2]; rfl
  have f2 : w2.frozen? ⟨b, 2, none⟩ = false := by rw [frozen_of hbk2]; exact hfz2 2 (by show 2 < 3; decide)
  obtain ⟨base, sl, cp, rfl⟩ := os_slice hb2
  go_wp2
  go_ret2
  refine ⟨.tuple #[.int .i64 s.size, .nilIface], .tuple #[.int .i64 s.size, .nilIface], rfl, _, ⟨rfl, ?_⟩, σ2, Sg.le_trans le1 le2, flat_rel rfl _, H2.setAt (o := 2) hg2 hs2 hb2⟩
  unfold addH
  rw [hg]
  simp [asOs_osl, ht]
set_option maxHeartbeats 2000000 in
set_option maxRecDepth 100000 in
theorem str_some (b g cap sz : Nat) (l : List UInt8) (w : World) (h0 : l ≠ []) (hcap : l.length ≤ cap) (hsz : cap ≤ sz) (hn : l.length ≤ 549755813888) (c1 : w.drew.cell? ⟨b, 2, none⟩ = some (.slice (some ⟨g, 0, none⟩) l.length cap)) (hsh : w.drew.shape? g = some (5, sz)) (hcell : ∀ j x, l[j]? = some x → w.drew.cell? ((⟨g, 0, none⟩ : Addr).add j) = some (.int .u8 x.toNat)) :
    Calls Tryd.prog 86 #[.pointer (some ⟨b, 1, none⟩)] w fun e w' => e = .returned (.string ⟨l.toArray⟩) ∧ w' = w.drew.freeze ⟨g, 0, none⟩ l.length := by
  have hl0 : l.length ≠ 0 := by simpa using h0
  have hSD : (Builtin.unsafeSliceData_ #[94] 137 #[.slice (some ⟨g, 0, none⟩) l.length cap]).run Tryd.prog w.drew = .ok (.pointer (some ⟨g, 0, none⟩)) w.drew :=
    Lib.run_unsafeSliceData_row _ _ _ _ _ _ (by omega)
  have hUS : (Builtin.unsafeString_ #[137, 3] 9 #[.pointer (some ⟨g, 0, none⟩), .int .i64 l.length]).run Tryd.prog w.drew = .ok (.string ⟨l.toArray⟩) (w.drew.freeze ⟨g, 0, none⟩ l.length) :=
    Lib.run_unsafeString_row w.drew 137 3 9 5 Tryd.underlying137 (by kernel_rfl) g sz hsh l h0 (by omega) (by omega) hcell
  go_enter Tryd.func86, Tryd.ntmps86
  have mixed := mixedT
  go_wp2
  go_region_o
  all_goals (go_wp2; go_ret; exact ⟨rfl, rfl⟩)
set_option maxHeartbeats 2000000 in
set_option maxRecDepth 100000 in
theorem str_none (b : Nat) (w : World) (c1 : w.drew.cell? ⟨b, 2, none⟩ = some (.slice none 0 0)) :
    Calls Tryd.prog 86 #[.pointer (some ⟨b, 1, none⟩)] w fun e w' => e = .returned (.string ⟨#[]⟩) ∧ w' = w.drew := by
  have hSD : (Builtin.unsafeSliceData_ #[94] 137 #[.slice none 0 0]).run Tryd.prog w.drew = .ok (.pointer none) w.drew := rfl
  have hUS : (Builtin.unsafeString_ #[137, 3] 9 #[.pointer none, .int .i64 0]).run Tryd.prog w.drew = .ok (.string .empty) w.drew := Lib.run_unsafeString_none w.drew _ _ _ none
  go_enter Tryd.func86, Tryd.ntmps86
  have mixed := mixedT
  go_wp2
  go_region_o
  all_goals (go_wp2; go_ret; exact ⟨rfl, rfl⟩)
theorem str_s {h : Heap} {i tok m : Nat} {n : Nat} {l : List UInt8} {x a : Value} (hg : h.get i = some (.cells [x, a, osl tok 1 n ⟨u8s l⟩] 111 .fix)) (ht : h.get tok = some (.own m 5)) (hm : m = l.length) (hn : n = l.length) (hl : l.length ≤ 549755813888) :
    CallS Tryd.prog 86 [.pointer (some ⟨i, 1, none⟩)] h fun v h' => v = .string ⟨l.toArray⟩ ∧ h' = h.set tok (.cells [] 0 .dead) := fun B w0 σ w args' H hargs => by
  obtain ⟨v', rfl, hv⟩ := one_argS hargs
  obtain ⟨b, cc, fz, rfl, hB, hs, hb, hfz, hll⟩ := fix_at H hg hv
  obtain ⟨x', a', buf', rfl, hx, ha', hbuf⟩ := three hll
  have c1 : w.drew.cell? ⟨b, 2, none⟩ = some buf' := by
    have : w.drew.heap[b]? = some (.cells #[x', a', buf'] 111 fz) := hb
    rw [cell_of this]; rfl
  by_cases h0 : l = []
  · subst h0
    obtain rfl : buf' = .slice none 0 0 := by
      obtain rfl : n = 0 := hn
      exact os_empty hbuf
    refine (str_none b w c1).mono fun e w' ⟨q1, q2⟩ => ⟨_, _, _, q1, ⟨rfl, rfl⟩, σ, Sg.le_refl σ, flat_rel rfl σ, ?_⟩
    rw [q2]
    exact (H.drew).die ht
  · obtain ⟨g, cap, cc2, fz2, rfl, hBg, hloc, hgb, hnc, hcs, hcell⟩ := cells_u8 H hbuf hn h0 ht hm
    have hgb2 : w.drew.heap[g]? = some (.cells cc2 5 fz2) := hgb
    refine (str_some b g cap cc2.size l w h0 hnc hcs hl c1 (by simp [World.shape?, hgb2]) (fun j x hj => ?_)).mono fun e w' ⟨q1, q2⟩ => ⟨_, _, _, q1, ⟨rfl, rfl⟩, σ, Sg.le_refl σ, flat_rel rfl σ, ?_⟩
    · rw [Addr.add_none, cell_of hgb2, Nat.zero_add]
      exact hcell j x hj
    · rw [q2]
      exact (H.drew).freeze ht hloc hBg hgb2
/-! ### as what they do to a heap -/
theorem addH_osl {h : Heap} {i : Nat} {x a : Value} {tok es m : Nat} {n : Int} {os : Array Value} {t u : TypeId} {new : List Value} (hg : h.get i = some (.cells [x, a, osl tok es n os] t .fix)) (ht : h.get tok = some (.own m u)) : bufH u i h = h := by
  unfold bufH
  rw [hg]
  rfl
theorem bufH_get {h : Heap} {i : Nat} {x a : Value} {t u : TypeId} (hg : h.get i = some (.cells [x, a, .slice none 0 0] t .fix)) : (bufH u i h).get i = some (.cells [x, a, osl h.next 1 0 #[]] t .fix) ∧ (bufH u i h).get h.next = some (.own 0 u) := by
  unfold bufH
  rw [hg]
  have hlt := Heap.lt_of_get hg
  refine ⟨?_, ?_⟩
  · show (Heap.push _ _).get i = _
    rw [Heap.get_push, Heap.next_set, if_neg (by omega), Heap.get_set hlt, if_pos rfl]
  · show (Heap.push _ _).get _ = _
    rw [Heap.get_push, Heap.next_set, if_pos rfl]
theorem wbyte_o {h h2 : Heap} {v : Value} {i tok m : Nat} {n c : Int} {os : Array Value} {x a : Value} (hg : h.get i = some (.cells [x, a, osl tok 1 n os] 111 .fix)) (ha : a = .pointer none ∨ a = .pointer (some ⟨i, 1, none⟩)) (ht : h.get tok = some (.own m 5)) (hos : os.size = m) (hn : n = (os.size : Nat)) (hb : os.size + 1 ≤ 549755813888)
    (e : wbyteH 5 [.pointer (some ⟨i, 1, none⟩), .int .u8 c] h = some (v, h2)) : CallS Tryd.prog 121 [.pointer (some ⟨i, 1, none⟩), .int .u8 c] h fun v1 h1 => v1 = v ∧ h1 = h2 := by
  subst hn
  simp only [wbyteH, addH_osl (new := []) hg ht] at e
  refine (wbyte1 hg ha ht hos hb).mono fun v1 h1 ⟨q1, q2⟩ => ?_
  rw [q2] at e
  simp only [Option.some.injEq, Prod.mk.injEq] at e
  exact ⟨by rw [q1, e.1], e.2⟩
theorem wbyte_n {h h2 : Heap} {v : Value} {i : Nat} {c : Int} {x a : Value} (hg : h.get i = some (.cells [x, a, .slice none 0 0] 111 .fix)) (ha : a = .pointer none ∨ a = .pointer (some ⟨i, 1, none⟩))
    (e : wbyteH 5 [.pointer (some ⟨i, 1, none⟩), .int .u8 c] h = some (v, h2)) : CallS Tryd.prog 121 [.pointer (some ⟨i, 1, none⟩), .int .u8 c] h fun v1 h1 => v1 = v ∧ h1 = h2 := by
  obtain ⟨g1, g2⟩ := bufH_get (u := 5) hg
  refine CallS.weak (bufH_weak hg) ((wbyte1 (n := 0) g1 ha g2 rfl (by decide)).mono fun v1 h1 ⟨q1, q2⟩ => ?_)
  simp only [wbyteH, q2, Option.some.injEq, Prod.mk.injEq] at e
  exact ⟨by rw [q1, e.1], e.2⟩
theorem wstr_o {h h2 : Heap} {v : Value} {i tok m : Nat} {n : Int} {s : ByteArray} {os : Array Value} {x a : Value} (hg : h.get i = some (.cells [x, a, osl tok 1 n os] 111 .fix)) (ha : a = .pointer none ∨ a = .pointer (some ⟨i, 1, none⟩)) (ht : h.get tok = some (.own m 5)) (hos : os.size = m) (hn : n = (os.size : Nat)) (hb : os.size + s.data.toList.length ≤ 549755813888)
    (e : wstrH 5 [.pointer (some ⟨i, 1, none⟩), .string s] h = some (v, h2)) : CallS Tryd.prog 85 [.pointer (some ⟨i, 1, none⟩), .string s] h fun v1 h1 => v1 = v ∧ h1 = h2 := by
  subst hn
  simp only [wstrH, addH_osl (new := []) hg ht] at e
  refine (wstr1 hg ha ht hos hb).mono fun v1 h1 ⟨q1, q2⟩ => ?_
  rw [q2] at e
  simp only [Option.some.injEq, Prod.mk.injEq] at e
  exact ⟨by rw [q1, e.1], e.2⟩
theorem wstr_n {h h2 : Heap} {v : Value} {i : Nat} {s : ByteArray} {x a : Value} (hg : h.get i = some (.cells [x, a, .slice none 0 0] 111 .fix)) (ha : a = .pointer none ∨ a = .pointer (some ⟨i, 1, none⟩)) (hb : s.data.toList.length ≤ 549755813888)
    (e : wstrH 5 [.pointer (some ⟨i, 1, none⟩), .string s] h = some (v, h2)) : CallS Tryd.prog 85 [.pointer (some ⟨i, 1, none⟩), .string s] h fun v1 h1 => v1 = v ∧ h1 = h2 := by
  obtain ⟨g1, g2⟩ := bufH_get (u := 5) hg
  refine CallS.weak (bufH_weak hg) ((wstr1 (n := 0) g1 ha g2 rfl (by omega)).mono fun v1 h1 ⟨q1, q2⟩ => ?_)
  simp only [wstrH, q2, Option.some.injEq, Prod.mk.injEq] at e
  exact ⟨by rw [q1, e.1], e.2⟩
theorem str_o {h h2 : Heap} {v : Value} {i tok m : Nat} {n : Int} {l : List UInt8} {os : Array Value} {x a : Value} (hg : h.get i = some (.cells [x, a, osl tok 1 n os] 111 .fix)) (ht : h.get tok = some (.own m 5)) (hl : os.toList = u8s l) (hos : os.size = m) (hn : n = (os.size : Nat)) (hb : os.size ≤ 549755813888)
    (e : strH [.pointer (some ⟨i, 1, none⟩)] h = some (v, h2)) : CallS Tryd.prog 86 [.pointer (some ⟨i, 1, none⟩)] h fun v1 h1 => v1 = v ∧ h1 = h2 := by
  obtain rfl : os = ⟨u8s l⟩ := Array.toList_inj.1 hl
  have hsz : (⟨u8s l⟩ : Array Value).size = l.length := u8s_length l
  rw [hsz] at hos hn hb
  subst hn
  have e2 : strH [.pointer (some ⟨i, 1, none⟩)] h = some (.string ⟨l.toArray⟩, h.set tok (.cells [] 0 .dead)) := by
    simp only [strH, hg, asOs_osl, strOf_u8s]
    split
    · rename_i h3
      simp [osl] at h3
    · rename_i h3
      simp only [Option.some.injEq, Blk.cells.injEq, List.cons.injEq] at h3
      obtain ⟨⟨_, _, rfl, _⟩, _⟩ := h3
      simp [asOs_osl, strOf_u8s]
    · simp_all
      rename_i h4
      exact h4 _ _ _ _ rfl rfl rfl rfl
  rw [e2] at e
  simp only [Option.some.injEq, Prod.mk.injEq] at e
  refine (str_s hg ht hos.symm rfl hb).mono fun v1 h1 ⟨q1, q2⟩ => ⟨by rw [q1, e.1], by rw [q2, e.2]⟩
end Go.Proofs.YtidlganponfccaaDoor

end
section
/- A tag's categories as bytes, by each type. -/
set_option linter.unusedVariables false
set_option linter.unusedSimpArgs false
set_option maxRecDepth 100000
namespace Go.Proofs.YtidlganponfccaaDoor
open Go Go.Ideal
def adrV (i : Nat) : Nat → Value
  | 0 => .pointer none
  | _ + 1 => .pointer (some ⟨i, 1, none⟩)
theorem adrV_or (i k : Nat) : adrV i k = .pointer none ∨ adrV i k = .pointer (some ⟨i, 1, none⟩) := by
  cases k
  · exact .inl rfl
  · exact .inr rfl
theorem osl_eq {tok es : Nat} {n n' : Int} {cs cs' : List Value} (hn : n = n') (hc : cs = cs') : osl tok es n ⟨cs⟩ = osl tok es n' ⟨cs'⟩ := by
  subst hn
  subst hc
  rfl
theorem wrap8 (n : Int) : IntKind.u8.wrap n = n % 256 := by
  simp only [IntKind.wrap]
  simp [IntKind.signed, show (2 : Int) ^ IntKind.u8.bits = 256 from rfl]
theorem b8_nat (n : Int) : ((b8 n).toNat : Int) = IntKind.u8.wrap n := by
  unfold b8
  rw [wrap8]
  have : (n % 256).toNat < 256 := by omega
  simp
  omega
theorem short_cells {n : Int} (h0 : 0 ≤ n) : [Value.int .u8 (IntKind.u8.wrap (Int.fdiv n (2 ^ min (Int.toNat 8) (IntKind.bits .i64)))), Value.int .u8 (IntKind.u8.wrap (Int.fdiv n (2 ^ min (Int.toNat 0) (IntKind.bits .i64))))] = u8s (shortB n) := by
  have e1 : (2 : Int) ^ min (Int.toNat 8) (IntKind.bits .i64) = 256 := rfl
  have e2 : (2 : Int) ^ min (Int.toNat 0) (IntKind.bits .i64) = 1 := rfl
  have e3 : n.fdiv 256 = n / 256 := Int.fdiv_eq_ediv_of_nonneg n (by omega)
  have e4 : n.fdiv 1 = n := by simp
  have e5 : n.tdiv 256 = n / 256 := Int.tdiv_eq_ediv_of_nonneg h0
  have e6 : n.tmod 256 = n % 256 := Int.tmod_eq_emod_of_nonneg h0
  rw [e1, e2, e3, e4]
  unfold shortB u8s
  simp only [List.map_cons, List.map_nil, b8_nat, e5, e6, wrap8]
  rw [Int.emod_emod_of_dvd n (by decide)]
theorem u8s_len {l : Bs} {n : Nat} (h : l.length = n) : (Array.mk (u8s l)).size = n := (u8s_length l).trans h
theorem cat2 {X Y S : List Value} {A B : Value} (sc : [A, B] = S) (ht : Y = X ++ S) : X ++ [A] ++ [B] = Y := by
  rw [ht, ← sc]
  simp
theorem cat4 {X Y S T : List Value} {A B C D : Value} (sc : [A, B] = S) (sd : [C, D] = T) (ht : Y = X ++ (S ++ T)) : X ++ [A] ++ [B] ++ [C] ++ [D] = Y := by
  rw [ht, ← sc, ← sd]
  simp
theorem str_bs (l : Bs) : strOf (Array.toList (Array.mk (u8s l))) = bs l := strOf_u8s l
theorem trimC_w (c : List Int) : CallK Tryd.prog 95 [.string (ByteArray.mk (Array.mk [UInt8.ofNat (Int.toNat (c.getD 0 0)), UInt8.ofNat (Int.toNat (c.getD 1 0)), UInt8.ofNat (Int.toNat (c.getD 2 0)), UInt8.ofNat (Int.toNat (c.getD 3 0)), UInt8.ofNat (Int.toNat (c.getD 4 0)), UInt8.ofNat (Int.toNat (c.getD 5 0)), UInt8.ofNat (Int.toNat (c.getD 6 0)), UInt8.ofNat (Int.toNat (c.getD 7 0)), UInt8.ofNat (Int.toNat (c.getD 8 0)), UInt8.ofNat (Int.toNat (c.getD 9 0)), UInt8.ofNat (Int.toNat (c.getD 10 0)), UInt8.ofNat (Int.toNat (c.getD 11 0)), UInt8.ofNat (Int.toNat (c.getD 12 0)), UInt8.ofNat (Int.toNat (c.getD 13 0)), UInt8.ofNat (Int.toNat (c.getD 14 0)), UInt8.ofNat (Int.toNat (c.getD 15 0)), UInt8.ofNat (Int.toNat (c.getD 16 0)), UInt8.ofNat (Int.toNat (c.getD 17 0)), UInt8.ofNat (Int.toNat (c.getD 18 0)), UInt8.ofNat (Int.toNat (c.getD 19 0)), UInt8.ofNat (Int.toNat (c.getD 20 0)), UInt8.ofNat (Int.toNat (c.getD 21 0)), UInt8.ofNat (Int.toNat (c.getD 22 0)), UInt8.ofNat (Int.toNat (c.getD 23 0)), UInt8.ofNat (Int.toNat (c.getD 24 0)), UInt8.ofNat (Int.toNat (c.getD 25 0)), UInt8.ofNat (Int.toNat (c.getD 26 0)), UInt8.ofNat (Int.toNat (c.getD 27 0)), UInt8.ofNat (Int.toNat (c.getD 28 0)), UInt8.ofNat (Int.toNat (c.getD 29 0))])), .string (ByteArray.mk #[0])] (.string (bs (bmpS c))) := trimR_w (bytesC c) (by rw [bytesC_len]; omega)
def body1_w_k0 (c : List Int) := (Trie.node none (Trie.node (some (Blk.cells [Value.bool false, Value.pointer (some (Addr.mk (nat_lit 9) (nat_lit 1) none)), Value.iface (nat_lit 1000003) (Value.tuple (Array.mk [Value.int IntKind.i64 (11 : Int), Value.int IntKind.i64 (1 : Int), Value.int IntKind.i64 ((0 : Int) + (↑(List.length (u8s (Array.toList (ByteArray.data (bs (bmpS c)))))) : Int)), Value.agg (Array.mk (Array.toList #[] ++ u8s (Array.toList (ByteArray.data (bs (bmpS c))))))]))] (nat_lit 111) Mode.fix)) Trie.leaf Trie.leaf) Trie.leaf)
def body1_w_k1 (c : List Int) := (Trie.node none (Trie.node none (Trie.node (some (Blk.cells (catsL c) (nat_lit 23) Mode.fix)) Trie.leaf Trie.leaf) Trie.leaf) (Trie.node none (Trie.node (some (Blk.cells [Value.string (bs (bmpS c))] (nat_lit 9) Mode.fix)) Trie.leaf Trie.leaf) Trie.leaf))
theorem body1_w (c : List Int) : CallK Tryd.prog 70 [.int .i64 1, catsV c] (.tuple (Array.mk [.string (bs (bmpS c)), .bool true])) := CallK.via progOK (pfs []) [] 100 (Adv.pur (20 : Nat) (Value.string (bs (bmpS c))) (Adv.ctr (63 : Nat) (Value.tuple (Array.mk [Value.int IntKind.i64 (↑(ByteArray.size (bs (bmpS c))) : Int), Value.nilIface])) (Heap.mk (nat_lit 12) (Trie.node none (Trie.node none (Trie.node none Trie.leaf (Trie.node (some (Blk.own ((0 : Nat) + List.length (u8s (Array.toList (ByteArray.data (bs (bmpS c)))))) (nat_lit 5))) Trie.leaf Trie.leaf)) (body1_w_k0 c)) (body1_w_k1 c))) (Adv.put (115 : Nat) (Value.bool false) (Adv.ctr (122 : Nat) (Value.string (strOf (Array.toList (Array.mk (Array.toList #[] ++ u8s (Array.toList (ByteArray.data (bs (bmpS c))))))))) (Heap.mk (nat_lit 12) (Trie.node none (Trie.node none (Trie.node none Trie.leaf (Trie.node (some (Blk.cells [] (nat_lit 0) Mode.dead)) Trie.leaf Trie.leaf)) (body1_w_k0 c)) (body1_w_k1 c))) Adv.nil)))) (by kernel_rfl) (by kernel_rfl) (p := CallK Tryd.prog (nat_lit 95) [Value.string (ByteArray.mk (List.toArray ((fun (x : List UInt8) => UInt8.ofNat (Int.toNat (List.getD c (0 : Nat) (0 : Int))) :: x) ((fun (x : List UInt8) => UInt8.ofNat (Int.toNat (List.getD c (1 : Nat) (0 : Int))) :: x) ((fun (x : List UInt8) => UInt8.ofNat (Int.toNat (List.getD c (2 : Nat) (0 : Int))) :: x) ((fun (x : List UInt8) => UInt8.ofNat (Int.toNat (List.getD c (3 : Nat) (0 : Int))) :: x) ((fun (x : List UInt8) => UInt8.ofNat (Int.toNat (List.getD c (4 : Nat) (0 : Int))) :: x) ((fun (x : List UInt8) => UInt8.ofNat (Int.toNat (List.getD c (5 : Nat) (0 : Int))) :: x) ((fun (x : List UInt8) => UInt8.ofNat (Int.toNat (List.getD c (6 : Nat) (0 : Int))) :: x) ((fun (x : List UInt8) => UInt8.ofNat (Int.toNat (List.getD c (7 : Nat) (0 : Int))) :: x) ((fun (x : List UInt8) => UInt8.ofNat (Int.toNat (List.getD c (8 : Nat) (0 : Int))) :: x) ((fun (x : List UInt8) => UInt8.ofNat (Int.toNat (List.getD c (9 : Nat) (0 : Int))) :: x) ((fun (x : List UInt8) => UInt8.ofNat (Int.toNat (List.getD c (10 : Nat) (0 : Int))) :: x) ((fun (x : List UInt8) => UInt8.ofNat (Int.toNat (List.getD c (11 : Nat) (0 : Int))) :: x) ((fun (x : List UInt8) => UInt8.ofNat (Int.toNat (List.getD c (12 : Nat) (0 : Int))) :: x) ((fun (x : List UInt8) => UInt8.ofNat (Int.toNat (List.getD c (13 : Nat) (0 : Int))) :: x) ((fun (x : List UInt8) => UInt8.ofNat (Int.toNat (List.getD c (14 : Nat) (0 : Int))) :: x) ((fun (x : List UInt8) => UInt8.ofNat (Int.toNat (List.getD c (15 : Nat) (0 : Int))) :: x) ((fun (x : List UInt8) => UInt8.ofNat (Int.toNat (List.getD c (16 : Nat) (0 : Int))) :: x) ((fun (x : List UInt8) => UInt8.ofNat (Int.toNat (List.getD c (17 : Nat) (0 : Int))) :: x) ((fun (x : List UInt8) => UInt8.ofNat (Int.toNat (List.getD c (18 : Nat) (0 : Int))) :: x) ((fun (x : List UInt8) => UInt8.ofNat (Int.toNat (List.getD c (19 : Nat) (0 : Int))) :: x) ((fun (x : List UInt8) => UInt8.ofNat (Int.toNat (List.getD c (20 : Nat) (0 : Int))) :: x) ((fun (x : List UInt8) => UInt8.ofNat (Int.toNat (List.getD c (21 : Nat) (0 : Int))) :: x) ((fun (x : List UInt8) => UInt8.ofNat (Int.toNat (List.getD c (22 : Nat) (0 : Int))) :: x) ((fun (x : List UInt8) => UInt8.ofNat (Int.toNat (List.getD c (23 : Nat) (0 : Int))) :: x) ((fun (x : List UInt8) => UInt8.ofNat (Int.toNat (List.getD c (24 : Nat) (0 : Int))) :: x) ((fun (x : List UInt8) => UInt8.ofNat (Int.toNat (List.getD c (25 : Nat) (0 : Int))) :: x) ((fun (x : List UInt8) => UInt8.ofNat (Int.toNat (List.getD c (26 : Nat) (0 : Int))) :: x) ((fun (x : List UInt8) => UInt8.ofNat (Int.toNat (List.getD c (27 : Nat) (0 : Int))) :: x) ((fun (x : List UInt8) => UInt8.ofNat (Int.toNat (List.getD c (28 : Nat) (0 : Int))) :: x) ((fun (x : List UInt8) => UInt8.ofNat (Int.toNat (List.getD c (29 : Nat) (0 : Int))) :: x) [])))))))))))))))))))))))))))))))), Value.string (ByteArray.mk #[(0 : UInt8)])] (Value.string (bs (bmpS c))) ∧ (CallS Tryd.prog (nat_lit 85) [Value.pointer (some (Addr.mk (nat_lit 9) (nat_lit 1) none)), Value.string (bs (bmpS c))] (Heap.mk (nat_lit 11) (Trie.node none (Trie.node none Trie.leaf (Trie.node none (Trie.node (some (Blk.cells [Value.bool false, Value.pointer none, Value.slice none (nat_lit 0) (nat_lit 0)] (nat_lit 111) Mode.fix)) Trie.leaf Trie.leaf) Trie.leaf)) (body1_w_k1 c))) fun (v1 : Value) (h1 : Heap) => v1 = Value.tuple (Array.mk [Value.int IntKind.i64 (↑(ByteArray.size (bs (bmpS c))) : Int), Value.nilIface]) ∧ h1 = Heap.mk (nat_lit 12) (Trie.node none (Trie.node none (Trie.node none Trie.leaf (Trie.node (some (Blk.own ((0 : Nat) + List.length (u8s (Array.toList (ByteArray.data (bs (bmpS c)))))) (nat_lit 5))) Trie.leaf Trie.leaf)) (body1_w_k0 c)) (body1_w_k1 c))) ∧ Value.bool (decide ((0 : Int) + (↑(List.length (u8s (Array.toList (ByteArray.data (bs (bmpS c)))))) : Int) > (65535 : Int))) = Value.bool false ∧ (CallS Tryd.prog (nat_lit 86) [Value.pointer (some (Addr.mk (nat_lit 9) (nat_lit 1) none))] (Heap.mk (nat_lit 12) (Trie.node none (Trie.node none (Trie.node none Trie.leaf (Trie.node (some (Blk.own ((0 : Nat) + List.length (u8s (Array.toList (ByteArray.data (bs (bmpS c)))))) (nat_lit 5))) Trie.leaf Trie.leaf)) (body1_w_k0 c)) (body1_w_k1 c))) fun (v1 : Value) (h1 : Heap) => v1 = Value.string (strOf (Array.toList (Array.mk (Array.toList #[] ++ u8s (Array.toList (ByteArray.data (bs (bmpS c)))))))) ∧ h1 = Heap.mk (nat_lit 12) (Trie.node none (Trie.node none (Trie.node none Trie.leaf (Trie.node (some (Blk.cells [] (nat_lit 0) Mode.dead)) Trie.leaf Trie.leaf)) (body1_w_k0 c)) (body1_w_k1 c))) ∧ Value.tuple (Array.mk [Value.string (strOf (Array.toList (Array.mk (Array.toList #[] ++ u8s (Array.toList (ByteArray.data (bs (bmpS c)))))))), Value.bool true]) = Value.tuple (Array.mk [Value.string (bs (bmpS c)), Value.bool true])) (by kernel_rfl) (by
    have hl := bmpS_len c
    have hu : (u8s (bmpS c)).length = (bmpS c).length := u8s_length _
    refine ⟨trimC_w c, wstr_n rfl (.inl rfl) ?_ rfl, congrArg Value.bool (decide_eq_false ?_), str_o (l := bmpS c) rfl rfl rfl ?_ ?_ ?_ rfl, ?_⟩
    · show (bmpS c).length ≤ _
      omega
    · show ¬ (0 : Int) + ((u8s (bmpS c)).length : Nat) > 65535
      omega
    · exact (Nat.zero_add _).symm
    · show (0 : Int) + ((u8s (bmpS c)).length : Nat) = (((u8s (bmpS c)).length : Nat) : Int)
      omega
    · show (u8s (bmpS c)).length ≤ _
      omega
    · exact congrArg (fun z => Value.tuple (Array.mk [Value.string z, Value.bool true])) (str_bs (bmpS c)))
def body2_w_k0 (c : List Int) (s48 : Nat) := (Trie.node none (Trie.node none Trie.leaf (Trie.node none (Trie.node (some (Blk.cells [Value.bool false, Value.pointer (some (Addr.mk (nat_lit 9) (nat_lit 1) none)), Value.iface (nat_lit 1000003) (Value.tuple (Array.mk [Value.int IntKind.i64 (10 : Int), Value.int IntKind.i64 (1 : Int), Value.int IntKind.i64 ((↑((2 : Nat) * s48) : Int) + (↑(List.length [Value.int IntKind.u8 (IntKind.wrap IntKind.u8 (Int.fdiv (List.getD (listC c) s48 (0 : Int)) ((2 : Int) ^ min (Int.toNat (8 : Int)) (IntKind.bits IntKind.i64))))]) : Int)), Value.agg (Array.mk (Array.toList (Array.mk (u8s (shortsS (List.take s48 (listC c))))) ++ [Value.int IntKind.u8 (IntKind.wrap IntKind.u8 (Int.fdiv (List.getD (listC c) s48 (0 : Int)) ((2 : Int) ^ min (Int.toNat (8 : Int)) (IntKind.bits IntKind.i64))))]))]))] (nat_lit 111) Mode.fix)) Trie.leaf Trie.leaf) Trie.leaf)) (Trie.node none (Trie.node none (Trie.node (some (Blk.cells (catsL c) (nat_lit 23) Mode.fix)) Trie.leaf Trie.leaf) Trie.leaf) (Trie.node none (Trie.node (some (Blk.own ((2 : Nat) * s48 + List.length [Value.int IntKind.u8 (IntKind.wrap IntKind.u8 (Int.fdiv (List.getD (listC c) s48 (0 : Int)) ((2 : Int) ^ min (Int.toNat (8 : Int)) (IntKind.bits IntKind.i64))))]) (nat_lit 5))) Trie.leaf Trie.leaf) Trie.leaf)))
def body2_w_k1 (c : List Int) (s48 : Nat) := (Trie.node none Trie.leaf (Trie.node none (Trie.node (some (Blk.cells [Value.bool false, adrV (9 : Nat) s48, Value.iface (nat_lit 1000003) (Value.tuple (Array.mk [Value.int IntKind.i64 (10 : Int), Value.int IntKind.i64 (1 : Int), Value.int IntKind.i64 (↑((2 : Nat) * s48) : Int), Value.agg (Array.mk (u8s (shortsS (List.take s48 (listC c)))))]))] (nat_lit 111) Mode.fix)) Trie.leaf Trie.leaf) Trie.leaf))
def body2_w_k2 (c : List Int) := (Trie.node none (Trie.node none Trie.leaf (Trie.node none (Trie.node (some (Blk.cells [Value.bool false, Value.pointer none, Value.iface (nat_lit 1000003) (Value.tuple (Array.mk [Value.int IntKind.i64 (10 : Int), Value.int IntKind.i64 (1 : Int), Value.int IntKind.i64 (0 : Int), Value.agg (Array.mk [])]))] (nat_lit 111) Mode.fix)) Trie.leaf Trie.leaf) Trie.leaf)) (Trie.node none (Trie.node none (Trie.node (some (Blk.cells (catsL c) (nat_lit 23) Mode.fix)) Trie.leaf Trie.leaf) Trie.leaf) (Trie.node none (Trie.node (some (Blk.own (nat_lit 0) (nat_lit 5))) Trie.leaf Trie.leaf) Trie.leaf)))
def body2_w_k3 (c : List Int) (s48 : Nat) := (Blk.cells [Value.bool false, Value.pointer (some (Addr.mk (nat_lit 9) (nat_lit 1) none)), Value.iface (nat_lit 1000003) (Value.tuple (Array.mk [Value.int IntKind.i64 (10 : Int), Value.int IntKind.i64 (1 : Int), Value.int IntKind.i64 ((↑((2 : Nat) * s48) : Int) + (↑(List.length [Value.int IntKind.u8 (IntKind.wrap IntKind.u8 (Int.fdiv (List.getD (listC c) s48 (0 : Int)) ((2 : Int) ^ min (Int.toNat (8 : Int)) (IntKind.bits IntKind.i64))))]) : Int) + (↑(List.length [Value.int IntKind.u8 (IntKind.wrap IntKind.u8 (Int.fdiv (List.getD (listC c) s48 (0 : Int)) ((2 : Int) ^ min (Int.toNat (0 : Int)) (IntKind.bits IntKind.i64))))]) : Int)), Value.agg (Array.mk (Array.toList (Array.mk (Array.toList (Array.mk (u8s (shortsS (List.take s48 (listC c))))) ++ [Value.int IntKind.u8 (IntKind.wrap IntKind.u8 (Int.fdiv (List.getD (listC c) s48 (0 : Int)) ((2 : Int) ^ min (Int.toNat (8 : Int)) (IntKind.bits IntKind.i64))))])) ++ [Value.int IntKind.u8 (IntKind.wrap IntKind.u8 (Int.fdiv (List.getD (listC c) s48 (0 : Int)) ((2 : Int) ^ min (Int.toNat (0 : Int)) (IntKind.bits IntKind.i64))))]))]))] (nat_lit 111) Mode.fix)
def body2_w_k4 (c : List Int) (s48 : Nat) := (Blk.own ((2 : Nat) * s48 + List.length [Value.int IntKind.u8 (IntKind.wrap IntKind.u8 (Int.fdiv (List.getD (listC c) s48 (0 : Int)) ((2 : Int) ^ min (Int.toNat (8 : Int)) (IntKind.bits IntKind.i64))))] + List.length [Value.int IntKind.u8 (IntKind.wrap IntKind.u8 (Int.fdiv (List.getD (listC c) s48 (0 : Int)) ((2 : Int) ^ min (Int.toNat (0 : Int)) (IntKind.bits IntKind.i64))))]) (nat_lit 5))
def body2_w_k5 (c : List Int) (s48 : Nat) := (Trie.node none (body2_w_k1 c s48) (Trie.node none (Trie.node none (Trie.node (some (Blk.cells (catsL c) (nat_lit 23) Mode.fix)) Trie.leaf Trie.leaf) Trie.leaf) (Trie.node none (Trie.node (some (Blk.cells [] (nat_lit 0) Mode.dead)) Trie.leaf Trie.leaf) Trie.leaf)))
theorem body2_w (c : List Int) (hc : CatsOK c) : CallK Tryd.prog 70 [.int .i64 2, catsV c] (.tuple (Array.mk [.string (bs (shortsS (listC c))), .bool (decide ((listC c).length ≤ 15))])) := CallK.via progOK (pfs []) [] 100 (Adv.pur (23 : Nat) (Value.iface (nat_lit 1000000) (Value.tuple (Array.mk [Value.int IntKind.i64 (↑(List.length (listC c)) : Int), Value.agg (Array.mk (izL (listC c)))]))) (Adv.weak (47 : Nat) [] (Heap.mk (nat_lit 11) (body2_w_k2 c)) (Adv.loop (48 : Nat) (fun (j : Nat) => [((16 : Nat), Value.int IntKind.i64 (↑j : Int))]) ((fun (h : Heap) (j : Nat) => Heap.set (Heap.set h (10 : Nat) (Blk.own ((2 : Nat) * j) (5 : TypeId))) (9 : Nat) (Blk.cells [Value.bool false, adrV (9 : Nat) j, osl (10 : Nat) (1 : Nat) (↑((2 : Nat) * j) : Int) (Array.mk (u8s (shortsS (List.take j (listC c)))))] (111 : TypeId) Mode.fix)) (Heap.mk (nat_lit 11) (body2_w_k2 c))) (fun (i j : Nat) => i + j = List.length (listC c)) (List.length (listC c)) (0 : Nat) fun (i48 s48 : Nat) (j48 : Nat → Value) => Adv.split (50 : Nat) (Adv.chk (55 : Nat) none (Adv.chk (56 : Nat) (some (Value.int IntKind.i64 (List.getD (listC c) s48 (0 : Int)))) (Adv.put (61 : Nat) (Value.bool false) (Adv.put (65 : Nat) (Value.bool false) (Adv.ctr (101 : Nat) Value.nilIface (Heap.mk (nat_lit 11) (body2_w_k0 c s48)) (Adv.ctr (134 : Nat) Value.nilIface (Heap.mk (nat_lit 11) (Trie.node none (Trie.node none Trie.leaf (Trie.node none (Trie.node (some (body2_w_k3 c s48)) Trie.leaf Trie.leaf) Trie.leaf)) (Trie.node none (Trie.node none (Trie.node (some (Blk.cells (catsL c) (nat_lit 23) Mode.fix)) Trie.leaf Trie.leaf) Trie.leaf) (Trie.node none (Trie.node (some (body2_w_k4 c s48)) Trie.leaf Trie.leaf) Trie.leaf)))) Adv.nil)))))) (Adv.split (59 : Nat) (Adv.put (103 : Nat) (Value.bool false) (Adv.ctr (110 : Nat) (Value.string (strOf (Array.toList (Array.mk (u8s (shortsS (List.take s48 (listC c)))))))) (Heap.mk (nat_lit 11) (body2_w_k5 c s48)) Adv.nil)) (Adv.put (103 : Nat) (Value.bool false) (Adv.ctr (110 : Nat) (Value.string (strOf (Array.toList (Array.mk (u8s (shortsS (List.take s48 (listC c)))))))) (Heap.mk (nat_lit 11) (body2_w_k5 c s48)) Adv.nil)))))) (by kernel_rfl) (by kernel_rfl) (p := CallK Tryd.prog (nat_lit 23) [Value.agg (Array.mk (catsL c))] (Value.iface (nat_lit 1000000) (Value.tuple (Array.mk [Value.int IntKind.i64 (↑(List.length (listC c)) : Int), Value.agg (Array.mk (izL (listC c)))]))) ∧ Weak Tryd.prog [Value.pointer (some (Addr.mk (nat_lit 9) (nat_lit 0) none)), Value.int IntKind.i64 (2 : Int), Value.int IntKind.i64 (65535 : Int), Value.iface (nat_lit 1000000) (Value.tuple (Array.mk [Value.int IntKind.i64 (↑(List.length (listC c)) : Int), Value.agg (Array.mk (izL (listC c)))])), Value.tuple (Array.mk []), Value.tuple (Array.mk []), Value.tuple (Array.mk []), Value.tuple (Array.mk []), Value.pointer none, Value.tuple (Array.mk []), Value.tuple (Array.mk []), Value.tuple (Array.mk []), Value.pointer (some (Addr.mk (nat_lit 9) (nat_lit 0) none)), Value.bool false, Value.iface (nat_lit 1000000) (Value.tuple (Array.mk [Value.int IntKind.i64 (↑(List.length (listC c)) : Int), Value.agg (Array.mk (izL (listC c)))])), Value.int IntKind.i64 (↑(List.length (listC c)) : Int), Value.int IntKind.i64 (0 : Int), Value.tuple (Array.mk []), Value.tuple (Array.mk []), Value.tuple (Array.mk []), Value.tuple (Array.mk []), Value.tuple (Array.mk []), Value.tuple (Array.mk []), Value.tuple (Array.mk []), Value.tuple (Array.mk []), Value.tuple (Array.mk []), Value.tuple (Array.mk []), Value.tuple (Array.mk []), Value.tuple (Array.mk []), Value.tuple (Array.mk []), Value.tuple (Array.mk []), Value.tuple (Array.mk []), Value.tuple (Array.mk []), Value.tuple (Array.mk []), Value.tuple (Array.mk []), Value.tuple (Array.mk []), Value.tuple (Array.mk []), Value.tuple (Array.mk []), Value.tuple (Array.mk []), Value.tuple (Array.mk []), Value.tuple (Array.mk []), Value.tuple (Array.mk []), Value.tuple (Array.mk []), Value.tuple (Array.mk []), Value.tuple (Array.mk []), Value.tuple (Array.mk []), Value.tuple (Array.mk []), Value.tuple (Array.mk []), Value.tuple (Array.mk []), Value.tuple (Array.mk []), Value.tuple (Array.mk []), Value.tuple (Array.mk []), Value.tuple (Array.mk []), Value.tuple (Array.mk [])] (Heap.mk (nat_lit 10) (Trie.node none (Trie.node none Trie.leaf (Trie.node none (Trie.node (some (Blk.cells [Value.bool false, Value.pointer none, Value.slice none (nat_lit 0) (nat_lit 0)] (nat_lit 111) Mode.fix)) Trie.leaf Trie.leaf) Trie.leaf)) (Trie.node none (Trie.node none (Trie.node (some (Blk.cells (catsL c) (nat_lit 23) Mode.fix)) Trie.leaf Trie.leaf) Trie.leaf) Trie.leaf))) [Value.pointer (some (Addr.mk (nat_lit 9) (nat_lit 0) none)), Value.int IntKind.i64 (2 : Int), Value.int IntKind.i64 (65535 : Int), Value.iface (nat_lit 1000000) (Value.tuple (Array.mk [Value.int IntKind.i64 (↑(List.length (listC c)) : Int), Value.agg (Array.mk (izL (listC c)))])), Value.tuple (Array.mk []), Value.tuple (Array.mk []), Value.tuple (Array.mk []), Value.tuple (Array.mk []), Value.pointer none, Value.tuple (Array.mk []), Value.tuple (Array.mk []), Value.tuple (Array.mk []), Value.pointer (some (Addr.mk (nat_lit 9) (nat_lit 0) none)), Value.bool false, Value.iface (nat_lit 1000000) (Value.tuple (Array.mk [Value.int IntKind.i64 (↑(List.length (listC c)) : Int), Value.agg (Array.mk (izL (listC c)))])), Value.int IntKind.i64 (↑(List.length (listC c)) : Int), Value.int IntKind.i64 (0 : Int), Value.tuple (Array.mk []), Value.tuple (Array.mk []), Value.tuple (Array.mk []), Value.tuple (Array.mk []), Value.tuple (Array.mk []), Value.tuple (Array.mk []), Value.tuple (Array.mk []), Value.tuple (Array.mk []), Value.tuple (Array.mk []), Value.tuple (Array.mk []), Value.tuple (Array.mk []), Value.tuple (Array.mk []), Value.tuple (Array.mk []), Value.tuple (Array.mk []), Value.tuple (Array.mk []), Value.tuple (Array.mk []), Value.tuple (Array.mk []), Value.tuple (Array.mk []), Value.tuple (Array.mk []), Value.tuple (Array.mk []), Value.tuple (Array.mk []), Value.tuple (Array.mk []), Value.tuple (Array.mk []), Value.tuple (Array.mk []), Value.tuple (Array.mk []), Value.tuple (Array.mk []), Value.tuple (Array.mk []), Value.tuple (Array.mk []), Value.tuple (Array.mk []), Value.tuple (Array.mk []), Value.tuple (Array.mk []), Value.tuple (Array.mk []), Value.tuple (Array.mk []), Value.tuple (Array.mk []), Value.tuple (Array.mk []), Value.tuple (Array.mk []), Value.tuple (Array.mk [])] (Heap.mk (nat_lit 11) (body2_w_k2 c)) ∧ (List.length (listC c) + (0 : Nat) = List.length (listC c) ∧ Value.int IntKind.i64 (0 : Int) = Value.int IntKind.i64 (0 : Int) ∧ Heap.mk (nat_lit 11) (body2_w_k2 c) = Heap.mk (nat_lit 11) (body2_w_k2 c)) ∧ ∀ (i48 s48 : Nat) (j48 : Nat → Value), i48 + s48 = List.length (listC c) → (decide ((↑s48 : Int) < (↑(List.length (listC c)) : Int)) = true → ((0 : Int) ≤ (↑s48 : Int) ∧ (↑s48 : Int) < (↑(List.length (listC c)) : Int)) ∧ Ask.holds Tryd.prog (Ask.part (Array.toList (Array.mk (izL (listC c)))) (Int.toNat (↑(Int.toNat (↑s48 : Int) * nat_lit 1) : Int)) (nat_lit 1) [Value.int IntKind.i64 (List.getD (listC c) s48 (0 : Int))]) ∧ Value.bool (decide (List.getD (listC c) s48 (0 : Int) < (0 : Int))) = Value.bool false ∧ Value.bool (decide (List.getD (listC c) s48 (0 : Int) > (65535 : Int))) = Value.bool false ∧ (CallS Tryd.prog (nat_lit 121) [Value.pointer (some (Addr.mk (nat_lit 9) (nat_lit 1) none)), Value.int IntKind.u8 (IntKind.wrap IntKind.u8 (Int.fdiv (List.getD (listC c) s48 (0 : Int)) ((2 : Int) ^ min (Int.toNat (8 : Int)) (IntKind.bits IntKind.i64))))] (Heap.mk (nat_lit 11) (Trie.node none (body2_w_k1 c s48) (Trie.node none (Trie.node none (Trie.node (some (Blk.cells (catsL c) (nat_lit 23) Mode.fix)) Trie.leaf Trie.leaf) Trie.leaf) (Trie.node none (Trie.node (some (Blk.own ((2 : Nat) * s48) (nat_lit 5))) Trie.leaf Trie.leaf) Trie.leaf)))) fun (v1 : Value) (h1 : Heap) => v1 = Value.nilIface ∧ h1 = Heap.mk (nat_lit 11) (body2_w_k0 c s48)) ∧ (CallS Tryd.prog (nat_lit 121) [Value.pointer (some (Addr.mk (nat_lit 9) (nat_lit 1) none)), Value.int IntKind.u8 (IntKind.wrap IntKind.u8 (Int.fdiv (List.getD (listC c) s48 (0 : Int)) ((2 : Int) ^ min (Int.toNat (0 : Int)) (IntKind.bits IntKind.i64))))] (Heap.mk (nat_lit 11) (body2_w_k0 c s48)) fun (v1 : Value) (h1 : Heap) => v1 = Value.nilIface ∧ h1 = Heap.mk (nat_lit 11) (Trie.node none (Trie.node none Trie.leaf (Trie.node none (Trie.node (some (body2_w_k3 c s48)) Trie.leaf Trie.leaf) Trie.leaf)) (Trie.node none (Trie.node none (Trie.node (some (Blk.cells (catsL c) (nat_lit 23) Mode.fix)) Trie.leaf Trie.leaf) Trie.leaf) (Trie.node none (Trie.node (some (body2_w_k4 c s48)) Trie.leaf Trie.leaf) Trie.leaf)))) ∧ ∃ (i48' : Nat), ∃ (s48' : Nat), i48' < i48 ∧ i48' + s48' = List.length (listC c) ∧ Value.int IntKind.i64 (IntKind.wrap IntKind.i64 ((↑s48 : Int) + (1 : Int))) = Value.int IntKind.i64 (↑s48' : Int) ∧ (some (body2_w_k4 c s48) = some (Blk.own ((2 : Nat) * s48') (nat_lit 5)) ∧ some (body2_w_k3 c s48) = some (Blk.cells [Value.bool false, adrV (9 : Nat) s48', Value.iface (nat_lit 1000003) (Value.tuple (Array.mk [Value.int IntKind.i64 (10 : Int), Value.int IntKind.i64 (1 : Int), Value.int IntKind.i64 (↑((2 : Nat) * s48') : Int), Value.agg (Array.mk (u8s (shortsS (List.take s48' (listC c)))))]))] (nat_lit 111) Mode.fix) ∧ some (Blk.cells (catsL c) (nat_lit 23) Mode.fix) = some (Blk.cells (catsL c) (nat_lit 23) Mode.fix) ∧ True) ∧ true = true ∧ List.all [Value.bool false, adrV (9 : Nat) s48', Value.iface (nat_lit 1000003) (Value.tuple (Array.mk [Value.int IntKind.i64 (10 : Int), Value.int IntKind.i64 (1 : Int), Value.int IntKind.i64 (↑((2 : Nat) * s48') : Int), Value.agg (Array.mk (u8s (shortsS (List.take s48' (listC c)))))]))] (refsOK (nat_lit 8) (nat_lit 11)) = true ∧ true = true ∧ True) ∧ (decide ((↑s48 : Int) < (↑(List.length (listC c)) : Int)) = false → (decide ((↑(List.length (listC c)) : Int) ≤ (15 : Int)) = true → Value.bool (decide ((↑((2 : Nat) * s48) : Int) > (65535 : Int))) = Value.bool false ∧ (CallS Tryd.prog (nat_lit 86) [Value.pointer (some (Addr.mk (nat_lit 9) (nat_lit 1) none))] (Heap.mk (nat_lit 11) (Trie.node none (body2_w_k1 c s48) (Trie.node none (Trie.node none (Trie.node (some (Blk.cells (catsL c) (nat_lit 23) Mode.fix)) Trie.leaf Trie.leaf) Trie.leaf) (Trie.node none (Trie.node (some (Blk.own ((2 : Nat) * s48) (nat_lit 5))) Trie.leaf Trie.leaf) Trie.leaf)))) fun (v1 : Value) (h1 : Heap) => v1 = Value.string (strOf (Array.toList (Array.mk (u8s (shortsS (List.take s48 (listC c))))))) ∧ h1 = Heap.mk (nat_lit 11) (body2_w_k5 c s48)) ∧ Value.tuple (Array.mk [Value.string (strOf (Array.toList (Array.mk (u8s (shortsS (List.take s48 (listC c))))))), Value.bool true]) = Value.tuple (Array.mk [Value.string (bs (shortsS (listC c))), Value.bool (decide (List.length (listC c) ≤ (15 : Nat)))])) ∧ (decide ((↑(List.length (listC c)) : Int) ≤ (15 : Int)) = false → Value.bool (decide ((↑((2 : Nat) * s48) : Int) > (65535 : Int))) = Value.bool false ∧ (CallS Tryd.prog (nat_lit 86) [Value.pointer (some (Addr.mk (nat_lit 9) (nat_lit 1) none))] (Heap.mk (nat_lit 11) (Trie.node none (body2_w_k1 c s48) (Trie.node none (Trie.node none (Trie.node (some (Blk.cells (catsL c) (nat_lit 23) Mode.fix)) Trie.leaf Trie.leaf) Trie.leaf) (Trie.node none (Trie.node (some (Blk.own ((2 : Nat) * s48) (nat_lit 5))) Trie.leaf Trie.leaf) Trie.leaf)))) fun (v1 : Value) (h1 : Heap) => v1 = Value.string (strOf (Array.toList (Array.mk (u8s (shortsS (List.take s48 (listC c))))))) ∧ h1 = Heap.mk (nat_lit 11) (body2_w_k5 c s48)) ∧ Value.tuple (Array.mk [Value.string (strOf (Array.toList (Array.mk (u8s (shortsS (List.take s48 (listC c))))))), Value.bool false]) = Value.tuple (Array.mk [Value.string (bs (shortsS (listC c))), Value.bool (decide (List.length (listC c) ≤ (15 : Nat)))])))) (by kernel_rfl) (by
    have hL : (listC c).length ≤ 240 := listN_length c 240
    have hv : ∀ j, j < (listC c).length → 0 ≤ (listC c).getD j 0 ∧ (listC c).getD j 0 < 240 := fun j h => listC_getD c h
    refine ⟨list_w c hc, Weak.ownAt' 9 2 1 5 (by rfl) (by rfl) (by rfl) (by rfl), ⟨by omega, rfl, rfl⟩, fun i j u q => ⟨fun h1 => ?_, fun h1 => ?_⟩⟩
    · have hj : j < (listC c).length := by have := of_decide_eq_true h1; omega
      have hx := hv j hj
      have hp := iz_part (l := listC c) hj (o := Int.toNat ((Int.toNat (j : Int) * 1 : Nat) : Int)) (by simp)
      have ht : shortsS ((listC c).take (j + 1)) = shortsS ((listC c).take j) ++ shortB ((listC c).getD j 0) := by
        rw [take_snoc 0 hj]
        simp [shortsS]
      have hsz : (shortsS ((listC c).take j)).length = 2 * j := by rw [shortsS_len, List.length_take_of_le (by omega)]
      have hx1 := hx.1
      have hx2 := hx.2
      have sc := short_cells hx1
      have d1 : Value.bool (decide ((listC c).getD j 0 < 0)) = .bool false := congrArg Value.bool (decide_eq_false (by omega))
      have d2 : Value.bool (decide ((listC c).getD j 0 > 65535)) = .bool false := congrArg Value.bool (decide_eq_false (by omega))
      refine ⟨⟨by omega, by omega⟩, hp, d1, d2, wbyte_o rfl (adrV_or 9 j) rfl (u8s_len hsz) ?_ ?_ rfl, wbyte_o rfl (.inr rfl) rfl ?_ ?_ ?_ rfl, i - 1, j + 1, by omega, by omega, wrap_next j (by omega), ⟨?_, ?_, rfl, trivial⟩, rfl, rfl, rfl, trivial⟩
      · rw [u8s_len hsz]
      · rw [u8s_len hsz]; omega
      · show ((u8s _) ++ [_]).length = _
        rw [List.length_append, u8s_length, hsz]
      · show _ = ((((u8s _) ++ [_]).length : Nat) : Int)
        rw [List.length_append, u8s_length, hsz]
        omega
      · show ((u8s _) ++ [_]).length + 1 ≤ _
        rw [List.length_append, u8s_length, hsz]
        simp
        omega
      · exact congrArg (fun n => some (Blk.own n 5)) (by simp only [List.length_singleton]; omega)
      · refine congrArg (fun z => some (Blk.cells [Value.bool false, Value.pointer (some ⟨9, 1, none⟩), z] 111 .fix)) (osl_eq ?_ ?_)
        · simp only [List.length_singleton]; omega
        · exact cat2 sc (by rw [ht, u8s_append])
    · obtain rfl : j = (listC c).length := by have := of_decide_eq_false h1; omega
      have d1 : Value.bool (decide (((2 * (listC c).length : Nat) : Int) > 65535)) = .bool false := congrArg Value.bool (decide_eq_false (by omega))
      have hsz : (shortsS ((listC c).take (listC c).length)).length = 2 * (listC c).length := by rw [List.take_length]; exact shortsS_len _
      have e : strOf (Array.toList (Array.mk (u8s (shortsS ((listC c).take (listC c).length))))) = bs (shortsS (listC c)) := by rw [str_bs, List.take_length]
      refine ⟨fun h => ⟨d1, str_o (l := shortsS ((listC c).take (listC c).length)) rfl rfl rfl (u8s_len hsz) (by rw [u8s_len hsz]) (by rw [u8s_len hsz]; omega) rfl, ?_⟩, fun h => ⟨d1, str_o (l := shortsS ((listC c).take (listC c).length)) rfl rfl rfl (u8s_len hsz) (by rw [u8s_len hsz]) (by rw [u8s_len hsz]; omega) rfl, ?_⟩⟩
      · have : (listC c).length ≤ 15 := by have := of_decide_eq_true h; omega
        rw [decide_eq_true this]
        exact congrArg (fun z => Value.tuple (Array.mk [Value.string z, Value.bool true])) e
      · have : ¬ (listC c).length ≤ 15 := by have := of_decide_eq_false h; omega
        rw [decide_eq_false this]
        exact congrArg (fun z => Value.tuple (Array.mk [Value.string z, Value.bool false])) e)
def body5_w_k9 (c : List Int) (s35 : Nat) := (Trie.node none Trie.leaf (Trie.node (some (Blk.cells [Value.int IntKind.i64 (Prod.fst (List.getD (rngsC c) s35 ((0 : Int), (0 : Int)))), Value.int IntKind.i64 (Prod.snd (List.getD (rngsC c) s35 ((0 : Int), (0 : Int))))] (nat_lit 69) Mode.fix)) Trie.leaf Trie.leaf))
def body5_w_k6 (c : List Int) (s35 : Nat) := (IntKind.wrap IntKind.u8 (Int.fdiv (Prod.snd (List.getD (rngsC c) s35 ((0 : Int), (0 : Int)))) ((2 : Int) ^ min (Int.toNat (8 : Int)) (IntKind.bits IntKind.i64))))
def body5_w_k8 (c : List Int) (s35 : Nat) := (IntKind.wrap IntKind.u8 (Int.fdiv (Prod.snd (List.getD (rngsC c) s35 ((0 : Int), (0 : Int)))) ((2 : Int) ^ min (Int.toNat (0 : Int)) (IntKind.bits IntKind.i64))))
def body5_w_k10 (c : List Int) (s35 : Nat) := (IntKind.wrap IntKind.u8 (Int.fdiv (Prod.fst (List.getD (rngsC c) s35 ((0 : Int), (0 : Int)))) ((2 : Int) ^ min (Int.toNat (8 : Int)) (IntKind.bits IntKind.i64))))
def body5_w_k7 (c : List Int) (s35 : Nat) := (Trie.node none (Trie.node (some (Blk.cells (catsL c) (nat_lit 23) Mode.fix)) Trie.leaf Trie.leaf) (Trie.node (some (Blk.cells [Value.int IntKind.i64 (Prod.snd (List.getD (rngsC c) s35 ((0 : Int), (0 : Int)))), Value.int IntKind.i64 (Prod.fst (List.getD (rngsC c) s35 ((0 : Int), (0 : Int))))] (nat_lit 3) Mode.fix)) Trie.leaf Trie.leaf))
def body5_w_k0 (c : List Int) (s35 : Nat) := (Trie.node none (Trie.node none (body5_w_k9 c s35) (Trie.node none (Trie.node (some (Blk.cells [Value.bool false, Value.pointer (some (Addr.mk (nat_lit 9) (nat_lit 1) none)), Value.iface (nat_lit 1000003) (Value.tuple (Array.mk [Value.int IntKind.i64 (10 : Int), Value.int IntKind.i64 (1 : Int), Value.int IntKind.i64 ((↑((4 : Nat) * s35) : Int) + (↑(List.length [Value.int IntKind.u8 (body5_w_k6 c s35)]) : Int) + (↑(List.length [Value.int IntKind.u8 (body5_w_k8 c s35)]) : Int) + (↑(List.length [Value.int IntKind.u8 (body5_w_k10 c s35)]) : Int)), Value.agg (Array.mk (Array.toList (Array.mk (Array.toList (Array.mk (Array.toList (Array.mk (u8s (rngS (List.take s35 (rngsC c))))) ++ [Value.int IntKind.u8 (body5_w_k6 c s35)])) ++ [Value.int IntKind.u8 (body5_w_k8 c s35)])) ++ [Value.int IntKind.u8 (body5_w_k10 c s35)]))]))] (nat_lit 111) Mode.fix)) Trie.leaf Trie.leaf) Trie.leaf)) (Trie.node none (body5_w_k7 c s35) (Trie.node none (Trie.node (some (Blk.own ((4 : Nat) * s35 + List.length [Value.int IntKind.u8 (body5_w_k6 c s35)] + List.length [Value.int IntKind.u8 (body5_w_k8 c s35)] + List.length [Value.int IntKind.u8 (body5_w_k10 c s35)]) (nat_lit 5))) Trie.leaf Trie.leaf) Trie.leaf)))
def body5_w_k1 (c : List Int) (s35 : Nat) := (Trie.node none (Trie.node none (body5_w_k9 c s35) (Trie.node none (Trie.node (some (Blk.cells [Value.bool false, Value.pointer (some (Addr.mk (nat_lit 9) (nat_lit 1) none)), Value.iface (nat_lit 1000003) (Value.tuple (Array.mk [Value.int IntKind.i64 (10 : Int), Value.int IntKind.i64 (1 : Int), Value.int IntKind.i64 ((↑((4 : Nat) * s35) : Int) + (↑(List.length [Value.int IntKind.u8 (body5_w_k6 c s35)]) : Int) + (↑(List.length [Value.int IntKind.u8 (body5_w_k8 c s35)]) : Int)), Value.agg (Array.mk (Array.toList (Array.mk (Array.toList (Array.mk (u8s (rngS (List.take s35 (rngsC c))))) ++ [Value.int IntKind.u8 (body5_w_k6 c s35)])) ++ [Value.int IntKind.u8 (body5_w_k8 c s35)]))]))] (nat_lit 111) Mode.fix)) Trie.leaf Trie.leaf) Trie.leaf)) (Trie.node none (body5_w_k7 c s35) (Trie.node none (Trie.node (some (Blk.own ((4 : Nat) * s35 + List.length [Value.int IntKind.u8 (body5_w_k6 c s35)] + List.length [Value.int IntKind.u8 (body5_w_k8 c s35)]) (nat_lit 5))) Trie.leaf Trie.leaf) Trie.leaf)))
def body5_w_k2 (c : List Int) (s35 : Nat) := (Blk.cells [Value.bool false, Value.pointer (some (Addr.mk (nat_lit 9) (nat_lit 1) none)), Value.iface (nat_lit 1000003) (Value.tuple (Array.mk [Value.int IntKind.i64 (10 : Int), Value.int IntKind.i64 (1 : Int), Value.int IntKind.i64 ((↑((4 : Nat) * s35) : Int) + (↑(List.length [Value.int IntKind.u8 (body5_w_k6 c s35)]) : Int) + (↑(List.length [Value.int IntKind.u8 (body5_w_k8 c s35)]) : Int) + (↑(List.length [Value.int IntKind.u8 (body5_w_k10 c s35)]) : Int) + (↑(List.length [Value.int IntKind.u8 (IntKind.wrap IntKind.u8 (Int.fdiv (Prod.fst (List.getD (rngsC c) s35 ((0 : Int), (0 : Int)))) ((2 : Int) ^ min (Int.toNat (0 : Int)) (IntKind.bits IntKind.i64))))]) : Int)), Value.agg (Array.mk (Array.toList (Array.mk (Array.toList (Array.mk (Array.toList (Array.mk (Array.toList (Array.mk (u8s (rngS (List.take s35 (rngsC c))))) ++ [Value.int IntKind.u8 (body5_w_k6 c s35)])) ++ [Value.int IntKind.u8 (body5_w_k8 c s35)])) ++ [Value.int IntKind.u8 (body5_w_k10 c s35)])) ++ [Value.int IntKind.u8 (IntKind.wrap IntKind.u8 (Int.fdiv (Prod.fst (List.getD (rngsC c) s35 ((0 : Int), (0 : Int)))) ((2 : Int) ^ min (Int.toNat (0 : Int)) (IntKind.bits IntKind.i64))))]))]))] (nat_lit 111) Mode.fix)
def body5_w_k3 (c : List Int) (s35 : Nat) := (Trie.node none (Trie.node none (body5_w_k9 c s35) (Trie.node none (Trie.node (some (Blk.cells [Value.bool false, Value.pointer (some (Addr.mk (nat_lit 9) (nat_lit 1) none)), Value.iface (nat_lit 1000003) (Value.tuple (Array.mk [Value.int IntKind.i64 (10 : Int), Value.int IntKind.i64 (1 : Int), Value.int IntKind.i64 ((↑((4 : Nat) * s35) : Int) + (↑(List.length [Value.int IntKind.u8 (body5_w_k6 c s35)]) : Int)), Value.agg (Array.mk (Array.toList (Array.mk (u8s (rngS (List.take s35 (rngsC c))))) ++ [Value.int IntKind.u8 (body5_w_k6 c s35)]))]))] (nat_lit 111) Mode.fix)) Trie.leaf Trie.leaf) Trie.leaf)) (Trie.node none (body5_w_k7 c s35) (Trie.node none (Trie.node (some (Blk.own ((4 : Nat) * s35 + List.length [Value.int IntKind.u8 (body5_w_k6 c s35)]) (nat_lit 5))) Trie.leaf Trie.leaf) Trie.leaf)))
def body5_w_k4 (c : List Int) := (Trie.node none (Trie.node none Trie.leaf (Trie.node none (Trie.node (some (Blk.cells [Value.bool false, Value.pointer none, Value.iface (nat_lit 1000003) (Value.tuple (Array.mk [Value.int IntKind.i64 (10 : Int), Value.int IntKind.i64 (1 : Int), Value.int IntKind.i64 (0 : Int), Value.agg (Array.mk [])]))] (nat_lit 111) Mode.fix)) Trie.leaf Trie.leaf) Trie.leaf)) (Trie.node none (Trie.node none (Trie.node (some (Blk.cells (catsL c) (nat_lit 23) Mode.fix)) Trie.leaf Trie.leaf) Trie.leaf) (Trie.node none (Trie.node (some (Blk.own (nat_lit 0) (nat_lit 5))) Trie.leaf Trie.leaf) Trie.leaf)))
def body5_w_k5 (c : List Int) (s35 : Nat) := (Trie.node none (Trie.node (some (Blk.cells [Value.bool false, adrV (9 : Nat) s35, Value.iface (nat_lit 1000003) (Value.tuple (Array.mk [Value.int IntKind.i64 (10 : Int), Value.int IntKind.i64 (1 : Int), Value.int IntKind.i64 (↑((4 : Nat) * s35) : Int), Value.agg (Array.mk (u8s (rngS (List.take s35 (rngsC c)))))]))] (nat_lit 111) Mode.fix)) Trie.leaf Trie.leaf) Trie.leaf)
def body5_w_k11 (c : List Int) (s35 : Nat) := (Trie.node none (Trie.node none Trie.leaf (body5_w_k5 c s35)) (Trie.node none (Trie.node none (Trie.node (some (Blk.cells (catsL c) (nat_lit 23) Mode.fix)) Trie.leaf Trie.leaf) Trie.leaf) (Trie.node none (Trie.node (some (Blk.cells [] (nat_lit 0) Mode.dead)) Trie.leaf Trie.leaf) Trie.leaf)))
def body5_w_k12 (c : List Int) (s35 : Nat) := (Blk.own ((4 : Nat) * s35 + List.length [Value.int IntKind.u8 (body5_w_k6 c s35)] + List.length [Value.int IntKind.u8 (body5_w_k8 c s35)] + List.length [Value.int IntKind.u8 (body5_w_k10 c s35)] + List.length [Value.int IntKind.u8 (IntKind.wrap IntKind.u8 (Int.fdiv (Prod.fst (List.getD (rngsC c) s35 ((0 : Int), (0 : Int)))) ((2 : Int) ^ min (Int.toNat (0 : Int)) (IntKind.bits IntKind.i64))))]) (nat_lit 5))
theorem body5_w (c : List Int) (hc : CatsOK c) : CallK Tryd.prog 70 [.int .i64 5, catsV c] (.tuple (Array.mk [.string (bs (rngS (rngsC c))), .bool (decide ((rngsC c).length ≤ 7))])) := CallK.via progOK (pfs []) [] 100 (Adv.pur (27 : Nat) (Value.iface (nat_lit 1000000) (Value.tuple (Array.mk [Value.int IntKind.i64 (↑(List.length (rngsC c)) : Int), Value.agg (Array.mk (prsL (rngsC c)))]))) (Adv.weak (34 : Nat) [] (Heap.mk (nat_lit 11) (body5_w_k4 c)) (Adv.loop (35 : Nat) (fun (j : Nat) => [((41 : Nat), Value.int IntKind.i64 (↑j : Int))]) ((fun (h : Heap) (j : Nat) => Heap.set (Heap.set h (10 : Nat) (Blk.own ((4 : Nat) * j) (5 : TypeId))) (9 : Nat) (Blk.cells [Value.bool false, adrV (9 : Nat) j, osl (10 : Nat) (1 : Nat) (↑((4 : Nat) * j) : Int) (Array.mk (u8s (rngS (List.take j (rngsC c)))))] (111 : TypeId) Mode.fix)) (Heap.mk (nat_lit 11) (body5_w_k4 c))) (fun (i j : Nat) => i + j = List.length (rngsC c)) (List.length (rngsC c)) (0 : Nat) fun (i35 s35 : Nat) (j35 : Nat → Value) => Adv.split (37 : Nat) (Adv.chk (42 : Nat) none (Adv.chk (43 : Nat) (some (Value.agg (Array.mk [Value.int IntKind.i64 (Prod.fst (List.getD (rngsC c) s35 ((0 : Int), (0 : Int)))), Value.int IntKind.i64 (Prod.snd (List.getD (rngsC c) s35 ((0 : Int), (0 : Int))))]))) (Adv.put (83 : Nat) (Value.bool false) (Adv.put (87 : Nat) (Value.bool false) (Adv.ctr (123 : Nat) Value.nilIface (Heap.mk (nat_lit 13) (body5_w_k3 c s35)) (Adv.ctr (156 : Nat) Value.nilIface (Heap.mk (nat_lit 13) (body5_w_k1 c s35)) (Adv.put (181 : Nat) (Value.bool false) (Adv.put (185 : Nat) (Value.bool false) (Adv.ctr (221 : Nat) Value.nilIface (Heap.mk (nat_lit 13) (body5_w_k0 c s35)) (Adv.ctr (254 : Nat) Value.nilIface (Heap.mk (nat_lit 13) (Trie.node none (Trie.node none (body5_w_k9 c s35) (Trie.node none (Trie.node (some (body5_w_k2 c s35)) Trie.leaf Trie.leaf) Trie.leaf)) (Trie.node none (body5_w_k7 c s35) (Trie.node none (Trie.node (some (body5_w_k12 c s35)) Trie.leaf Trie.leaf) Trie.leaf)))) Adv.nil)))))))))) (Adv.split (42 : Nat) (Adv.put (86 : Nat) (Value.bool false) (Adv.ctr (93 : Nat) (Value.string (strOf (Array.toList (Array.mk (u8s (rngS (List.take s35 (rngsC c)))))))) (Heap.mk (nat_lit 11) (body5_w_k11 c s35)) Adv.nil)) (Adv.put (86 : Nat) (Value.bool false) (Adv.ctr (93 : Nat) (Value.string (strOf (Array.toList (Array.mk (u8s (rngS (List.take s35 (rngsC c)))))))) (Heap.mk (nat_lit 11) (body5_w_k11 c s35)) Adv.nil)))))) (by kernel_rfl) (by kernel_rfl) (p := CallK Tryd.prog (nat_lit 50) [Value.agg (Array.mk (catsL c))] (Value.iface (nat_lit 1000000) (Value.tuple (Array.mk [Value.int IntKind.i64 (↑(List.length (rngsC c)) : Int), Value.agg (Array.mk (prsL (rngsC c)))]))) ∧ Weak Tryd.prog [Value.int IntKind.i64 (5 : Int), Value.agg (Array.mk (catsL c)), Value.tuple (Array.mk []), Value.pointer (some (Addr.mk (nat_lit 8) (nat_lit 0) none)), Value.string (ByteArray.mk #[]), Value.bool false, Value.pointer (some (Addr.mk (nat_lit 9) (nat_lit 0) none)), Value.bool true, Value.tuple (Array.mk []), Value.iface (nat_lit 1000000) (Value.tuple (Array.mk [Value.int IntKind.i64 (↑(List.length (rngsC c)) : Int), Value.agg (Array.mk (prsL (rngsC c)))])), Value.tuple (Array.mk []), Value.tuple (Array.mk []), Value.tuple (Array.mk []), Value.tuple (Array.mk []), Value.agg (Array.mk [Value.bool false, Value.pointer none, Value.slice none (nat_lit 0) (nat_lit 0)]), Value.pointer (some (Addr.mk (nat_lit 9) (nat_lit 0) none)), Value.int IntKind.i64 (5 : Int), Value.bool false, Value.bool false, Value.tuple (Array.mk []), Value.tuple (Array.mk []), Value.tuple (Array.mk []), Value.tuple (Array.mk []), Value.tuple (Array.mk []), Value.tuple (Array.mk []), Value.bool false, Value.bool false, Value.tuple (Array.mk []), Value.tuple (Array.mk []), Value.tuple (Array.mk []), Value.tuple (Array.mk []), Value.tuple (Array.mk []), Value.tuple (Array.mk []), Value.tuple (Array.mk []), Value.tuple (Array.mk []), Value.bool true, Value.bool true, Value.agg (Array.mk (catsL c)), Value.iface (nat_lit 1000000) (Value.tuple (Array.mk [Value.int IntKind.i64 (↑(List.length (rngsC c)) : Int), Value.agg (Array.mk (prsL (rngsC c)))])), Value.iface (nat_lit 1000000) (Value.tuple (Array.mk [Value.int IntKind.i64 (↑(List.length (rngsC c)) : Int), Value.agg (Array.mk (prsL (rngsC c)))])), Value.int IntKind.i64 (↑(List.length (rngsC c)) : Int), Value.int IntKind.i64 (0 : Int), Value.tuple (Array.mk []), Value.tuple (Array.mk []), Value.tuple (Array.mk []), Value.tuple (Array.mk []), Value.tuple (Array.mk []), Value.tuple (Array.mk []), Value.tuple (Array.mk []), Value.tuple (Array.mk []), Value.tuple (Array.mk []), Value.tuple (Array.mk []), Value.tuple (Array.mk []), Value.tuple (Array.mk []), Value.tuple (Array.mk []), Value.tuple (Array.mk []), Value.tuple (Array.mk []), Value.tuple (Array.mk []), Value.tuple (Array.mk []), Value.tuple (Array.mk []), Value.tuple (Array.mk []), Value.tuple (Array.mk []), Value.tuple (Array.mk []), Value.tuple (Array.mk []), Value.tuple (Array.mk []), Value.tuple (Array.mk []), Value.tuple (Array.mk [])] (Heap.mk (nat_lit 10) (Trie.node none (Trie.node none Trie.leaf (Trie.node none (Trie.node (some (Blk.cells [Value.bool false, Value.pointer none, Value.slice none (nat_lit 0) (nat_lit 0)] (nat_lit 111) Mode.fix)) Trie.leaf Trie.leaf) Trie.leaf)) (Trie.node none (Trie.node none (Trie.node (some (Blk.cells (catsL c) (nat_lit 23) Mode.fix)) Trie.leaf Trie.leaf) Trie.leaf) Trie.leaf))) [Value.int IntKind.i64 (5 : Int), Value.agg (Array.mk (catsL c)), Value.tuple (Array.mk []), Value.pointer (some (Addr.mk (nat_lit 8) (nat_lit 0) none)), Value.string (ByteArray.mk #[]), Value.bool false, Value.pointer (some (Addr.mk (nat_lit 9) (nat_lit 0) none)), Value.bool true, Value.tuple (Array.mk []), Value.iface (nat_lit 1000000) (Value.tuple (Array.mk [Value.int IntKind.i64 (↑(List.length (rngsC c)) : Int), Value.agg (Array.mk (prsL (rngsC c)))])), Value.tuple (Array.mk []), Value.tuple (Array.mk []), Value.tuple (Array.mk []), Value.tuple (Array.mk []), Value.agg (Array.mk [Value.bool false, Value.pointer none, Value.slice none (nat_lit 0) (nat_lit 0)]), Value.pointer (some (Addr.mk (nat_lit 9) (nat_lit 0) none)), Value.int IntKind.i64 (5 : Int), Value.bool false, Value.bool false, Value.tuple (Array.mk []), Value.tuple (Array.mk []), Value.tuple (Array.mk []), Value.tuple (Array.mk []), Value.tuple (Array.mk []), Value.tuple (Array.mk []), Value.bool false, Value.bool false, Value.tuple (Array.mk []), Value.tuple (Array.mk []), Value.tuple (Array.mk []), Value.tuple (Array.mk []), Value.tuple (Array.mk []), Value.tuple (Array.mk []), Value.tuple (Array.mk []), Value.tuple (Array.mk []), Value.bool true, Value.bool true, Value.agg (Array.mk (catsL c)), Value.iface (nat_lit 1000000) (Value.tuple (Array.mk [Value.int IntKind.i64 (↑(List.length (rngsC c)) : Int), Value.agg (Array.mk (prsL (rngsC c)))])), Value.iface (nat_lit 1000000) (Value.tuple (Array.mk [Value.int IntKind.i64 (↑(List.length (rngsC c)) : Int), Value.agg (Array.mk (prsL (rngsC c)))])), Value.int IntKind.i64 (↑(List.length (rngsC c)) : Int), Value.int IntKind.i64 (0 : Int), Value.tuple (Array.mk []), Value.tuple (Array.mk []), Value.tuple (Array.mk []), Value.tuple (Array.mk []), Value.tuple (Array.mk []), Value.tuple (Array.mk []), Value.tuple (Array.mk []), Value.tuple (Array.mk []), Value.tuple (Array.mk []), Value.tuple (Array.mk []), Value.tuple (Array.mk []), Value.tuple (Array.mk []), Value.tuple (Array.mk []), Value.tuple (Array.mk []), Value.tuple (Array.mk []), Value.tuple (Array.mk []), Value.tuple (Array.mk []), Value.tuple (Array.mk []), Value.tuple (Array.mk []), Value.tuple (Array.mk []), Value.tuple (Array.mk []), Value.tuple (Array.mk []), Value.tuple (Array.mk []), Value.tuple (Array.mk []), Value.tuple (Array.mk [])] (Heap.mk (nat_lit 11) (body5_w_k4 c)) ∧ (List.length (rngsC c) + (0 : Nat) = List.length (rngsC c) ∧ Value.int IntKind.i64 (0 : Int) = Value.int IntKind.i64 (0 : Int) ∧ Heap.mk (nat_lit 11) (body5_w_k4 c) = Heap.mk (nat_lit 11) (body5_w_k4 c)) ∧ ∀ (i35 s35 : Nat) (j35 : Nat → Value), i35 + s35 = List.length (rngsC c) → (decide ((↑s35 : Int) < (↑(List.length (rngsC c)) : Int)) = true → ((0 : Int) ≤ (↑s35 : Int) ∧ (↑s35 : Int) < (↑(List.length (rngsC c)) : Int)) ∧ Ask.holds Tryd.prog (Ask.part (Array.toList (Array.mk (prsL (rngsC c)))) (Int.toNat (↑(Int.toNat (↑s35 : Int) * nat_lit 2) : Int)) (nat_lit 2) [Value.int IntKind.i64 (Prod.fst (List.getD (rngsC c) s35 ((0 : Int), (0 : Int)))), Value.int IntKind.i64 (Prod.snd (List.getD (rngsC c) s35 ((0 : Int), (0 : Int))))]) ∧ Value.bool (decide (Prod.snd (List.getD (rngsC c) s35 ((0 : Int), (0 : Int))) < (0 : Int))) = Value.bool false ∧ Value.bool (decide (Prod.snd (List.getD (rngsC c) s35 ((0 : Int), (0 : Int))) > (65535 : Int))) = Value.bool false ∧ (CallS Tryd.prog (nat_lit 121) [Value.pointer (some (Addr.mk (nat_lit 9) (nat_lit 1) none)), Value.int IntKind.u8 (body5_w_k6 c s35)] (Heap.mk (nat_lit 13) (Trie.node none (Trie.node none (body5_w_k9 c s35) (body5_w_k5 c s35)) (Trie.node none (body5_w_k7 c s35) (Trie.node none (Trie.node (some (Blk.own ((4 : Nat) * s35) (nat_lit 5))) Trie.leaf Trie.leaf) Trie.leaf)))) fun (v1 : Value) (h1 : Heap) => v1 = Value.nilIface ∧ h1 = Heap.mk (nat_lit 13) (body5_w_k3 c s35)) ∧ (CallS Tryd.prog (nat_lit 121) [Value.pointer (some (Addr.mk (nat_lit 9) (nat_lit 1) none)), Value.int IntKind.u8 (body5_w_k8 c s35)] (Heap.mk (nat_lit 13) (body5_w_k3 c s35)) fun (v1 : Value) (h1 : Heap) => v1 = Value.nilIface ∧ h1 = Heap.mk (nat_lit 13) (body5_w_k1 c s35)) ∧ Value.bool (decide (Prod.fst (List.getD (rngsC c) s35 ((0 : Int), (0 : Int))) < (0 : Int))) = Value.bool false ∧ Value.bool (decide (Prod.fst (List.getD (rngsC c) s35 ((0 : Int), (0 : Int))) > (65535 : Int))) = Value.bool false ∧ (CallS Tryd.prog (nat_lit 121) [Value.pointer (some (Addr.mk (nat_lit 9) (nat_lit 1) none)), Value.int IntKind.u8 (body5_w_k10 c s35)] (Heap.mk (nat_lit 13) (body5_w_k1 c s35)) fun (v1 : Value) (h1 : Heap) => v1 = Value.nilIface ∧ h1 = Heap.mk (nat_lit 13) (body5_w_k0 c s35)) ∧ (CallS Tryd.prog (nat_lit 121) [Value.pointer (some (Addr.mk (nat_lit 9) (nat_lit 1) none)), Value.int IntKind.u8 (IntKind.wrap IntKind.u8 (Int.fdiv (Prod.fst (List.getD (rngsC c) s35 ((0 : Int), (0 : Int)))) ((2 : Int) ^ min (Int.toNat (0 : Int)) (IntKind.bits IntKind.i64))))] (Heap.mk (nat_lit 13) (body5_w_k0 c s35)) fun (v1 : Value) (h1 : Heap) => v1 = Value.nilIface ∧ h1 = Heap.mk (nat_lit 13) (Trie.node none (Trie.node none (body5_w_k9 c s35) (Trie.node none (Trie.node (some (body5_w_k2 c s35)) Trie.leaf Trie.leaf) Trie.leaf)) (Trie.node none (body5_w_k7 c s35) (Trie.node none (Trie.node (some (body5_w_k12 c s35)) Trie.leaf Trie.leaf) Trie.leaf)))) ∧ ∃ (i35' : Nat), ∃ (s35' : Nat), i35' < i35 ∧ i35' + s35' = List.length (rngsC c) ∧ Value.int IntKind.i64 (IntKind.wrap IntKind.i64 ((↑s35 : Int) + (1 : Int))) = Value.int IntKind.i64 (↑s35' : Int) ∧ (some (body5_w_k12 c s35) = some (Blk.own ((4 : Nat) * s35') (nat_lit 5)) ∧ some (body5_w_k2 c s35) = some (Blk.cells [Value.bool false, adrV (9 : Nat) s35', Value.iface (nat_lit 1000003) (Value.tuple (Array.mk [Value.int IntKind.i64 (10 : Int), Value.int IntKind.i64 (1 : Int), Value.int IntKind.i64 (↑((4 : Nat) * s35') : Int), Value.agg (Array.mk (u8s (rngS (List.take s35' (rngsC c)))))]))] (nat_lit 111) Mode.fix) ∧ some (Blk.cells (catsL c) (nat_lit 23) Mode.fix) = some (Blk.cells (catsL c) (nat_lit 23) Mode.fix) ∧ True) ∧ true = true ∧ List.all [Value.bool false, adrV (9 : Nat) s35', Value.iface (nat_lit 1000003) (Value.tuple (Array.mk [Value.int IntKind.i64 (10 : Int), Value.int IntKind.i64 (1 : Int), Value.int IntKind.i64 (↑((4 : Nat) * s35') : Int), Value.agg (Array.mk (u8s (rngS (List.take s35' (rngsC c)))))]))] (refsOK (nat_lit 8) (nat_lit 11)) = true ∧ true = true ∧ True) ∧ (decide ((↑s35 : Int) < (↑(List.length (rngsC c)) : Int)) = false → (decide ((↑(List.length (rngsC c)) : Int) ≤ (7 : Int)) = true → Value.bool (decide ((↑((4 : Nat) * s35) : Int) > (65535 : Int))) = Value.bool false ∧ (CallS Tryd.prog (nat_lit 86) [Value.pointer (some (Addr.mk (nat_lit 9) (nat_lit 1) none))] (Heap.mk (nat_lit 11) (Trie.node none (Trie.node none Trie.leaf (body5_w_k5 c s35)) (Trie.node none (Trie.node none (Trie.node (some (Blk.cells (catsL c) (nat_lit 23) Mode.fix)) Trie.leaf Trie.leaf) Trie.leaf) (Trie.node none (Trie.node (some (Blk.own ((4 : Nat) * s35) (nat_lit 5))) Trie.leaf Trie.leaf) Trie.leaf)))) fun (v1 : Value) (h1 : Heap) => v1 = Value.string (strOf (Array.toList (Array.mk (u8s (rngS (List.take s35 (rngsC c))))))) ∧ h1 = Heap.mk (nat_lit 11) (body5_w_k11 c s35)) ∧ Value.tuple (Array.mk [Value.string (strOf (Array.toList (Array.mk (u8s (rngS (List.take s35 (rngsC c))))))), Value.bool true]) = Value.tuple (Array.mk [Value.string (bs (rngS (rngsC c))), Value.bool (decide (List.length (rngsC c) ≤ (7 : Nat)))])) ∧ (decide ((↑(List.length (rngsC c)) : Int) ≤ (7 : Int)) = false → Value.bool (decide ((↑((4 : Nat) * s35) : Int) > (65535 : Int))) = Value.bool false ∧ (CallS Tryd.prog (nat_lit 86) [Value.pointer (some (Addr.mk (nat_lit 9) (nat_lit 1) none))] (Heap.mk (nat_lit 11) (Trie.node none (Trie.node none Trie.leaf (body5_w_k5 c s35)) (Trie.node none (Trie.node none (Trie.node (some (Blk.cells (catsL c) (nat_lit 23) Mode.fix)) Trie.leaf Trie.leaf) Trie.leaf) (Trie.node none (Trie.node (some (Blk.own ((4 : Nat) * s35) (nat_lit 5))) Trie.leaf Trie.leaf) Trie.leaf)))) fun (v1 : Value) (h1 : Heap) => v1 = Value.string (strOf (Array.toList (Array.mk (u8s (rngS (List.take s35 (rngsC c))))))) ∧ h1 = Heap.mk (nat_lit 11) (body5_w_k11 c s35)) ∧ Value.tuple (Array.mk [Value.string (strOf (Array.toList (Array.mk (u8s (rngS (List.take s35 (rngsC c))))))), Value.bool false]) = Value.tuple (Array.mk [Value.string (bs (rngS (rngsC c))), Value.bool (decide (List.length (rngsC c) ≤ (7 : Nat)))])))) (by kernel_rfl) (by
    have hL : (rngsC c).length ≤ 240 := by
      have h1 : (rngsC c).length = (runsL (listC c)).length := List.length_reverse
      have h2 := runsL_len (listC c) (listC c).length
      have h3 : (listC c).length ≤ 240 := listN_length c 240
      rw [rnsK_all] at h2
      omega
    have hv : ∀ j, j < (rngsC c).length → 0 ≤ ((rngsC c).getD j (0, 0)).1 ∧ ((rngsC c).getD j (0, 0)).1 < 240 ∧ 0 ≤ ((rngsC c).getD j (0, 0)).2 ∧ ((rngsC c).getD j (0, 0)).2 < 240 := fun j h => by
      have hm : (rngsC c).getD j (0, 0) ∈ rngsC c := by simp [List.getD, h]
      have := (runs_ok c 240).each _ (List.mem_reverse.1 hm)
      omega
    refine ⟨ranges_w c hc, Weak.ownAt' 9 2 1 5 (by rfl) (by rfl) (by rfl) (by rfl), ⟨by omega, rfl, rfl⟩, fun i j u q => ⟨fun h1 => ?_, fun h1 => ?_⟩⟩
    · have hj : j < (rngsC c).length := by have := of_decide_eq_true h1; omega
      have hx := hv j hj
      have hp := prs_part (P := Tryd.prog) (l := rngsC c) (r := 0) (m := 2) hj (by omega) (o := Int.toNat ((Int.toNat (j : Int) * 2 : Nat) : Int)) rfl rfl
      have ht : rngS ((rngsC c).take (j + 1)) = rngS ((rngsC c).take j) ++ (shortB ((rngsC c).getD j (0, 0)).2 ++ shortB ((rngsC c).getD j (0, 0)).1) := by
        rw [take_snoc (0, 0) hj]
        simp [rngS]
      have hsz : (rngS ((rngsC c).take j)).length = 4 * j := by rw [rngS_len, List.length_take_of_le (by omega)]
      obtain ⟨hx1, hx2, hy1, hy2⟩ := hx
      have sc1 := short_cells hx1
      have sc2 := short_cells hy1
      have d1 : Value.bool (decide (((rngsC c).getD j (0, 0)).1 < 0)) = .bool false := congrArg Value.bool (decide_eq_false (by omega))
      have d2 : Value.bool (decide (((rngsC c).getD j (0, 0)).1 > 65535)) = .bool false := congrArg Value.bool (decide_eq_false (by omega))
      have d3 : Value.bool (decide (((rngsC c).getD j (0, 0)).2 < 0)) = .bool false := congrArg Value.bool (decide_eq_false (by omega))
      have d4 : Value.bool (decide (((rngsC c).getD j (0, 0)).2 > 65535)) = .bool false := congrArg Value.bool (decide_eq_false (by omega))
      refine ⟨⟨by omega, by omega⟩, hp, d3, d4, wbyte_o rfl (adrV_or 9 j) rfl (u8s_len hsz) ?_ ?_ rfl, wbyte_o rfl (.inr rfl) rfl ?_ ?_ ?_ rfl, d1, d2, wbyte_o rfl (.inr rfl) rfl ?_ ?_ ?_ rfl, wbyte_o rfl (.inr rfl) rfl ?_ ?_ ?_ rfl, i - 1, j + 1, by omega, by omega, wrap_next j (by omega), ⟨?_, ?_, rfl, trivial⟩, rfl, rfl, rfl, trivial⟩
      · rw [u8s_len hsz]
      · rw [u8s_len hsz]; omega
      · show ((u8s _) ++ [_]).length = _
        rw [List.length_append, u8s_length, hsz]
      · show _ = ((((u8s _) ++ [_]).length : Nat) : Int)
        rw [List.length_append, u8s_length, hsz]
        omega
      · show ((u8s _) ++ [_]).length + 1 ≤ _
        rw [List.length_append, u8s_length, hsz]
        simp
        omega
      · show ((u8s _) ++ [_] ++ [_]).length = _
        simp only [List.length_append, u8s_length, hsz]
      · show _ = ((((u8s _) ++ [_] ++ [_]).length : Nat) : Int)
        simp only [List.length_append, u8s_length, hsz]
        omega
      · show ((u8s _) ++ [_] ++ [_]).length + 1 ≤ _
        simp only [List.length_append, u8s_length, hsz, List.length_singleton]
        omega
      · show ((u8s _) ++ [_] ++ [_] ++ [_]).length = _
        simp only [List.length_append, u8s_length, hsz]
      · show _ = ((((u8s _) ++ [_] ++ [_] ++ [_]).length : Nat) : Int)
        simp only [List.length_append, u8s_length, hsz]
        omega
      · show ((u8s _) ++ [_] ++ [_] ++ [_]).length + 1 ≤ _
        simp only [List.length_append, u8s_length, hsz, List.length_singleton]
        omega
      · exact congrArg (fun n => some (Blk.own n 5)) (by simp only [List.length_singleton]; omega)
      · refine congrArg (fun z => some (Blk.cells [Value.bool false, Value.pointer (some ⟨9, 1, none⟩), z] 111 .fix)) (osl_eq ?_ ?_)
        · simp only [List.length_singleton]; omega
        · exact cat4 sc2 sc1 (by rw [ht, u8s_append, u8s_append])
    · obtain rfl : j = (rngsC c).length := by have := of_decide_eq_false h1; omega
      have d1 : Value.bool (decide (((4 * (rngsC c).length : Nat) : Int) > 65535)) = .bool false := congrArg Value.bool (decide_eq_false (by omega))
      have hsz : (rngS ((rngsC c).take (rngsC c).length)).length = 4 * (rngsC c).length := by rw [List.take_length]; exact rngS_len _
      have e : strOf (Array.toList (Array.mk (u8s (rngS ((rngsC c).take (rngsC c).length))))) = bs (rngS (rngsC c)) := by rw [str_bs, List.take_length]
      refine ⟨fun h => ⟨d1, str_o (l := rngS ((rngsC c).take (rngsC c).length)) rfl rfl rfl (u8s_len hsz) (by rw [u8s_len hsz]) (by rw [u8s_len hsz]; omega) rfl, ?_⟩, fun h => ⟨d1, str_o (l := rngS ((rngsC c).take (rngsC c).length)) rfl rfl rfl (u8s_len hsz) (by rw [u8s_len hsz]) (by rw [u8s_len hsz]; omega) rfl, ?_⟩⟩
      · have : (rngsC c).length ≤ 7 := by have := of_decide_eq_true h; omega
        rw [decide_eq_true this]
        exact congrArg (fun z => Value.tuple (Array.mk [Value.string z, Value.bool true])) e
      · have : ¬ (rngsC c).length ≤ 7 := by have := of_decide_eq_false h; omega
        rw [decide_eq_false this]
        exact congrArg (fun z => Value.tuple (Array.mk [Value.string z, Value.bool false])) e)
end Go.Proofs.YtidlganponfccaaDoor

end
section
/- What WriteString leaves, told so that it stays as it is: the bytes behind those that are known. -/
set_option linter.unusedVariables false
set_option linter.unusedSimpArgs false
set_option maxRecDepth 100000
namespace Go.Proofs.YtidlganponfccaaDoor
open Go Go.Ideal
def afterL (a : List Value) : List UInt8 → List Value
  | [] => a
  | b :: l => afterL (a ++ [.int .u8 b.toNat]) l
theorem afterL_eq : ∀ (l : List UInt8) (a : List Value), afterL a l = a ++ u8s l
  | [], a => by simp [afterL, u8s]
  | b :: l, a => by
    rw [afterL, afterL_eq l]
    simp [u8s]
def addS (i : Nat) (l : List UInt8) (h : Heap) : Option Heap := match h.get i with
  | some (.cells [x, _, b] t .fix) => match asOs b with
    | some (tok, es, n, os) => match h.get tok with
      | some (.own m u) => some (((h.set i (.cells [x, .pointer (some ⟨i, 1, none⟩), b] t .fix)).set tok (.own (m + l.length) u)).set i (.cells [x, .pointer (some ⟨i, 1, none⟩), osl tok es (n + (l.length : Nat)) ⟨afterL os.toList l⟩] t .fix))
      | _ => none
    | none => none
  | _ => none
theorem addS_eq (i : Nat) (l : List UInt8) (h : Heap) : addS i l h = addH i (u8s l) h := by
  unfold addS addH
  simp only [afterL_eq, u8s_length]
  rfl
def wstrS (u : TypeId) : List Value → Heap → Option (Value × Heap)
  | [.pointer (some ⟨i, _, none⟩), .string s], h => match addS i s.data.toList (bufH u i h) with
    | some h2 => some (.tuple #[.int .i64 s.size, .nilIface], h2)
    | none => none
  | _, _ => none
theorem wstrS_eq (u : TypeId) (args : List Value) (h : Heap) : wstrS u args h = wstrH u args h := by
  unfold wstrS wstrH
  simp only [addS_eq]
  rfl
theorem wstr_o2 {h h2 : Heap} {v : Value} {i tok m : Nat} {n : Int} {s : ByteArray} {os : Array Value} {x a : Value} (hg : h.get i = some (.cells [x, a, osl tok 1 n os] 111 .fix)) (ha : a = .pointer none ∨ a = .pointer (some ⟨i, 1, none⟩)) (ht : h.get tok = some (.own m 5)) (hos : os.size = m) (hn : n = (os.size : Nat)) (hb : os.size + s.data.toList.length ≤ 549755813888)
    (e : wstrS 5 [.pointer (some ⟨i, 1, none⟩), .string s] h = some (v, h2)) : CallS Tryd.prog 85 [.pointer (some ⟨i, 1, none⟩), .string s] h fun v1 h1 => v1 = v ∧ h1 = h2 :=
  wstr_o hg ha ht hos hn hb (by rw [← wstrS_eq]; exact e)
end Go.Proofs.YtidlganponfccaaDoor

end
section
/- Tags, options, and the shortest one. -/
set_option linter.unusedVariables false
set_option linter.unusedSimpArgs false
set_option maxRecDepth 100000
namespace Go.Proofs.YtidlganponfccaaDoor
open Go Go.Ideal
theorem body_w (k : Int) (c : List Int) (hc : CatsOK c) (hk : typeOk k = true) : CallK Tryd.prog 70 [.int .i64 k, catsV c] (.tuple (Array.mk [.string (bs (bodyS k c)), .bool (bodyOk k c)])) := by
  have : k = 1 ∨ k = 2 ∨ k = 5 := by
    unfold typeOk at hk
    simp at hk
    omega
  rcases this with rfl | rfl | rfl
  · exact body1_w c
  · exact body2_w c hc
  · exact body5_w c hc
theorem b8_fdiv (n : Int) : Value.int .u8 (IntKind.u8.wrap (Int.fdiv n (2 ^ min (Int.toNat 0) (IntKind.bits .i64)))) = .int .u8 ((b8 n).toNat : Nat) := by
  have e2 : (2 : Int) ^ min (Int.toNat 0) (IntKind.bits .i64) = 1 := rfl
  have e4 : n.fdiv 1 = n := by simp
  rw [e2, e4, b8_nat]
theorem tag_cells (k m l : Int) (s : Bs) : afterL [Value.int .u8 (IntKind.u8.wrap (Int.fdiv k (2 ^ min (Int.toNat 0) (IntKind.bits .i64)))), .int .u8 (IntKind.u8.wrap (Int.fdiv m (2 ^ min (Int.toNat 0) (IntKind.bits .i64)))), .int .u8 0, .int .u8 (IntKind.u8.wrap (Int.fdiv l (2 ^ min (Int.toNat 0) (IntKind.bits .i64))))] s = u8s (b8 k :: b8 m :: 0 :: b8 l :: s) := by
  rw [afterL_eq, b8_fdiv, b8_fdiv, b8_fdiv]
  rfl
theorem tagS_no {k : Int} {x : Lbl} (h : tagE k x ≠ 0) : tagS k x = [] := if_neg h
theorem tagE_bad {k : Int} {x : Lbl} (h : (rightL x && typeOk k) = false) : tagE k x = 1 := by
  unfold tagE
  rw [h]
  rfl
theorem tagE_long {k : Int} {x : Lbl} (h : (rightL x && typeOk k) = true) (h2 : bodyOk k x.cats = false) : tagE k x = 5 := by
  unfold tagE
  rw [h, h2]
  rfl
theorem tagE_ok {k : Int} {x : Lbl} (h : (rightL x && typeOk k) = true) (h2 : bodyOk k x.cats = true) : tagE k x = 0 := by
  unfold tagE
  rw [h, h2]
  rfl
theorem no_tag {k : Int} {x : Lbl} {e : Int} (h : tagE k x = e) (h2 : e ≠ 0) : Value.tuple (Array.mk [Value.string (ByteArray.mk #[]), .int .i64 e]) = .tuple (Array.mk [Value.string (bs (tagS k x)), .int .i64 (tagE k x)]) := by
  rw [tagS_no (by rw [h]; exact h2), h]
  rfl
theorem yes_tag {k : Int} {x : Lbl} (h : tagE k x = 0) : Value.tuple (Array.mk [Value.string (bs (b8 k :: b8 (4 + ((bodyS k x.cats).length : Int)) :: 0 :: b8 x.level :: bodyS k x.cats)), .int .i64 0]) = .tuple (Array.mk [Value.string (bs (tagS k x)), .int .i64 (tagE k x)]) := by
  unfold tagS
  rw [if_pos h, h]
theorem contains_w (k : Int) : CallK Tryd.prog 69 [vsl 3 (Array.mk [.int .i64 1, .int .i64 2, .int .i64 5]), .int .i64 k] (.bool (typeOk k)) := CallK.via progOK (pfs []) [] 100 (Adv.split (27 : Nat) Adv.nil (Adv.split (45 : Nat) Adv.nil (Adv.split (63 : Nat) Adv.nil Adv.nil))) (by kernel_rfl) (by kernel_rfl) (p := ((k == (1 : Int)) = true → Value.bool true = Value.bool (typeOk k)) ∧ ((k == (1 : Int)) = false → ((k == (2 : Int)) = true → Value.bool true = Value.bool (typeOk k)) ∧ ((k == (2 : Int)) = false → ((k == (5 : Int)) = true → Value.bool true = Value.bool (typeOk k)) ∧ ((k == (5 : Int)) = false → Value.bool false = Value.bool (typeOk k))))) (by kernel_rfl) (by
    unfold typeOk
    repeat' (first | apply And.intro | intro)
    all_goals simp_all)
def tag_w_k9  := (Trie.node (some (Blk.cells [Value.int IntKind.i64 (1 : Int), Value.int IntKind.i64 (2 : Int), Value.int IntKind.i64 (5 : Int)] (nat_lit 99) Mode.fix)) Trie.leaf Trie.leaf)
def tag_w_k0 (k : Int) (x : Lbl) := (Trie.node none (Trie.node none (Trie.node none (Trie.node (some (Blk.cells [Value.int IntKind.i64 k, Value.int IntKind.i64 (IntKind.wrap IntKind.i64 ((4 : Int) + (↑(ByteArray.size (bs (bodyS k (Lbl.cats x)))) : Int))), Value.int IntKind.i64 (0 : Int), Value.int IntKind.i64 (Lbl.level x)] (nat_lit 3) Mode.fix)) Trie.leaf Trie.leaf) Trie.leaf) (Trie.node (some (Blk.cells (Value.int IntKind.i64 (Lbl.level x) :: catsL (Lbl.cats x)) (nat_lit 43) Mode.fix)) Trie.leaf Trie.leaf)) (Trie.node none (tag_w_k9) (Trie.node (some (Blk.cells (Value.int IntKind.i64 (Lbl.level x) :: catsL (Lbl.cats x)) (nat_lit 43) Mode.fix)) Trie.leaf Trie.leaf)))
def tag_w_k3 (k : Int) (x : Lbl) := (Trie.node none (Trie.node none (Trie.node none (Trie.node (some (Blk.cells [Value.int IntKind.i64 k, Value.int IntKind.i64 (IntKind.wrap IntKind.i64 ((4 : Int) + (↑(ByteArray.size (bs (bodyS k (Lbl.cats x)))) : Int))), Value.int IntKind.i64 (0 : Int), Value.int IntKind.i64 (Lbl.level x)] (nat_lit 3) Mode.fix)) Trie.leaf Trie.leaf) Trie.leaf) (Trie.node (some (Blk.cells (Value.int IntKind.i64 (Lbl.level x) :: catsL (Lbl.cats x)) (nat_lit 43) Mode.fix)) Trie.leaf Trie.leaf)) (Trie.node none (Trie.node (some (Blk.cells [Value.int IntKind.i64 (1 : Int), Value.int IntKind.i64 (2 : Int), Value.int IntKind.i64 (5 : Int)] (nat_lit 99) Mode.fix)) (Trie.node (some (Blk.cells [Value.string (bs (bodyS k (Lbl.cats x)))] (nat_lit 9) Mode.fix)) Trie.leaf Trie.leaf) Trie.leaf) (Trie.node (some (Blk.cells (Value.int IntKind.i64 (Lbl.level x) :: catsL (Lbl.cats x)) (nat_lit 43) Mode.fix)) Trie.leaf Trie.leaf)))
def tag_w_k2 (k : Int) (x : Lbl) := (Array.mk [Value.int IntKind.u8 (IntKind.wrap IntKind.u8 (Int.fdiv k ((2 : Int) ^ min (Int.toNat (0 : Int)) (IntKind.bits IntKind.i64)))), Value.int IntKind.u8 (IntKind.wrap IntKind.u8 (Int.fdiv (IntKind.wrap IntKind.i64 ((4 : Int) + (↑(ByteArray.size (bs (bodyS k (Lbl.cats x)))) : Int))) ((2 : Int) ^ min (Int.toNat (0 : Int)) (IntKind.bits IntKind.i64)))), Value.int IntKind.u8 (0 : Int), Value.int IntKind.u8 (IntKind.wrap IntKind.u8 (Int.fdiv (Lbl.level x) ((2 : Int) ^ min (Int.toNat (0 : Int)) (IntKind.bits IntKind.i64))))])
def tag_w_k8 (k : Int) (x : Lbl) := (Trie.node none (tag_w_k9) (Trie.node (some (Blk.cells [Value.bool false, Value.pointer (some (Addr.mk (nat_lit 14) (nat_lit 1) none)), Value.iface (nat_lit 1000003) (Value.tuple (Array.mk [Value.int IntKind.i64 (16 : Int), Value.int IntKind.i64 (1 : Int), Value.int IntKind.i64 ((4 : Int) + (↑(List.length (Array.toList (ByteArray.data (bs (bodyS k (Lbl.cats x)))))) : Int)), Value.agg (Array.mk (afterL (Array.toList (tag_w_k2 k x)) (Array.toList (ByteArray.data (bs (bodyS k (Lbl.cats x)))))))]))] (nat_lit 111) Mode.fix)) Trie.leaf Trie.leaf))
def tag_w_k1 (k : Int) (x : Lbl) := (Trie.node none (tag_w_k3 k x) (Trie.node none (Trie.node none (Trie.node (some (Blk.cells (Value.int IntKind.i64 (Lbl.level x) :: catsL (Lbl.cats x)) (nat_lit 43) Mode.fix)) (Trie.node (some (Blk.own (nat_lit 4 + List.length (Array.toList (ByteArray.data (bs (bodyS k (Lbl.cats x)))))) (nat_lit 5))) Trie.leaf Trie.leaf) Trie.leaf) (Trie.node (some (Blk.cells (Value.int IntKind.i64 (Lbl.level x) :: catsL (Lbl.cats x)) (nat_lit 43) Mode.fix)) Trie.leaf Trie.leaf)) (tag_w_k8 k x)))
def tag_w_k4 (k : Int) (x : Lbl) := (Trie.node none (tag_w_k0 k x) (Trie.node none (Trie.node none (Trie.node (some (Blk.cells (Value.int IntKind.i64 (Lbl.level x) :: catsL (Lbl.cats x)) (nat_lit 43) Mode.fix)) (Trie.node (some (Blk.own (nat_lit 3) (nat_lit 5))) Trie.leaf Trie.leaf) Trie.leaf) (Trie.node (some (Blk.cells (Value.int IntKind.i64 (Lbl.level x) :: catsL (Lbl.cats x)) (nat_lit 43) Mode.fix)) Trie.leaf Trie.leaf)) (Trie.node none (tag_w_k9) (Trie.node (some (Blk.cells [Value.bool false, Value.pointer (some (Addr.mk (nat_lit 14) (nat_lit 1) none)), Value.iface (nat_lit 1000003) (Value.tuple (Array.mk [Value.int IntKind.i64 (16 : Int), Value.int IntKind.i64 (1 : Int), Value.int IntKind.i64 (3 : Int), Value.agg (Array.mk [Value.int IntKind.u8 (IntKind.wrap IntKind.u8 (Int.fdiv k ((2 : Int) ^ min (Int.toNat (0 : Int)) (IntKind.bits IntKind.i64)))), Value.int IntKind.u8 (IntKind.wrap IntKind.u8 (Int.fdiv (IntKind.wrap IntKind.i64 ((4 : Int) + (↑(ByteArray.size (bs (bodyS k (Lbl.cats x)))) : Int))) ((2 : Int) ^ min (Int.toNat (0 : Int)) (IntKind.bits IntKind.i64)))), Value.int IntKind.u8 (0 : Int)])]))] (nat_lit 111) Mode.fix)) Trie.leaf Trie.leaf))))
def tag_w_k5 (k : Int) (x : Lbl) := (Trie.node none (tag_w_k0 k x) (Trie.node none (Trie.node none (Trie.node (some (Blk.cells (Value.int IntKind.i64 (Lbl.level x) :: catsL (Lbl.cats x)) (nat_lit 43) Mode.fix)) (Trie.node (some (Blk.own (nat_lit 2) (nat_lit 5))) Trie.leaf Trie.leaf) Trie.leaf) (Trie.node (some (Blk.cells (Value.int IntKind.i64 (Lbl.level x) :: catsL (Lbl.cats x)) (nat_lit 43) Mode.fix)) Trie.leaf Trie.leaf)) (Trie.node none (tag_w_k9) (Trie.node (some (Blk.cells [Value.bool false, Value.pointer (some (Addr.mk (nat_lit 14) (nat_lit 1) none)), Value.iface (nat_lit 1000003) (Value.tuple (Array.mk [Value.int IntKind.i64 (16 : Int), Value.int IntKind.i64 (1 : Int), Value.int IntKind.i64 (2 : Int), Value.agg (Array.mk [Value.int IntKind.u8 (IntKind.wrap IntKind.u8 (Int.fdiv k ((2 : Int) ^ min (Int.toNat (0 : Int)) (IntKind.bits IntKind.i64)))), Value.int IntKind.u8 (IntKind.wrap IntKind.u8 (Int.fdiv (IntKind.wrap IntKind.i64 ((4 : Int) + (↑(ByteArray.size (bs (bodyS k (Lbl.cats x)))) : Int))) ((2 : Int) ^ min (Int.toNat (0 : Int)) (IntKind.bits IntKind.i64))))])]))] (nat_lit 111) Mode.fix)) Trie.leaf Trie.leaf))))
def tag_w_k6 (k : Int) (x : Lbl) := (Trie.node none (tag_w_k0 k x) (Trie.node none (Trie.node none (Trie.node (some (Blk.cells (Value.int IntKind.i64 (Lbl.level x) :: catsL (Lbl.cats x)) (nat_lit 43) Mode.fix)) (Trie.node (some (Blk.own (nat_lit 1) (nat_lit 5))) Trie.leaf Trie.leaf) Trie.leaf) (Trie.node (some (Blk.cells (Value.int IntKind.i64 (Lbl.level x) :: catsL (Lbl.cats x)) (nat_lit 43) Mode.fix)) Trie.leaf Trie.leaf)) (Trie.node none (tag_w_k9) (Trie.node (some (Blk.cells [Value.bool false, Value.pointer (some (Addr.mk (nat_lit 14) (nat_lit 1) none)), Value.iface (nat_lit 1000003) (Value.tuple (Array.mk [Value.int IntKind.i64 (16 : Int), Value.int IntKind.i64 (1 : Int), Value.int IntKind.i64 (1 : Int), Value.agg (Array.mk [Value.int IntKind.u8 (IntKind.wrap IntKind.u8 (Int.fdiv k ((2 : Int) ^ min (Int.toNat (0 : Int)) (IntKind.bits IntKind.i64))))])]))] (nat_lit 111) Mode.fix)) Trie.leaf Trie.leaf))))
def tag_w_k7 (k : Int) (x : Lbl) := (Trie.node none (Trie.node none (Trie.node (some (Blk.cells (Value.int IntKind.i64 (Lbl.level x) :: catsL (Lbl.cats x)) (nat_lit 43) Mode.fix)) (Trie.node (some (Blk.own (nat_lit 4) (nat_lit 5))) Trie.leaf Trie.leaf) Trie.leaf) (Trie.node (some (Blk.cells (Value.int IntKind.i64 (Lbl.level x) :: catsL (Lbl.cats x)) (nat_lit 43) Mode.fix)) Trie.leaf Trie.leaf)) (Trie.node none (tag_w_k9) (Trie.node (some (Blk.cells [Value.bool false, Value.pointer (some (Addr.mk (nat_lit 14) (nat_lit 1) none)), Value.iface (nat_lit 1000003) (Value.tuple (Array.mk [Value.int IntKind.i64 (16 : Int), Value.int IntKind.i64 (1 : Int), Value.int IntKind.i64 (4 : Int), Value.agg (tag_w_k2 k x)]))] (nat_lit 111) Mode.fix)) Trie.leaf Trie.leaf)))
theorem tag_w (k : Int) (x : Lbl) (hx : LblOK x) : CallK Tryd.prog 44 [.int .i64 k, lblV x] (.tuple (Array.mk [.string (bs (tagS k x)), .int .i64 (tagE k x)])) := CallK.via progOK (pfs []) [] 100 (Adv.split (44 : Nat) (Adv.split (48 : Nat) (Adv.bors (65 : Nat) (typeOk k) (Adv.pur (73 : Nat) (Value.tuple (Array.mk [Value.string (bs (bodyS k (Lbl.cats x))), Value.bool (bodyOk k (Lbl.cats x))])) (Adv.split (76 : Nat) (Adv.put (87 : Nat) (Value.bool false) (Adv.put (134 : Nat) (Value.bool false) (Adv.put (138 : Nat) (Value.bool false) (Adv.ctr (174 : Nat) Value.nilIface (Heap.mk (nat_lit 17) (tag_w_k6 k x)) (Adv.put (199 : Nat) (Value.bool false) (Adv.put (203 : Nat) (Value.bool false) (Adv.ctr (239 : Nat) Value.nilIface (Heap.mk (nat_lit 17) (tag_w_k5 k x)) (Adv.ctr (304 : Nat) Value.nilIface (Heap.mk (nat_lit 17) (tag_w_k4 k x)) (Adv.put (329 : Nat) (Value.bool false) (Adv.put (333 : Nat) (Value.bool false) (Adv.ctr (369 : Nat) Value.nilIface (Heap.mk (nat_lit 17) (Trie.node none (tag_w_k0 k x) (tag_w_k7 k x))) (Adv.ctr (433 : Nat) (Value.tuple (Array.mk [Value.int IntKind.i64 (↑(ByteArray.size (bs (bodyS k (Lbl.cats x)))) : Int), Value.nilIface])) (Heap.mk (nat_lit 18) (tag_w_k1 k x)) (Adv.put (483 : Nat) (Value.bool false) (Adv.ctr (490 : Nat) (Value.string (strOf (Array.toList (Array.mk (afterL (Array.toList (tag_w_k2 k x)) (Array.toList (ByteArray.data (bs (bodyS k (Lbl.cats x)))))))))) (Heap.mk (nat_lit 18) (Trie.node none (tag_w_k3 k x) (Trie.node none (Trie.node none (Trie.node (some (Blk.cells (Value.int IntKind.i64 (Lbl.level x) :: catsL (Lbl.cats x)) (nat_lit 43) Mode.fix)) (Trie.node (some (Blk.cells [] (nat_lit 0) Mode.dead)) Trie.leaf Trie.leaf) Trie.leaf) (Trie.node (some (Blk.cells (Value.int IntKind.i64 (Lbl.level x) :: catsL (Lbl.cats x)) (nat_lit 43) Mode.fix)) Trie.leaf Trie.leaf)) (tag_w_k8 k x)))) Adv.nil)))))))))))))) Adv.nil)) Adv.nil) Adv.nil) Adv.nil) (by kernel_rfl) (by kernel_rfl) (p := (decide (Lbl.level x ≥ (0 : Int)) = true → (decide (Lbl.level x ≤ (255 : Int)) = true → CallK Tryd.prog (nat_lit 69) [Value.iface (nat_lit 1000000) (Value.tuple (Array.mk [Value.int IntKind.i64 (3 : Int), Value.agg (Array.mk [Value.int IntKind.i64 (1 : Int), Value.int IntKind.i64 (2 : Int), Value.int IntKind.i64 (5 : Int)])])), Value.int IntKind.i64 k] (Value.bool (typeOk k)) ∧ (typeOk k = true → CallK Tryd.prog (nat_lit 70) [Value.int IntKind.i64 k, Value.agg (Array.mk (catsL (Lbl.cats x)))] (Value.tuple (Array.mk [Value.string (bs (bodyS k (Lbl.cats x))), Value.bool (bodyOk k (Lbl.cats x))])) ∧ (bodyOk k (Lbl.cats x) = true → Value.bool (decide (IntKind.wrap IntKind.i64 ((4 : Int) + (↑(ByteArray.size (bs (bodyS k (Lbl.cats x)))) : Int)) > (34 : Int))) = Value.bool false ∧ Value.bool (decide (k < (0 : Int))) = Value.bool false ∧ Value.bool (decide (k > (255 : Int))) = Value.bool false ∧ (CallS Tryd.prog (nat_lit 121) [Value.pointer (some (Addr.mk (nat_lit 14) (nat_lit 1) none)), Value.int IntKind.u8 (IntKind.wrap IntKind.u8 (Int.fdiv k ((2 : Int) ^ min (Int.toNat (0 : Int)) (IntKind.bits IntKind.i64))))] (Heap.mk (nat_lit 16) (Trie.node none (tag_w_k0 k x) (Trie.node none (Trie.node none (Trie.node (some (Blk.cells (Value.int IntKind.i64 (Lbl.level x) :: catsL (Lbl.cats x)) (nat_lit 43) Mode.fix)) Trie.leaf Trie.leaf) (Trie.node (some (Blk.cells (Value.int IntKind.i64 (Lbl.level x) :: catsL (Lbl.cats x)) (nat_lit 43) Mode.fix)) Trie.leaf Trie.leaf)) (Trie.node none (tag_w_k9) (Trie.node (some (Blk.cells [Value.bool false, Value.pointer none, Value.slice none (nat_lit 0) (nat_lit 0)] (nat_lit 111) Mode.fix)) Trie.leaf Trie.leaf))))) fun (v1 : Value) (h1 : Heap) => v1 = Value.nilIface ∧ h1 = Heap.mk (nat_lit 17) (tag_w_k6 k x)) ∧ Value.bool (decide (IntKind.wrap IntKind.i64 ((4 : Int) + (↑(ByteArray.size (bs (bodyS k (Lbl.cats x)))) : Int)) < (0 : Int))) = Value.bool false ∧ Value.bool (decide (IntKind.wrap IntKind.i64 ((4 : Int) + (↑(ByteArray.size (bs (bodyS k (Lbl.cats x)))) : Int)) > (255 : Int))) = Value.bool false ∧ (CallS Tryd.prog (nat_lit 121) [Value.pointer (some (Addr.mk (nat_lit 14) (nat_lit 1) none)), Value.int IntKind.u8 (IntKind.wrap IntKind.u8 (Int.fdiv (IntKind.wrap IntKind.i64 ((4 : Int) + (↑(ByteArray.size (bs (bodyS k (Lbl.cats x)))) : Int))) ((2 : Int) ^ min (Int.toNat (0 : Int)) (IntKind.bits IntKind.i64))))] (Heap.mk (nat_lit 17) (tag_w_k6 k x)) fun (v1 : Value) (h1 : Heap) => v1 = Value.nilIface ∧ h1 = Heap.mk (nat_lit 17) (tag_w_k5 k x)) ∧ (CallS Tryd.prog (nat_lit 121) [Value.pointer (some (Addr.mk (nat_lit 14) (nat_lit 1) none)), Value.int IntKind.u8 (0 : Int)] (Heap.mk (nat_lit 17) (tag_w_k5 k x)) fun (v1 : Value) (h1 : Heap) => v1 = Value.nilIface ∧ h1 = Heap.mk (nat_lit 17) (tag_w_k4 k x)) ∧ Value.bool (decide (Lbl.level x < (0 : Int))) = Value.bool false ∧ Value.bool (decide (Lbl.level x > (255 : Int))) = Value.bool false ∧ (CallS Tryd.prog (nat_lit 121) [Value.pointer (some (Addr.mk (nat_lit 14) (nat_lit 1) none)), Value.int IntKind.u8 (IntKind.wrap IntKind.u8 (Int.fdiv (Lbl.level x) ((2 : Int) ^ min (Int.toNat (0 : Int)) (IntKind.bits IntKind.i64))))] (Heap.mk (nat_lit 17) (tag_w_k4 k x)) fun (v1 : Value) (h1 : Heap) => v1 = Value.nilIface ∧ h1 = Heap.mk (nat_lit 17) (Trie.node none (tag_w_k0 k x) (tag_w_k7 k x))) ∧ (CallS Tryd.prog (nat_lit 85) [Value.pointer (some (Addr.mk (nat_lit 14) (nat_lit 1) none)), Value.string (bs (bodyS k (Lbl.cats x)))] (Heap.mk (nat_lit 18) (Trie.node none (tag_w_k3 k x) (tag_w_k7 k x))) fun (v1 : Value) (h1 : Heap) => v1 = Value.tuple (Array.mk [Value.int IntKind.i64 (↑(ByteArray.size (bs (bodyS k (Lbl.cats x)))) : Int), Value.nilIface]) ∧ h1 = Heap.mk (nat_lit 18) (tag_w_k1 k x)) ∧ Value.bool (decide ((4 : Int) + (↑(List.length (Array.toList (ByteArray.data (bs (bodyS k (Lbl.cats x)))))) : Int) > (65535 : Int))) = Value.bool false ∧ (CallS Tryd.prog (nat_lit 86) [Value.pointer (some (Addr.mk (nat_lit 14) (nat_lit 1) none))] (Heap.mk (nat_lit 18) (tag_w_k1 k x)) fun (v1 : Value) (h1 : Heap) => v1 = Value.string (strOf (Array.toList (Array.mk (afterL (Array.toList (tag_w_k2 k x)) (Array.toList (ByteArray.data (bs (bodyS k (Lbl.cats x))))))))) ∧ h1 = Heap.mk (nat_lit 18) (Trie.node none (tag_w_k3 k x) (Trie.node none (Trie.node none (Trie.node (some (Blk.cells (Value.int IntKind.i64 (Lbl.level x) :: catsL (Lbl.cats x)) (nat_lit 43) Mode.fix)) (Trie.node (some (Blk.cells [] (nat_lit 0) Mode.dead)) Trie.leaf Trie.leaf) Trie.leaf) (Trie.node (some (Blk.cells (Value.int IntKind.i64 (Lbl.level x) :: catsL (Lbl.cats x)) (nat_lit 43) Mode.fix)) Trie.leaf Trie.leaf)) (tag_w_k8 k x)))) ∧ Value.tuple (Array.mk [Value.string (strOf (Array.toList (Array.mk (afterL (Array.toList (tag_w_k2 k x)) (Array.toList (ByteArray.data (bs (bodyS k (Lbl.cats x))))))))), Value.int IntKind.i64 (0 : Int)]) = Value.tuple (Array.mk [Value.string (bs (tagS k x)), Value.int IntKind.i64 (tagE k x)])) ∧ (bodyOk k (Lbl.cats x) = false → Value.tuple (Array.mk [Value.string (ByteArray.mk #[]), Value.int IntKind.i64 (5 : Int)]) = Value.tuple (Array.mk [Value.string (bs (tagS k x)), Value.int IntKind.i64 (tagE k x)]))) ∧ (typeOk k = false → Value.tuple (Array.mk [Value.string (ByteArray.mk #[]), Value.int IntKind.i64 (1 : Int)]) = Value.tuple (Array.mk [Value.string (bs (tagS k x)), Value.int IntKind.i64 (tagE k x)]))) ∧ (decide (Lbl.level x ≤ (255 : Int)) = false → Value.tuple (Array.mk [Value.string (ByteArray.mk #[]), Value.int IntKind.i64 (1 : Int)]) = Value.tuple (Array.mk [Value.string (bs (tagS k x)), Value.int IntKind.i64 (tagE k x)]))) ∧ (decide (Lbl.level x ≥ (0 : Int)) = false → Value.tuple (Array.mk [Value.string (ByteArray.mk #[]), Value.int IntKind.i64 (1 : Int)]) = Value.tuple (Array.mk [Value.string (bs (tagS k x)), Value.int IntKind.i64 (tagE k x)]))) (by kernel_rfl) (by
    refine ⟨fun a1 => ⟨fun a2 => ⟨contains_w k, fun hk => ⟨body_w k _ hx hk, fun ho => ?_, fun ho => ?_⟩, fun hk => ?_⟩, fun a2 => ?_⟩, fun a1 => ?_⟩
    rotate_left 2
    · exact no_tag (tagE_bad (by rw [hk]; simp)) (by decide)
    · exact no_tag (tagE_bad (by unfold rightL; rw [a2]; simp)) (by decide)
    · exact no_tag (tagE_bad (by unfold rightL; rw [show decide (0 ≤ x.level) = false from a1]; simp)) (by decide)
    all_goals
      have kb : 1 ≤ k ∧ k ≤ 5 := by unfold typeOk at hk; simp at hk; omega
      have l0 : 0 ≤ x.level := of_decide_eq_true a1
      have l1 : x.level ≤ 255 := of_decide_eq_true a2
      have hr : (rightL x && typeOk k) = true := by unfold rightL; rw [hk, decide_eq_true l0, decide_eq_true l1]; rfl
    · have hl := bodyS_len ho
      have w1 : IntKind.i64.wrap (4 + ((bs (bodyS k x.cats)).size : Int)) = 4 + ((bodyS k x.cats).length : Int) := by rw [bs_size]; exact wrap_in (by omega) (by omega)
      have no : ∀ p : Prop, ∀ _ : Decidable p, ¬ p → Value.bool (decide p) = .bool false := fun p _ h => congrArg Value.bool (decide_eq_false h)
      have ac := tag_cells k (IntKind.i64.wrap (4 + ((bs (bodyS k x.cats)).size : Int))) x.level (bodyS k x.cats)
      have al := (congrArg List.length ac).trans (u8s_length _)
      have al2 : (b8 k :: b8 (IntKind.i64.wrap (4 + ((bs (bodyS k x.cats)).size : Int))) :: 0 :: b8 x.level :: bodyS k x.cats).length = 4 + (bodyS k x.cats).length := by simp only [List.length_cons]; omega
      have sb := (congrArg strOf ac).trans (strOf_u8s _)
      have yt := yes_tag (tagE_ok hr ho)
      rw [← w1] at yt
      refine ⟨no _ _ (by rw [w1]; omega), no _ _ (by omega), no _ _ (by omega), wbyte_n rfl (.inl rfl) rfl, no _ _ (by rw [w1]; omega), no _ _ (by rw [w1]; omega), wbyte_o rfl (.inr rfl) rfl rfl rfl (Nat.le_of_ble_eq_true rfl) rfl, wbyte_o rfl (.inr rfl) rfl rfl rfl (Nat.le_of_ble_eq_true rfl) rfl, no _ _ (by omega), no _ _ (by omega), wbyte_o rfl (.inr rfl) rfl rfl rfl (Nat.le_of_ble_eq_true rfl) rfl, wstr_o2 rfl (.inr rfl) rfl rfl rfl ?_ rfl, no _ _ ?_, str_o rfl rfl ac (al.trans al2) ?_ ?_ rfl, ?_⟩
      · show 4 + (bodyS k x.cats).length ≤ _
        omega
      · show ¬ (4 : Int) + ((bodyS k x.cats).length : Nat) > 65535
        omega
      · refine Eq.trans ?_ (congrArg (fun n : Nat => (n : Int)) (al.trans al2)).symm
        show 4 + ((bodyS k x.cats).length : Int) = _
        omega
      · refine Nat.le_trans (Nat.le_of_eq (al.trans al2)) ?_
        omega
      · exact (congrArg (fun z => Value.tuple (Array.mk [Value.string z, .int .i64 0])) sb).trans yt
    · exact no_tag (tagE_long hr ho) (by decide))
end Go.Proofs.YtidlganponfccaaDoor

end
