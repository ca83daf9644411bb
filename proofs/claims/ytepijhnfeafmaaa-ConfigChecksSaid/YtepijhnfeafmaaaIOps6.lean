/- Each operation of the ideal interpreter answers as the model's: conversions, operators, strings ranged over, built-in functions; all operations. Over any program. -/
import Derived.Test.YtepijhnfeafmaaaIOps5
import Derived.LaidEql
import Derived.Lib.SliceRun
set_option linter.unusedVariables false
set_option linter.unusedSimpArgs false
namespace Go.Ideal
open Go.RowKit

variable {P : Program} {B : Nat} {w0 : Org}

section
variable {w : World} {σ : Sg} {h h' : Heap} {ts : List Value} {a : Act} {v : Value} {dst : Option Tmp} {ty : TypeId} {pos : String} {after : Array Edge} {guard : Option (Nat × Bool)}

theorem bytes_ints : ∀ {cs : List Value} {l : List UInt8}, bytesI cs = some l → ∃ ns : List Int, cs = ns.map (Value.int .u8) ∧ l = ns.map fun n => UInt8.ofNat n.toNat
  | [], l, h => by simp only [bytesI, Option.some.injEq] at h; subst h; exact ⟨[], rfl, rfl⟩
  | .int .u8 n :: rest, l, h => by
    simp only [bytesI] at h
    cases hr : bytesI rest with
    | none => simp [hr] at h
    | some l' =>
      simp only [hr, Option.map_some, Option.some.injEq] at h; subst h
      obtain ⟨ns, rfl, rfl⟩ := bytes_ints hr
      exact ⟨n :: ns, rfl, rfl⟩
  | .int .i8 n :: rest, l, h => by simp [bytesI] at h
  | .int .i16 n :: rest, l, h => by simp [bytesI] at h
  | .int .i32 n :: rest, l, h => by simp [bytesI] at h
  | .int .i64 n :: rest, l, h => by simp [bytesI] at h
  | .int .u16 n :: rest, l, h => by simp [bytesI] at h
  | .int .u32 n :: rest, l, h => by simp [bytesI] at h
  | .int .u64 n :: rest, l, h => by simp [bytesI] at h
  | .bool _ :: _, _, h | .float _ _ :: _, _, h | .complex _ _ _ :: _, _, h | .string _ :: _, _, h | .pointer _ :: _, _, h | .slice _ _ _ :: _, _, h | .map _ :: _, _, h | .chan _ :: _, _, h
  | .func _ _ _ :: _, _, h | .nilFunc :: _, _, h | .iface _ _ :: _, _, h | .nilIface :: _, _, h | .agg _ :: _, _, h | .tuple _ :: _, _, h => by simp [bytesI] at h

theorem foldl_bytes (ns : List Int) : ∀ (r : ByteArray), ns.foldl (fun r n => r.push (UInt8.ofNat n.toNat)) r = ⟨r.data ++ (ns.map fun n => UInt8.ofNat n.toNat).toArray⟩ := by
  induction ns with
  | nil => intro r; simp
  | cons n ns ih =>
    intro r
    rw [List.foldl_cons, ih]
    congr 1
    apply Array.toList_inj.1
    simp [ByteArray.push]

theorem ints_same {ns : List Int} {cs : List Value} (h : LRel σ (ns.map (Value.int .u8)) cs) : cs = ns.map (Value.int .u8) := by
  induction ns generalizing cs with
  | nil => cases h; rfl
  | cons n ns ih => cases h with
    | cons hv ht => cases hv; rw [ih ht]; rfl

theorem convert_sound (H : HRel P B w0 σ h w) (hts : LRel σ ts a.tmps.toList) {s d : TypeId} {x : Operand} (hx : operandOK P x = true)
    (he : opB P ⟨dst, .convert s d x, ty, pos, after, guard⟩ ts h = some (v, h')) : OpRes P B w0 σ (execOp a.eval ⟨dst, .convert s d x, ty, pos, after, guard⟩) w v h' := by
  have k := ev_sound H hts hx
  simp only [opB] at he
  split at he
  · rename_i e str hs hd ex
    split at he
    · rename_i hu hsz
      simp only [Option.ite_none_right_eq_some, Nat.ble_eq, Option.some.injEq, Prod.mk.injEq] at he; obtain ⟨hle, rfl, rfl⟩ := he
      rw [ex] at k
      generalize hq : a.eval x = q at k
      cases k
      let w1 : World := { w with drawn := w.drawn + 1 }
      have H1 : HRel P B w0 σ h w1 := H.drew
      let nc := (Question.appendCap str.size 0 e).cut (w.tape w.drawn (Question.appendCap str.size 0 e))
      have hnc : str.size ≤ nc := cap_ge _ _ _ _
      let cs : List Value := str.data.toList.map fun b => .int .u8 b.toNat
      let rest : List Value := List.replicate (nc - str.size) (.int .u8 0)
      have hcl : cs.length = str.size := by simp only [cs, List.length_map, Array.length_toList]; rfl
      have hlen : (cs ++ rest).length = nc := by simp only [List.length_append, hcl, rest, List.length_replicate]; omega
      have hrel : LRel σ cs cs := LRel.map fun b _ => .int _ _
      obtain ⟨k1, k2⟩ := H1.push_grow (rest := rest) (t := e) (t' := e) (fz := (nc, nc + 1)) hsz hrel (by rw [hlen]; intro j hj; simp; omega)
      refine ⟨_, _, _, .slice (some ⟨w1.heap.size, 0, none⟩) str.size nc, k2, op_map rfl ?_, .inl rfl, ?_, k1⟩
      · have hch : (choose (Question.appendCap str.size 0 e)).run P w = .ok nc w1 := by simp [choose, Sem.run, Question.forced, nc, w1]
        have hcv : (convert s d (.string str)).run P w = (Conv.stringToBytes e str).run P w := by simp [convert, run_underlying hs, run_underlying hd, run_underlying hu]
        have harr : (str.data.map fun b => Value.int .u8 b.toNat) ++ Array.replicate (nc - str.size) (.int .u8 0) = (cs ++ rest).toArray := by
          apply Array.toList_inj.1; simp [cs, rest]
        rw [hq, hcv]
        unfold Conv.stringToBytes
        simp only [Sem.run_bind, hch, Result.andThen_ok, newRow, newObj, Sem.run, Sem.run_pure]
        rw [harr]
        have hshape : (w1.alloc (.cells (cs ++ rest).toArray e)).shape? w1.heap.size = some (e, nc) := by
          have : (w1.alloc (.cells (cs ++ rest).toArray e)).heap[w1.heap.size]? = some (.cells (cs ++ rest).toArray e (0, 0)) := by
            show (w1.heap.push _)[w1.heap.size]? = _; simp
          simp only [World.shape?, this]
          simp [hlen]
        have hfr : (w1.alloc (.cells (cs ++ rest).toArray e)).freeze ⟨w1.heap.size, nc, none⟩ 1 = w1.alloc (.cells (cs ++ rest).toArray e (nc, nc + 1)) := by
          unfold World.freeze
          simp only [Nat.one_ne_zero, if_false]
          unfold World.alloc
          congr 1
          apply Array.ext_getElem?
          intro j
          rw [Array.getElem?_modify]
          by_cases e1 : w1.heap.size = j
          · subst e1; simp
          · rw [if_neg e1, Array.getElem?_push, Array.getElem?_push]
            simp [Ne.symm e1]
        show ((markStringish ⟨w1.heap.size, 0, none⟩).run P (w1.alloc (.cells (cs ++ rest).toArray e))).andThen _ = _
        unfold markStringish
        simp only [Sem.run_bind, shape, Sem.run, hshape, Result.andThen_ok, freeze, hfr, Sem.run_pure]
      · have := VRel.sgrown (σ := σ.put h.next ⟨w1.heap.size, 0, .grown 1 (cs ++ rest).length⟩) (off := 0) (n := str.size) (c := str.size) (c' := nc) (Sg.put_self _ _ _) hnc (by rw [hlen]; omega)
        simpa using this
    · cases he
  · rename_i e ad n c hs hd ex
    split at he
    · rename_i hu
      rw [ex] at k
      split at he
      · simp only [Option.some.injEq, Prod.mk.injEq] at he; obtain ⟨rfl, rfl⟩ := he
        generalize hq : a.eval x = q at k
        cases k
        refine .same H (op_map rfl ?_) (.string _)
        simp [hq, convert, run_underlying hs, run_underlying hd, run_underlying hu, Conv.bytesToString]
      · rename_i ad2
        split at he
        · rename_i cs hr
          cases hb : bytesI cs with
          | none => simp [hb] at he
          | some l =>
            simp only [hb, Option.map_some, Option.some.injEq, Prod.mk.injEq] at he; obtain ⟨rfl, rfl⟩ := he
            obtain ⟨ns, rfl, rfl⟩ := bytes_ints hb
            obtain ⟨ad', c', e', hA⟩ := slice_inv k
            have hload : (loadCells ad' n).run P w = .ok (ns.map (Value.int .u8)).toArray w := by
              by_cases hn : 0 < n
              · obtain ⟨cs', k1, k2, _⟩ := rd_sound H hr (hA hn)
                rw [ints_same k2] at k1; exact k1
              · have hn0 : n = 0 := by omega
                subst hn0
                have : ns.map (Value.int .u8) = [] := by
                  unfold rdCells at hr
                  split at hr
                  · rename_i cells t m hg hsp
                    cases m <;> simp at hr <;> simp [hr.2]
                  · cases hr
                rw [this]
                simp [loadCells, loadCellsFrom]
            refine .same (v' := .string ⟨(ns.map fun n => UInt8.ofNat n.toNat).toArray⟩) H (op_map rfl ?_) (.string _)
            rw [e', run_convert_bytes_string w s d e _ _ _ hs hu hd, run_bytesToString w ad' n c' ns hload, foldl_bytes]
            congr 2
            simp
        · cases he
    · cases he
  · simp only [Option.ite_none_right_eq_some] at he
    obtain ⟨hf, he⟩ := he
    cases hp : pureRun P (convert s d (evI ts x)) with
    | none => simp [hp] at he
    | some u =>
      simp only [hp, Option.bind_some, Option.ite_none_right_eq_some, Option.some.injEq, Prod.mk.injEq] at he; obtain ⟨hfl, rfl, rfl⟩ := he
      exact .same H (op_map rfl (by rw [flat_ev H hts hx hf]; exact pureRun_run hp w)) (flat_rel hfl σ)

/-- An operation on values without addresses. -/
theorem pure_op_sound (H : HRel P B w0 σ h w) (hts : LRel σ ts a.tmps.toList) {o : Oper} (hsel : ∀ cs b, o.op ≠ .select cs b) (hok : operOK P o = true) (hf : ∀ x ∈ o.op.operands, flatOp ts x = true)
    (he : ((pureRun P (execOp (evI ts) o)).bind fun
      | .value v => if flat v then some (v, h) else none
      | _ => none) = some (v, h')) : OpRes P B w0 σ (execOp a.eval o) w v h' := by
  have hcong : execOp a.eval o = execOp (evI ts) o := execOp_congr o hsel fun x hx => flat_ev H hts (List.all_eq_true.1 hok x (by simpa using hx)) (hf x hx)
  cases hp : pureRun P (execOp (evI ts) o) with
  | none => simp [hp] at he
  | some nx =>
    cases nx <;> simp only [hp, Option.bind_some] at he <;> try (cases he; done)
    case value u =>
      simp only [Option.ite_none_right_eq_some, Option.some.injEq, Prod.mk.injEq] at he; obtain ⟨hfl, rfl, rfl⟩ := he
      exact .same H (by rw [hcong]; exact pureRun_run hp w) (flat_rel hfl σ)

theorem run_eqNil {t : TypeId} {x y x' y' : Value} {b : Bool} (he : eqNil P t x y = some b) (hx : VRel σ x x') (hy : VRel σ y y') (xo yo : Operand) (w : World) :
    ((do eqGuard .eql t xo yo x' y'; binOp .eql t x' y') : Sem Value).run P w = .ok (.bool b) w ∧ ((do eqGuard .neq t xo yo x' y'; binOp .neq t x' y') : Sem Value).run P w = .ok (.bool (!b)) w := by
  have key : (∀ d, (Op.equalIn (d + 1) t x' y').run P w = .ok b w) → (∀ op, eqGuard op t xo yo x' y' = pure ()) → (binOp .eql t x' y' = (do pure (.bool (← Op.equal t x' y')))) → (binOp .neq t x' y' = (do pure (.bool (!(← Op.equal t x' y'))))) →
      ((do eqGuard .eql t xo yo x' y'; binOp .eql t x' y') : Sem Value).run P w = .ok (.bool b) w ∧ ((do eqGuard .neq t xo yo x' y'; binOp .neq t x' y') : Sem Value).run P w = .ok (.bool (!b)) w := fun hd hg h1 h2 => by
    have he : (Op.equal t x' y').run P w = .ok b w := hd 9999
    rw [hg, hg, h1, h2]
    simp only [Sem.run_bind, Sem.run_pure, Result.andThen_ok, he, and_self]
  unfold eqNil at he
  split at he <;> first | (cases he; done) | skip
  all_goals
    rename_i hu
    first | (simp only [Option.some.injEq] at he; subst he) | (split at he; (cases he); rename_i ht; simp only [Option.some.injEq] at he; subst he)
    cases hx <;> cases hy <;> first | (rename_i h0 _; rw [ht] at h0; cases h0; done) | (simp [isV] at ht; done) | exact key (fun d => by simp [Op.equalIn, run_underlying hu]) (fun op => by cases op <;> rfl) rfl rfl

theorem binOp_sound (H : HRel P B w0 σ h w) (hts : LRel σ ts a.tmps.toList) {op : BinOp} {t t2 : TypeId} {x y : Operand} (hx : operandOK P x = true) (hy : operandOK P y = true)
    (he : opB P ⟨dst, .binOp op t x y t2, ty, pos, after, guard⟩ ts h = some (v, h')) : OpRes P B w0 σ (execOp a.eval ⟨dst, .binOp op t x y t2, ty, pos, after, guard⟩) w v h' := by
  have kx := ev_sound H hts hx
  have ky := ev_sound H hts hy
  simp only [opB] at he
  split at he
  · rename_i hf
    simp only [Bool.and_eq_true] at hf
    refine pure_op_sound H hts (by intro cs b hh; cases hh) ?_ ?_ he
    · simp [operOK, Op.operands, hx, hy]
    · simp [Op.operands, hf]
  · split at he
    · rename_i b hb
      simp only [Option.some.injEq, Prod.mk.injEq] at he; obtain ⟨rfl, rfl⟩ := he
      exact .same H (op_map rfl (run_eqNil hb kx ky x y w).1) (.bool _)
    · rename_i b hb
      simp only [Option.some.injEq, Prod.mk.injEq] at he; obtain ⟨rfl, rfl⟩ := he
      exact .same H (op_map rfl (run_eqNil hb kx ky x y w).2) (.bool _)
    · cases he

theorem unOp_sound (H : HRel P B w0 σ h w) (hts : LRel σ ts a.tmps.toList) {op : UnOp} {t : TypeId} {x : Operand} (hx : operandOK P x = true)
    (he : opB P ⟨dst, .unOp op t x, ty, pos, after, guard⟩ ts h = some (v, h')) : OpRes P B w0 σ (execOp a.eval ⟨dst, .unOp op t x, ty, pos, after, guard⟩) w v h' := by
  simp only [opB] at he
  split at he
  · rename_i hf
    refine pure_op_sound H hts (by intro cs b hh; cases hh) ?_ ?_ he
    · simp [operOK, Op.operands, hx]
    · simp [Op.operands, hf]
  · cases he

theorem range_sound (H : HRel P B w0 σ h w) (hts : LRel σ ts a.tmps.toList) {t : TypeId} {x : Operand} (hx : operandOK P x = true)
    (he : opB P ⟨dst, .range t x, ty, pos, after, guard⟩ ts h = some (v, h')) : OpRes P B w0 σ (execOp a.eval ⟨dst, .range t x, ty, pos, after, guard⟩) w v h' := by
  have k := ev_sound H hts hx
  simp only [opB] at he
  split at he
  · rename_i s hu e
    simp only [Option.some.injEq, Prod.mk.injEq] at he; obtain ⟨rfl, rfl⟩ := he
    rw [e] at k
    generalize hq : a.eval x = q at k
    cases k
    have hB : BRel P B (σ.put h.next ⟨w.heap.size, 0, .exact⟩) (w.alloc (.stringIter s 0)) h.next (.iter s 0) := ⟨w.heap.size, Sg.put_self _ _ _, H.size, by show (w.heap.push _)[w.heap.size]? = _; simp, H.frz.off (Nat.le_refl _)⟩
    obtain ⟨k1, k2⟩ := H.push hB
    refine ⟨_, _, _, .pointer (some ⟨w.heap.size, 0, none⟩), k2, op_map rfl ?_, .inl rfl, ptr_new, k1⟩
    simp [Instr.range, run_underlying hu, hq, newObj, Sem.run]
  · cases he

theorem next_sound (H : HRel P B w0 σ h w) (hts : LRel σ ts a.tmps.toList) {x : Operand} {b : Bool} (hx : operandOK P x = true)
    (he : opB P ⟨dst, .next x b, ty, pos, after, guard⟩ ts h = some (v, h')) : OpRes P B w0 σ (execOp a.eval ⟨dst, .next x b, ty, pos, after, guard⟩) w v h' := by
  have k := ev_sound H hts hx
  cases b with
  | false => simp [opB] at he
  | true =>
    simp only [opB] at he
    split at he
    · rename_i r e
      rw [e] at k
      obtain ⟨ad', e', b', o', k', g1, _, rfl⟩ := k.ptr_inv
      split at he
      · rename_i s p hg
        obtain ⟨b, q1, q2, q3, q4⟩ := H.blk _ _ hg
        rw [q1] at g1; simp only [Option.some.injEq, Spot.mk.injEq] at g1; obtain ⟨rfl, rfl, rfl⟩ := g1
        split at he
        · rename_i hlt
          simp only [Option.some.injEq, Prod.mk.injEq] at he; obtain ⟨rfl, rfl⟩ := he
          have hp := H.put (new := .iter s (p + (Utf8.decode s p).2)) (o := .stringIter s (p + (Utf8.decode s p).2)) hg rfl rfl q1 q2 ⟨b, q1, q2, (putBlock_get b (H.codom _ _ q1)).trans (if_pos rfl), q4⟩
          refine ⟨σ, _, _, .tuple #[.bool true, .int .i64 p, .int .i32 (Utf8.decode s p).1], Sg.le_refl σ, op_map rfl ?_, .inl rfl, VRel.tuple_of (.cons (.bool _) (.cons (.int _ _) (.cons (.int _ _) .nil))), hp⟩
          simp [Instr.next, e', getObj, Sem.run, q3, hlt, setObj, putBlock, goInt]
        · rename_i hlt
          simp only [Option.some.injEq, Prod.mk.injEq] at he; obtain ⟨rfl, rfl⟩ := he
          refine .same (v' := .tuple #[.bool false]) H (op_map rfl ?_) (VRel.tuple_of (.cons (.bool _) .nil))
          simp [Instr.next, e', getObj, Sem.run, q3, hlt]
      · cases he
    · cases he

end
end Go.Ideal
