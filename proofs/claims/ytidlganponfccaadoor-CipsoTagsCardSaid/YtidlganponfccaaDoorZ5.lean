/- Texts packed together: IOps6 IOps7 IFrz. -/
import Derived.LaidEql
import Derived.Lib.SliceRun
import Derived.Test.YtidlganponfccaaDoorZ4
section
/- Each operation of the ideal interpreter answers as the model's: conversions, operators, strings ranged over, built-in functions; all operations. Over any program. -/
set_option linter.unusedVariables false
set_option linter.unusedSimpArgs false
namespace Go.Ideal
open Go.RowKit

variable {P : Program} {B : Nat} {w0 : Org}

section
variable {w : World} {σ : Sg} {h h' : Heap} {ts : List Value} {a : Act} {v : Value} {dst : Option Tmp} {ty : TypeId} {pos : String} {after : Array Edge} {guard : Option (Nat × Bool)}

theorem bytes_ints : ∀ {cs : List Value} {l : List UInt8}, bytesI cs = some l → ∃ ns : List Int, cs = ns.map (Value.int .u8) ∧ l = ns.map fun n => UInt8.ofNat n.toNat
  | [], l, h => by simp only [bytesI, Option.some.injEq] at h; subst h; exact ⟨[], rfl, rfl⟩
  | .int .u8 n :: rest, l, h => by
    simp only [bytesI] at h
    cases hr : bytesI rest with
    | none => simp [hr] at h
    | some l' =>
      simp only [hr, Option.map_some, Option.some.injEq] at h; subst h
      obtain ⟨ns, rfl, rfl⟩ := bytes_ints hr
      exact ⟨n :: ns, rfl, rfl⟩
  | .int .i8 n :: rest, l, h => by simp [bytesI] at h
  | .int .i16 n :: rest, l, h => by simp [bytesI] at h
  | .int .i32 n :: rest, l, h => by simp [bytesI] at h
  | .int .i64 n :: rest, l, h => by simp [bytesI] at h
  | .int .u16 n :: rest, l, h => by simp [bytesI] at h
  | .int .u32 n :: rest, l, h => by simp [bytesI] at h
  | .int .u64 n :: rest, l, h => by simp [bytesI] at h
  | .bool _ :: _, _, h | .float _ _ :: _, _, h | .complex _ _ _ :: _, _, h | .string _ :: _, _, h | .pointer _ :: _, _, h | .slice _ _ _ :: _, _, h | .map _ :: _, _, h | .chan _ :: _, _, h
  | .func _ _ _ :: _, _, h | .nilFunc :: _, _, h | .iface _ _ :: _, _, h | .nilIface :: _, _, h | .agg _ :: _, _, h | .tuple _ :: _, _, h => by simp [bytesI] at h

theorem foldl_bytes (ns : List Int) : ∀ (r : ByteArray), ns.foldl (fun r n => r.push (UInt8.ofNat n.toNat)) r = ⟨r.data ++ (ns.map fun n => UInt8.ofNat n.toNat).toArray⟩ := by
  induction ns with
  | nil => intro r; simp
  | cons n ns ih =>
    intro r
    rw [List.foldl_cons, ih]
    congr 1
    apply Array.toList_inj.1
    simp [ByteArray.push]

theorem ints_same {ns : List Int} {cs : List Value} (h : LRel σ (ns.map (Value.int .u8)) cs) : cs = ns.map (Value.int .u8) := by
  induction ns generalizing cs with
  | nil => cases h; rfl
  | cons n ns ih => cases h with
    | cons hv ht => cases hv; rw [ih ht]; rfl

theorem convert_sound (H : HRel P B w0 σ h w) (hts : LRel σ ts a.tmps.toList) {s d : TypeId} {x : Operand} (hx : operandOK P x = true)
    (he : opB P ⟨dst, .convert s d x, ty, pos, after, guard⟩ ts h = some (v, h')) : OpRes P B w0 σ (execOp a.eval ⟨dst, .convert s d x, ty, pos, after, guard⟩) w v h' := by
  have k := ev_sound H hts hx
  simp only [opB] at he
  split at he
  · rename_i e str hs hd ex
    split at he
    · rename_i hu hsz
      simp only [Option.ite_none_right_eq_some, Nat.ble_eq, Option.some.injEq, Prod.mk.injEq] at he; obtain ⟨hle, rfl, rfl⟩ := he
      rw [ex] at k
      generalize hq : a.eval x = q at k
      cases k
      let w1 : World := { w with drawn := w.drawn + 1 }
      have H1 : HRel P B w0 σ h w1 := H.drew
      let nc := (Question.appendCap str.size 0 e).cut (w.tape w.drawn (Question.appendCap str.size 0 e))
      have hnc : str.size ≤ nc := cap_ge _ _ _ _
      let cs : List Value := str.data.toList.map fun b => .int .u8 b.toNat
      let rest : List Value := List.replicate (nc - str.size) (.int .u8 0)
      have hcl : cs.length = str.size := by simp only [cs, List.length_map, Array.length_toList]; rfl
      have hlen : (cs ++ rest).length = nc := by simp only [List.length_append, hcl, rest, List.length_replicate]; omega
      have hrel : LRel σ cs cs := LRel.map fun b _ => .int _ _
      obtain ⟨k1, k2⟩ := H1.push_grow (rest := rest) (t := e) (t' := e) (fz := (nc, nc + 1)) hsz hrel (by rw [hlen]; intro j hj; simp; omega)
      refine ⟨_, _, _, .slice (some ⟨w1.heap.size, 0, none⟩) str.size nc, k2, op_map rfl ?_, .inl rfl, ?_, k1⟩
      · have hch : (choose (Question.appendCap str.size 0 e)).run P w = .ok nc w1 := by simp [choose, Sem.run, Question.forced, nc, w1]
        have hcv : (convert s d (.string str)).run P w = (Conv.stringToBytes e str).run P w := by simp [convert, run_underlying hs, run_underlying hd, run_underlying hu]
        have harr : (str.data.map fun b => Value.int .u8 b.toNat) ++ Array.replicate (nc - str.size) (.int .u8 0) = (cs ++ rest).toArray := by
          apply Array.toList_inj.1; simp [cs, rest]
        rw [hq, hcv]
        unfold Conv.stringToBytes
        simp only [Sem.run_bind, hch, Result.andThen_ok, newRow, newObj, Sem.run, Sem.run_pure]
        rw [harr]
        have hshape : (w1.alloc (.cells (cs ++ rest).toArray e)).shape? w1.heap.size = some (e, nc) := by
          have : (w1.alloc (.cells (cs ++ rest).toArray e)).heap[w1.heap.size]? = some (.cells (cs ++ rest).toArray e (0, 0)) := by
            show (w1.heap.push _)[w1.heap.size]? = _; simp
          simp only [World.shape?, this]
          simp [hlen]
        have hfr : (w1.alloc (.cells (cs ++ rest).toArray e)).freeze ⟨w1.heap.size, nc, none⟩ 1 = w1.alloc (.cells (cs ++ rest).toArray e (nc, nc + 1)) := by
          unfold World.freeze
          simp only [Nat.one_ne_zero, if_false]
          unfold World.alloc
          congr 1
          apply Array.ext_getElem?
          intro j
          rw [Array.getElem?_modify]
          by_cases e1 : w1.heap.size = j
          · subst e1; simp
          · rw [if_neg e1, Array.getElem?_push, Array.getElem?_push]
            simp [Ne.symm e1]
        show ((markStringish ⟨w1.heap.size, 0, none⟩).run P (w1.alloc (.cells (cs ++ rest).toArray e))).andThen _ = _
        unfold markStringish
        simp only [Sem.run_bind, shape, Sem.run, hshape, Result.andThen_ok, freeze, hfr, Sem.run_pure]
      · have := VRel.sgrown (σ := σ.put h.next ⟨w1.heap.size, 0, .grown 1 (cs ++ rest).length⟩) (off := 0) (n := str.size) (c := str.size) (c' := nc) (Sg.put_self _ _ _) hnc (by rw [hlen]; omega)
        simpa using this
    · cases he
  · rename_i e ad n c hs hd ex
    split at he
    · rename_i hu
      rw [ex] at k
      split at he
      · simp only [Option.some.injEq, Prod.mk.injEq] at he; obtain ⟨rfl, rfl⟩ := he
        generalize hq : a.eval x = q at k
        cases k
        refine .same H (op_map rfl ?_) (.string _)
        simp [hq, convert, run_underlying hs, run_underlying hd, run_underlying hu, Conv.bytesToString]
      · rename_i ad2
        split at he
        · rename_i cs hr
          cases hb : bytesI cs with
          | none => simp [hb] at he
          | some l =>
            simp only [hb, Option.map_some, Option.some.injEq, Prod.mk.injEq] at he; obtain ⟨rfl, rfl⟩ := he
            obtain ⟨ns, rfl, rfl⟩ := bytes_ints hb
            obtain ⟨ad', c', e', hA⟩ := slice_inv k
            have hload : (loadCells ad' n).run P w = .ok (ns.map (Value.int .u8)).toArray w := by
              by_cases hn : 0 < n
              · obtain ⟨cs', k1, k2, _⟩ := rd_sound H hr (hA hn)
                rw [ints_same k2] at k1; exact k1
              · have hn0 : n = 0 := by omega
                subst hn0
                have : ns.map (Value.int .u8) = [] := by
                  unfold rdCells at hr
                  split at hr
                  · rename_i cells t m hg hsp
                    cases m <;> simp at hr <;> simp [hr.2]
                  · cases hr
                rw [this]
                simp [loadCells, loadCellsFrom]
            refine .same (v' := .string ⟨(ns.map fun n => UInt8.ofNat n.toNat).toArray⟩) H (op_map rfl ?_) (.string _)
            rw [e', run_convert_bytes_string w s d e _ _ _ hs hu hd, run_bytesToString w ad' n c' ns hload, foldl_bytes]
            congr 2
            simp
        · cases he
    · cases he
  · simp only [Option.ite_none_right_eq_some] at he
    obtain ⟨hf, he⟩ := he
    cases hp : pureRun P (convert s d (evI ts x)) with
    | none => simp [hp] at he
    | some u =>
      simp only [hp, Option.bind_some, Option.ite_none_right_eq_some, Option.some.injEq, Prod.mk.injEq] at he; obtain ⟨hfl, rfl, rfl⟩ := he
      exact .same H (op_map rfl (by rw [flat_ev H hts hx hf]; exact pureRun_run hp w)) (flat_rel hfl σ)

/-- An operation on values without addresses. -/
theorem pure_op_sound (H : HRel P B w0 σ h w) (hts : LRel σ ts a.tmps.toList) {o : Oper} (hsel : ∀ cs b, o.op ≠ .select cs b) (hok : operOK P o = true) (hf : ∀ x ∈ o.op.operands, flatOp ts x = true)
    (he : ((pureRun P (execOp (evI ts) o)).bind fun
      | .value v => if flat v then some (v, h) else none
      | _ => none) = some (v, h')) : OpRes P B w0 σ (execOp a.eval o) w v h' := by
  have hcong : execOp a.eval o = execOp (evI ts) o := execOp_congr o hsel fun x hx => flat_ev H hts (List.all_eq_true.1 hok x (by simpa using hx)) (hf x hx)
  cases hp : pureRun P (execOp (evI ts) o) with
  | none => simp [hp] at he
  | some nx =>
    cases nx <;> simp only [hp, Option.bind_some] at he <;> try (cases he; done)
    case value u =>
      simp only [Option.ite_none_right_eq_some, Option.some.injEq, Prod.mk.injEq] at he; obtain ⟨hfl, rfl, rfl⟩ := he
      exact .same H (by rw [hcong]; exact pureRun_run hp w) (flat_rel hfl σ)

theorem run_eqNil {t : TypeId} {x y x' y' : Value} {b : Bool} (he : eqNil P t x y = some b) (hx : VRel σ x x') (hy : VRel σ y y') (xo yo : Operand) (w : World) :
    ((do eqGuard .eql t xo yo x' y'; binOp .eql t x' y') : Sem Value).run P w = .ok (.bool b) w ∧ ((do eqGuard .neq t xo yo x' y'; binOp .neq t x' y') : Sem Value).run P w = .ok (.bool (!b)) w := by
  have key : (∀ d, (Op.equalIn (d + 1) t x' y').run P w = .ok b w) → (∀ op, eqGuard op t xo yo x' y' = pure ()) → (binOp .eql t x' y' = (do pure (.bool (← Op.equal t x' y')))) → (binOp .neq t x' y' = (do pure (.bool (!(← Op.equal t x' y'))))) →
      ((do eqGuard .eql t xo yo x' y'; binOp .eql t x' y') : Sem Value).run P w = .ok (.bool b) w ∧ ((do eqGuard .neq t xo yo x' y'; binOp .neq t x' y') : Sem Value).run P w = .ok (.bool (!b)) w := fun hd hg h1 h2 => by
    have he : (Op.equal t x' y').run P w = .ok b w := hd 9999
    rw [hg, hg, h1, h2]
    simp only [Sem.run_bind, Sem.run_pure, Result.andThen_ok, he, and_self]
  unfold eqNil at he
  split at he <;> first | (cases he; done) | skip
  all_goals
    rename_i hu
    first | (simp only [Option.some.injEq] at he; subst he) | (split at he; (cases he); rename_i ht; simp only [Option.some.injEq] at he; subst he)
    cases hx <;> cases hy <;> first | (rename_i h0 _; rw [ht] at h0; cases h0; done) | (simp [isV] at ht; done) | exact key (fun d => by simp [Op.equalIn, run_underlying hu]) (fun op => by cases op <;> rfl) rfl rfl

theorem binOp_sound (H : HRel P B w0 σ h w) (hts : LRel σ ts a.tmps.toList) {op : BinOp} {t t2 : TypeId} {x y : Operand} (hx : operandOK P x = true) (hy : operandOK P y = true)
    (he : opB P ⟨dst, .binOp op t x y t2, ty, pos, after, guard⟩ ts h = some (v, h')) : OpRes P B w0 σ (execOp a.eval ⟨dst, .binOp op t x y t2, ty, pos, after, guard⟩) w v h' := by
  have kx := ev_sound H hts hx
  have ky := ev_sound H hts hy
  simp only [opB] at he
  split at he
  · rename_i hf
    simp only [Bool.and_eq_true] at hf
    refine pure_op_sound H hts (by intro cs b hh; cases hh) ?_ ?_ he
    · simp [operOK, Op.operands, hx, hy]
    · simp [Op.operands, hf]
  · split at he
    · rename_i b hb
      simp only [Option.some.injEq, Prod.mk.injEq] at he; obtain ⟨rfl, rfl⟩ := he
      exact .same H (op_map rfl (run_eqNil hb kx ky x y w).1) (.bool _)
    · rename_i b hb
      simp only [Option.some.injEq, Prod.mk.injEq] at he; obtain ⟨rfl, rfl⟩ := he
      exact .same H (op_map rfl (run_eqNil hb kx ky x y w).2) (.bool _)
    · cases he

theorem unOp_sound (H : HRel P B w0 σ h w) (hts : LRel σ ts a.tmps.toList) {op : UnOp} {t : TypeId} {x : Operand} (hx : operandOK P x = true)
    (he : opB P ⟨dst, .unOp op t x, ty, pos, after, guard⟩ ts h = some (v, h')) : OpRes P B w0 σ (execOp a.eval ⟨dst, .unOp op t x, ty, pos, after, guard⟩) w v h' := by
  simp only [opB] at he
  split at he
  · rename_i hf
    refine pure_op_sound H hts (by intro cs b hh; cases hh) ?_ ?_ he
    · simp [operOK, Op.operands, hx]
    · simp [Op.operands, hf]
  · cases he

theorem range_sound (H : HRel P B w0 σ h w) (hts : LRel σ ts a.tmps.toList) {t : TypeId} {x : Operand} (hx : operandOK P x = true)
    (he : opB P ⟨dst, .range t x, ty, pos, after, guard⟩ ts h = some (v, h')) : OpRes P B w0 σ (execOp a.eval ⟨dst, .range t x, ty, pos, after, guard⟩) w v h' := by
  have k := ev_sound H hts hx
  simp only [opB] at he
  split at he
  · rename_i s hu e
    simp only [Option.some.injEq, Prod.mk.injEq] at he; obtain ⟨rfl, rfl⟩ := he
    rw [e] at k
    generalize hq : a.eval x = q at k
    cases k
    have hB : BRel P B (σ.put h.next ⟨w.heap.size, 0, .exact⟩) (w.alloc (.stringIter s 0)) h.next (.iter s 0) := ⟨w.heap.size, Sg.put_self _ _ _, H.size, by show (w.heap.push _)[w.heap.size]? = _; simp, H.frz.off (Nat.le_refl _)⟩
    obtain ⟨k1, k2⟩ := H.push hB
    refine ⟨_, _, _, .pointer (some ⟨w.heap.size, 0, none⟩), k2, op_map rfl ?_, .inl rfl, ptr_new, k1⟩
    simp [Instr.range, run_underlying hu, hq, newObj, Sem.run]
  · cases he

theorem next_sound (H : HRel P B w0 σ h w) (hts : LRel σ ts a.tmps.toList) {x : Operand} {b : Bool} (hx : operandOK P x = true)
    (he : opB P ⟨dst, .next x b, ty, pos, after, guard⟩ ts h = some (v, h')) : OpRes P B w0 σ (execOp a.eval ⟨dst, .next x b, ty, pos, after, guard⟩) w v h' := by
  have k := ev_sound H hts hx
  cases b with
  | false => simp [opB] at he
  | true =>
    simp only [opB] at he
    split at he
    · rename_i r e
      rw [e] at k
      obtain ⟨ad', e', b', o', k', g1, _, rfl⟩ := k.ptr_inv
      split at he
      · rename_i s p hg
        obtain ⟨b, q1, q2, q3, q4⟩ := H.blk _ _ hg
        rw [q1] at g1; simp only [Option.some.injEq, Spot.mk.injEq] at g1; obtain ⟨rfl, rfl, rfl⟩ := g1
        split at he
        · rename_i hlt
          simp only [Option.some.injEq, Prod.mk.injEq] at he; obtain ⟨rfl, rfl⟩ := he
          have hp := H.put (new := .iter s (p + (Utf8.decode s p).2)) (o := .stringIter s (p + (Utf8.decode s p).2)) hg rfl rfl q1 q2 ⟨b, q1, q2, (putBlock_get b (H.codom _ _ q1)).trans (if_pos rfl), q4⟩
          refine ⟨σ, _, _, .tuple #[.bool true, .int .i64 p, .int .i32 (Utf8.decode s p).1], Sg.le_refl σ, op_map rfl ?_, .inl rfl, VRel.tuple_of (.cons (.bool _) (.cons (.int _ _) (.cons (.int _ _) .nil))), hp⟩
          simp [Instr.next, e', getObj, Sem.run, q3, hlt, setObj, putBlock, goInt]
        · rename_i hlt
          simp only [Option.some.injEq, Prod.mk.injEq] at he; obtain ⟨rfl, rfl⟩ := he
          refine .same (v' := .tuple #[.bool false]) H (op_map rfl ?_) (VRel.tuple_of (.cons (.bool _) .nil))
          simp [Instr.next, e', getObj, Sem.run, q3, hlt]
      · cases he
    · cases he

end
end Go.Ideal

end
section
/- Each operation of the ideal interpreter answers as the model's: built-in functions; all operations together. Over any program. -/
set_option linter.unusedVariables false
set_option linter.unusedSimpArgs false
namespace Go.Ideal
open Go.RowKit

variable {P : Program} {B : Nat} {w0 : Org}

section
variable {w : World} {σ : Sg} {h h' : Heap} {ts : List Value} {a : Act} {v : Value} {dst : Option Tmp} {ty : TypeId} {pos : String} {after : Array Edge} {guard : Option (Nat × Bool)}

theorem first_zero {size : Nat} {x : Value} {new : List Value} (hf : firstI h size 0 x = some new) : new = [] := by
  unfold firstI at hf
  split at hf <;> simp_all

theorem args_rel (H : HRel P B w0 σ h w) (hts : LRel σ ts a.tmps.toList) {l : List Operand} (hl : l.all (operandOK P) = true) : LRel σ (l.map (evI ts)) (l.map a.eval) :=
  LRel.map fun x hx => ev_sound H hts (List.all_eq_true.1 hl x hx)

theorem two_args {args : Array Operand} {x y : Value} (he : args.toList.map (evI ts) = [x, y]) (hr : LRel σ (args.toList.map (evI ts)) (args.toList.map a.eval)) :
    ∃ x' y', args.map a.eval = #[x', y'] ∧ VRel σ x x' ∧ VRel σ y y' := by
  rw [he] at hr
  generalize hq : args.toList.map a.eval = l at hr
  cases hr with
  | cons h1 t => cases t with
    | cons h2 t => cases t
                   refine ⟨_, _, ?_, h1, h2⟩
                   apply Array.toList_inj.1
                   rw [Array.toList_map, hq]
theorem one_arg {args : Array Operand} {x : Value} (he : args.toList.map (evI ts) = [x]) (hr : LRel σ (args.toList.map (evI ts)) (args.toList.map a.eval)) :
    ∃ x', args.map a.eval = #[x'] ∧ VRel σ x x' := by
  rw [he] at hr
  generalize hq : args.toList.map a.eval = l at hr
  cases hr with
  | cons h1 t => cases t
                 refine ⟨_, ?_, h1⟩
                 apply Array.toList_inj.1
                 rw [Array.toList_map, hq]

theorem call_builtin {b : Builtin} {args : Array Operand} {argTypes : Array TypeId} :
    execOp a.eval ⟨dst, .call ⟨.builtin b, args, argTypes⟩, ty, pos, after, guard⟩ = builtin b argTypes ty (args.map fun | .const _ => true | _ => false) (args.map a.eval) := rfl

theorem builtin_sound (H : HRel P B w0 σ h w) (hts : LRel σ ts a.tmps.toList) {b : Builtin} {args : Array Operand} {argTypes : Array TypeId} (hargs : args.toList.all (operandOK P) = true)
    (he : builtinI P h b argTypes (args.toList.map (evI ts)) = some (v, h')) : OpRes P B w0 σ (execOp a.eval ⟨dst, .call ⟨.builtin b, args, argTypes⟩, ty, pos, after, guard⟩) w v h' := by
  have hr := args_rel H hts hargs
  rw [call_builtin]
  unfold builtinI at he
  split at he
  · rename_i s x ea
    obtain ⟨s', x', eargs, hs, hx⟩ := two_args ea hr
    rw [eargs]
    have key : ∀ {st xt elem : TypeId}, argTypes[0]? = some st → argTypes[1]? = some xt → P.underlying st = some (.slice elem) → ((∃ e, P.underlying xt = some (.slice e)) ∨ P.underlying xt = some .string) →
        (match sizeI P elem, lenI x with
        | some size, some n => match firstI h size n x with
          | some new => if Nat.beq new.length (n * size) then appendI P h elem s n new else none
          | none => none
        | _, _ => none) = some (v, h') → OpRes P B w0 σ (builtin .append argTypes ty (args.map fun | .const _ => true | _ => false) #[s', x']) w v h' := fun {st xt elem} h0 h1 hus hux he => by
      split at he
      · rename_i size n hsz hl
        split at he
        · rename_i new hf
          simp only [Option.ite_none_right_eq_some, Nat.beq_eq] at he
          obtain ⟨hnl, he⟩ := he
          obtain ⟨σ', w', v', k1, k2, k3, k4⟩ := append_sound (ty := ty) H h0 h1 hus hux hs hx hsz hl hf hnl he
          exact ⟨σ', w', .value v', v', k1, by simp [builtin, k2], .inl rfl, k3, k4⟩
        · cases he
      · cases he
    split at he
    · rename_i st xt h0 h1
      split at he
      · rename_i elem e2 hus hux
        exact key h0 h1 hus (.inl ⟨_, hux⟩) he
      · rename_i elem hus hux
        exact key h0 h1 hus (.inr hux) he
      · cases he
    · cases he
  · rename_i d x ea
    obtain ⟨d', x', eargs, hd, hx⟩ := two_args ea hr
    rw [eargs]
    split at he
    · rename_i dt h0
      split at he
      · rename_i elem base dl cap hu
        split at he
        · rename_i size xl hsz hl
          simp only at he
          split at he
          · rename_i new hf
            have hmin : Nat.min xl dl ≤ xl := Nat.min_le_left _ _
            obtain ⟨new', n1, n2, _⟩ := first_sound H hf hl hmin hx
            have hrun : ∀ {base' : Option Addr} {cap' : Nat} {w' : World}, d' = .slice base' dl cap' → ((match base' with | some a => storeCells a new' | none => pure ()) : Sem Unit).run P w = .ok () w' →
                (builtin .copy argTypes ty (args.map fun | .const _ => true | _ => false) #[d', x']).run P w = .ok (.value (.int .i64 (Nat.min xl dl))) w' := fun {base' cap' w'} e hst => by
              subst e
              have hc : (Builtin.copy_ argTypes ty #[.slice base' dl cap', x']).run P w = .ok (.int .i64 (Nat.min xl dl)) w' := by
                unfold Builtin.copy_
                simp only [h0, List.getElem?_toArray, List.getElem?_cons_zero, List.getElem?_cons_succ, Sem.run_bind, run_underlying hu, Result.andThen_ok]
                simp only [len_run hl hx, Result.andThen_ok, sizeOf_run hsz, n1]
                cases base' with
                | none => simp only [Sem.run_pure] at hst; simp at hst; subst hst; simp [goInt]
                | some a => simp only at hst; simp only [Sem.run_bind, hst, Result.andThen_ok, Sem.run_pure, goInt]
              simp [builtin, hc]
            split at he
            · simp only [Option.some.injEq, Prod.mk.injEq] at he; obtain ⟨rfl, rfl⟩ := he
              cases hd
              exact .same H (hrun rfl rfl) (.int _ _)
            · rename_i ad
              simp only [Option.some.injEq, Prod.mk.injEq] at he; obtain ⟨rfl, rfl⟩ := he
              cases n2
              obtain ⟨ad', c', e', _⟩ := slice_inv hd
              exact .same H (hrun e' (by simp [storeCells])) (.int _ _)
            · rename_i ad hne
              cases hw : wrCells h ad new with
              | none => simp [hw] at he
              | some h2 =>
                simp only [hw, Option.map_some, Option.some.injEq, Prod.mk.injEq] at he; obtain ⟨rfl, rfl⟩ := he
                obtain ⟨ad', c', e', hA⟩ := slice_inv hd
                have hdl : 0 < dl := by
                  rcases Nat.eq_zero_or_pos dl with e0 | e0
                  · subst e0
                    have : new = [] := by
                      have hm : Nat.min xl 0 = 0 := Nat.min_zero xl
                      rw [hm] at hf
                      exact first_zero hf
                    exact absurd this hne
                  · exact e0
                obtain ⟨w', k1, k2⟩ := wr_sound H hw (hA hdl) n2
                exact ⟨σ, w', _, _, Sg.le_refl σ, hrun e' k1, .inl rfl, .int _ _, k2⟩
          · cases he
        · cases he
      · cases he
    · cases he
  · rename_i x ea
    obtain ⟨x', eargs, hx⟩ := one_arg ea hr
    rw [eargs]
    split at he
    · rename_i t h0
      have len_res : ∀ {n : Int}, (Builtin.len_ argTypes ty #[x']).run P w = .ok (.int .i64 n) w → OpRes P B w0 σ (builtin .len argTypes ty (args.map fun | .const _ => true | _ => false) #[x']) w (.int .i64 n) h := fun {n} hn =>
        .same H (by simp [builtin, hn]) (.int _ _)
      split at he
      · rename_i e a2 n c hu
        simp only [Option.some.injEq, Prod.mk.injEq] at he; obtain ⟨rfl, rfl⟩ := he
        refine len_res ?_
        cases hx <;> simp [Builtin.len_, h0, run_underlying hu, goInt]
      · rename_i s hu
        simp only [Option.some.injEq, Prod.mk.injEq] at he; obtain ⟨rfl, rfl⟩ := he
        refine len_res ?_
        cases hx; simp [Builtin.len_, h0, run_underlying hu, goInt]
      · rename_i n e hu
        simp only [Option.some.injEq, Prod.mk.injEq] at he; obtain ⟨rfl, rfl⟩ := he
        exact len_res (by simp [Builtin.len_, h0, run_underlying hu, goInt])
      · rename_i arr hu
        split at he
        · rename_i n e hu2
          simp only [Option.some.injEq, Prod.mk.injEq] at he; obtain ⟨rfl, rfl⟩ := he
          exact len_res (by simp [Builtin.len_, h0, run_underlying hu, run_underlying hu2, goInt])
        · cases he
      · cases he
    · cases he
  · rename_i k x k2 y ea
    obtain ⟨x', y', eargs, hx, hy⟩ := two_args ea hr
    rw [eargs]
    simp only [Option.some.injEq, Prod.mk.injEq] at he; obtain ⟨rfl, rfl⟩ := he
    cases hx; cases hy
    exact .same H (by simp [builtin, Builtin.max_, Builtin.max2]) (.int _ _)
  · rename_i k x k2 y ea
    obtain ⟨x', y', eargs, hx, hy⟩ := two_args ea hr
    rw [eargs]
    simp only [Option.some.injEq, Prod.mk.injEq] at he; obtain ⟨rfl, rfl⟩ := he
    cases hx; cases hy
    exact .same H (by simp [builtin, Builtin.min_, Builtin.min2]) (.int _ _)
  · rename_i x ea
    obtain ⟨x', eargs, hx⟩ := one_arg ea hr
    rw [eargs]
    split at he
    · rename_i t h0
      have cap_res : ∀ {n : Int}, (Builtin.cap_ argTypes ty #[x']).run P w = .ok (.int .i64 n) w → OpRes P B w0 σ (builtin .cap argTypes ty (args.map fun | .const _ => true | _ => false) #[x']) w (.int .i64 n) h := fun {n} hn =>
        .same H (by simp [builtin, hn]) (.int _ _)
      split at he
      · rename_i e n c hu
        simp only [Option.some.injEq, Prod.mk.injEq] at he; obtain ⟨rfl, rfl⟩ := he
        refine cap_res ?_
        cases hx; simp [Builtin.cap_, h0, run_underlying hu, goInt]
      · rename_i e ad n c hu
        have key : (∃ m, modeOf h ad.block = some m ∧ (m = .fix ∨ m = .ro)) → some (Value.int .i64 c, h) = some (v, h') → OpRes P B w0 σ (builtin .cap argTypes ty (args.map fun | .const _ => true | _ => false) #[x']) w v h' := fun ⟨m, hm, hmm⟩ he => by
          simp only [Option.some.injEq, Prod.mk.injEq] at he; obtain ⟨rfl, rfl⟩ := he
          unfold modeOf at hm
          split at hm
          · rename_i cs bt m2 hg
            simp only [Option.some.injEq] at hm; subst hm
            obtain ⟨b, o, hxx⟩ := kind_exact H hg hmm
            obtain ⟨ad', rfl, _⟩ := slice_exact hx hxx
            exact cap_res (by simp [Builtin.cap_, h0, run_underlying hu, goInt])
          · cases hm
        split at he
        · rename_i hm; exact key ⟨_, hm, .inl rfl⟩ he
        · rename_i hm; exact key ⟨_, hm, .inr rfl⟩ he
        · cases he
      · cases he
    · cases he
  · cases he

theorem opB_sound (H : HRel P B w0 σ h w) (hts : LRel σ ts a.tmps.toList) {o : Oper} (hok : operOK P o = true) (he : opB P o ts h = some (v, h')) : OpRes P B w0 σ (execOp a.eval o) w v h' := by
  obtain ⟨dst, op, ty, pos, after, guard⟩ := o
  simp only [operOK] at hok
  cases op <;> simp only [Op.operands] at hok
  case move x =>
    simp only [List.all_cons, List.all_nil, Bool.and_true] at hok
    simp only [opB, Option.some.injEq, Prod.mk.injEq] at he; obtain ⟨rfl, rfl⟩ := he
    exact .same H (by simp [execOp]) (ev_sound H hts hok)
  case assign x =>
    simp only [List.all_cons, List.all_nil, Bool.and_true] at hok
    simp only [opB, Option.some.injEq, Prod.mk.injEq] at he; obtain ⟨rfl, rfl⟩ := he
    exact .same H (by simp [execOp]) (ev_sound H hts hok)
  case pick c x y => simp only [List.all_cons, List.all_nil, Bool.and_true, Bool.and_eq_true] at hok; exact pick_sound H hts hok.1 hok.2.1 hok.2.2 he
  case alloc t => exact alloc_sound H he
  case box t x => simp only [List.all_cons, List.all_nil, Bool.and_true] at hok; exact box_sound H hts hok he
  case build t ps => exact build_sound H hts (by simpa using hok) he
  case buildSlice t n ps => exact buildSlice_sound H hts (by simpa using hok) he
  case load t x => simp only [List.all_cons, List.all_nil, Bool.and_true] at hok; exact load_op_sound H hts hok he
  case store t x y => simp only [List.all_cons, List.all_nil, Bool.and_true, Bool.and_eq_true] at hok; exact store_op_sound H hts hok.1 hok.2 he
  case nilCheck x => simp only [List.all_cons, List.all_nil, Bool.and_true] at hok; exact nilCheck_sound H hts hok he
  case binOp op t x y t2 => simp only [List.all_cons, List.all_nil, Bool.and_true, Bool.and_eq_true] at hok; exact binOp_sound H hts hok.1 hok.2 he
  case unOp op t x => simp only [List.all_cons, List.all_nil, Bool.and_true] at hok; exact unOp_sound H hts hok he
  case convert s d x => simp only [List.all_cons, List.all_nil, Bool.and_true] at hok; exact convert_sound H hts hok he
  case makeInterface t x => simp only [List.all_cons, List.all_nil, Bool.and_true] at hok; exact makeInterface_sound H hts hok he
  case makeFunc fn x y => simp only [Array.toList_append, List.all_append, Bool.and_eq_true] at hok; exact makeFunc_sound H hts hok.1 hok.2 he
  case makeSlice t x y => simp only [List.all_cons, List.all_nil, Bool.and_true, Bool.and_eq_true] at hok; exact makeSlice_sound H hts hok.1 hok.2 he
  case slice t x lo hi mx =>
    simp only [Array.toList_append, List.all_append, Bool.and_eq_true] at hok
    exact slice_sound H hts (by simpa using hok.1.1.1) (by simpa using hok.1.1.2) (by simpa using hok.1.2) (by simpa using hok.2) he
  case fieldAddr s x f => simp only [List.all_cons, List.all_nil, Bool.and_true] at hok; exact fieldAddr_sound H hts hok he
  case field s x f => simp only [List.all_cons, List.all_nil, Bool.and_true] at hok; exact field_sound H hts hok he
  case indexAddr t x y => simp only [List.all_cons, List.all_nil, Bool.and_true, Bool.and_eq_true] at hok; exact indexAddr_sound H hts hok.1 hok.2 he
  case index t x y => simp only [List.all_cons, List.all_nil, Bool.and_true, Bool.and_eq_true] at hok; exact index_sound H hts hok.1 hok.2 he
  case range t x => simp only [List.all_cons, List.all_nil, Bool.and_true] at hok; exact range_sound H hts hok he
  case next x b => simp only [List.all_cons, List.all_nil, Bool.and_true] at hok; exact next_sound H hts hok he
  case typeAssert x xt at_ ok => simp only [List.all_cons, List.all_nil, Bool.and_true] at hok; exact typeAssert_sound H hts hok he
  case extract x i => simp only [List.all_cons, List.all_nil, Bool.and_true] at hok; exact extract_sound H hts hok he
  case call c =>
    obtain ⟨callee, args, argTypes⟩ := c
    cases callee with
    | value f => simp [opB] at he
    | invoke r m => simp [opB] at he
    | builtin b =>
      have hargs : args.toList.all (operandOK P) = true := by simpa [Call.operands] using hok
      simp only [opB] at he
      split at he
      · rename_i r hr
        simp only [Option.some.injEq] at he; subst he
        exact builtin_sound H hts hargs hr
      · split at he
        · rename_i hf
          refine pure_op_sound H hts (by intro cs b hh; cases hh) ?_ ?_ he
          · simpa [operOK, Op.operands, Call.operands] using hok
          · intro x hx
            simp only [Op.operands, Call.operands, Array.empty_append] at hx
            exact List.all_eq_true.1 hf x (by simpa using hx)
        · cases he
  all_goals (simp [opB] at he)

end
end Go.Ideal

end
section
/- Operations on values of memory that stays answer as the model's. Over any program. -/
set_option linter.unusedVariables false
set_option linter.unusedSimpArgs false
namespace Go.Ideal
open Go.RowKit

variable {P : Program} {B : Nat} {w0 : Org}

/-! ### the same value -/
theorem sameL_eq {n : Nat} (ih : ∀ v v' : Value, sameN n v v' = true → v = v') : ∀ (l l' : List Value), sameN.sameL n l l' = true → l = l'
  | [], [], _ => rfl
  | [], _ :: _, h => by simp [sameN.sameL] at h
  | _ :: _, [], h => by simp [sameN.sameL] at h
  | a :: l, b :: l', h => by
    simp only [sameN.sameL, Bool.and_eq_true] at h
    rw [ih a b h.1, sameL_eq ih l l' h.2]

theorem sameN_eq : ∀ (n : Nat) (v v' : Value), sameN n v v' = true → v = v'
  | 0, _, _, h => by simp [sameN] at h
  | n + 1, v, v', h => by
    have ihl := sameL_eq (sameN_eq n)
    cases v <;> cases v' <;> (try simp only [sameN, Bool.and_eq_true, decide_eq_true_eq, beq_iff_eq, Nat.beq_eq, Bool.false_eq_true] at h)
    case bool.bool => rw [h]
    case int.int => rw [h.1, h.2]
    case string.string s s' => rw [show s = s' from by cases s; cases s'; simp only [Array.toList_inj] at h; rw [h]]
    case pointer.pointer => rw [h]
    case slice.slice => rw [h.1.1, h.1.2, h.2]
    case map.map a b => cases a <;> cases b <;> first | rfl | (cases h)
    case chan.chan a b => cases a <;> cases b <;> first | rfl | (cases h)
    case nilFunc.nilFunc => rfl
    case nilIface.nilIface => rfl
    case iface.iface => rw [h.1, sameN_eq n _ _ h.2]
    case agg.agg a b => rw [Array.toList_inj.1 (ihl _ _ h)]
    case tuple.tuple a b => rw [Array.toList_inj.1 (ihl _ _ h)]

def Ask.holds (P : Program) : Ask → Prop
  | .le a b => a ≤ b
  | .lt a b => a < b
  | .eq a b => a = b
  | .part cs off n out => off + n ≤ cs.length ∧ (cs.drop off).take n = out
  | .bytes cs l => bytesI cs = some l
  | .ones cs => cs.all Go.Ideal.oneCell = true
  | .find kt k ks r => findI P kt k ks 0 = some r
  | .get vs i v => vs[i]? = some v
  | .ne a b => a ≠ b
  | .nle a b => a ≤ b
  | .eqv t x y b => eqD P 10000 t x y = some b
  | .partv t cs off v => partI P t cs off = some v
  | .byte s i b => ∃ c, s[i]? = some c ∧ b = c.toNat
  | .row rows r off n out => liveAt rows r = true ∧ off + n ≤ (cellsAt rows r).length ∧ ((cellsAt rows r).drop off).take n = out
  | .space rows r n => liveAt rows r = true ∧ n ≤ (cellsAt rows r).length
  | .full rows r n => liveAt rows r = true ∧ (cellsAt rows r).length = n
  | .flats cs => cs.all flat = true
theorem Ask.test_holds {a : Ask} (h : a.test = true) : a.holds P := by
  cases a with
  | le a b => simpa [Ask.test, Ask.holds] using h
  | lt a b => simpa [Ask.test, Ask.holds] using h
  | eq a b => simpa [Ask.test, Ask.holds] using h
  | get vs i v =>
    simp only [Ask.test] at h
    split at h
    · rename_i v' hv; exact (sameN_eq 6 _ _ h) ▸ hv
    · cases h
  | ones cs => exact h
  | flats cs => exact h
  | space rows r n => simpa [Ask.test, Ask.holds] using h
  | full rows r n => simpa [Ask.test, Ask.holds] using h
  | _ => cases h

/-- Cells that stay, in memory from a place on. -/
def Stay (F : Fz) (b o : Nat) (cs : Array Value) : Prop := ∃ ms : Array Value, cs.size = ms.size ∧ (∀ j, j < ms.size → F.c b (o + j) = some (ms.getD j undef)) ∧ ∀ j : Nat, FRel F (cs.getD j undef) (ms.getD j undef)

def SlRel (F : Fz) (n : Int) (cs : Array Value) (v' : Value) : Prop :=
  ∃ m : Nat, n = m ∧ ((∃ a' c', v' = .slice a' 0 c' ∧ m = 0 ∧ cs = #[]) ∨ ∃ b o c', v' = .slice (some ⟨b, o, none⟩) m c' ∧ m ≤ c' ∧ Stay F b o cs)

theorem asSl_rel {σ : Sg} {x x' : Value} {n : Int} {cs : Array Value} (h : asSl x = some (n, cs)) (hx : VRel σ x x') : SlRel σ.f n cs x' := by
  unfold asSl at h
  split at h
  · rename_i t a
    split at h
    · rename_i k n1 cs1 ha
      simp only [Option.some.injEq, Prod.mk.injEq] at h; obtain ⟨rfl, rfl⟩ := h
      obtain rfl : a = #[.int k n1, .agg cs1] := Array.toList_inj.1 ha
      cases hx with
      | iface _ ht _ => simp [isV] at ht
      | frz _ ht h =>
        cases h with
        | iface _ ht _ => simp [isV] at ht
        | vsl hc hs hF h => exact ⟨_, rfl, .inr ⟨_, _, _, rfl, hc, _, hs, hF, h⟩⟩
        | vnil a' c' => exact ⟨0, rfl, .inl ⟨a', c', rfl, rfl, rfl⟩⟩
    · rename_i v1 v2 k n1 cs1 ha
      simp only [Option.some.injEq, Prod.mk.injEq] at h; obtain ⟨rfl, rfl⟩ := h
      obtain rfl : a = #[v1, v2, .int k n1, .agg cs1] := Array.toList_inj.1 ha
      cases hx with
      | iface _ ht _ => simp [isV] at ht
      | frz _ ht h =>
        cases h with
        | iface _ ht _ => simp [isV] at ht
      | osnil tok es => exact ⟨0, rfl, .inl ⟨none, 0, rfl, rfl, rfl⟩⟩
      | osome hs hF h hT hp hn hc hnc => exact ⟨_, rfl, .inr ⟨_, 0, _, rfl, hnc, _, hs, fun j hj => by rw [Nat.zero_add]; exact hF j hj, h⟩⟩
    · cases h
  · cases h

theorem asPt_rel {σ : Sg} {x x' : Value} {off : Nat} {cs : Array Value} (h : asPt x = some (off, cs)) (hx : VRel σ x x') : ∃ b o, x' = .pointer (some ⟨b, o + off, none⟩) ∧ Stay σ.f b o cs := by
  unfold asPt at h
  split at h
  · rename_i t a
    split at h
    · rename_i k n1 cs1 ha
      simp only [Option.some.injEq, Prod.mk.injEq] at h; obtain ⟨rfl, rfl⟩ := h
      obtain rfl : a = #[.int k n1, .agg cs1] := Array.toList_inj.1 ha
      cases hx with
      | iface _ ht _ => simp [isV] at ht
      | frz _ ht h =>
        cases h with
        | iface _ ht _ => simp [isV] at ht
        | vpt hs hF h => exact ⟨_, _, by rw [Int.toNat_natCast], _, hs, hF, h⟩
    · cases h
  · cases h

theorem asMp_rel {σ : Sg} {x x' : Value} {ks vs : Array Value} (h : asMp x = some (ks, vs)) (hx : VRel σ x x') :
    ks.toList.all flat = true ∧ ∃ b es, x' = .map (some b) ∧ σ.f.m b = some es ∧ ks.size = es.size ∧ vs.size = es.size ∧ (∀ j : Nat, FRel σ.f (ks.getD j undef) ((es.map (·.key)).getD j undef)) ∧ ∀ j : Nat, FRel σ.f (vs.getD j undef) ((es.map (·.val)).getD j undef) := by
  unfold asMp at h
  split at h
  · rename_i t a
    split at h
    · rename_i k1 v1 ha
      simp only [Option.some.injEq, Prod.mk.injEq] at h; obtain ⟨rfl, rfl⟩ := h
      obtain rfl : a = #[.agg k1, .agg v1] := Array.toList_inj.1 ha
      cases hx with
      | iface _ ht _ => simp [isV] at ht
      | frz _ ht h =>
        cases h with
        | iface _ ht _ => simp [isV] at ht
        | vmp hfl hk hv hF h1 h2 => exact ⟨hfl, _, _, rfl, hF, hk, hv, h1, h2⟩
    · cases h
  · cases h

theorem FRel.vrel {σ : Sg} {v v' : Value} (h : FRel σ.f v v') : VRel σ v v' := by
  generalize hf : σ.f = F at h
  induction h with
  | bool b => exact .bool b
  | int k n => exact .int k n
  | float k n => exact .float k n
  | complex k n m => exact .complex k n m
  | string s => exact .string s
  | pnil => exact .pnil
  | snil n c => exact .snil n c
  | mnil => exact .mnil
  | cnil => exact .cnil
  | nilFunc => exact .nilFunc
  | nilIface => exact .nilIface
  | func fn ha hc _ _ i1 i2 => exact .func fn ha hc i1 i2
  | iface t ht _ ih => exact .iface t ht ih
  | agg ha _ ih => exact .agg ha ih
  | tuple ha _ ih => exact .tuple ha ih
  | vsl hc hs hF h _ => exact .frz _ rfl (hf ▸ .vsl hc hs hF h)
  | vnil a' c' => exact .frz _ rfl (hf ▸ .vnil a' c')
  | vpt hs hF h _ => exact .frz _ rfl (hf ▸ .vpt hs hF h)
  | vzc a' => exact .frz _ rfl (hf ▸ .vzc a')
  | any h => exact .frz _ rfl (hf ▸ .any h)
  | vmp hfl hk hv hF h1 h2 _ _ => exact .frz _ rfl (hf ▸ .vmp hfl hk hv hF h1 h2)

theorem Stay.vpt {F : Fz} {b o : Nat} {cs : Array Value} (h : Stay F b o cs) (off : Nat) : FRel F (vpt off cs) (.pointer (some ⟨b, o + off, none⟩)) :=
  let ⟨_, h1, h2, h3⟩ := h; .vpt h1 h2 h3
theorem Stay.vsl {F : Fz} {b o n c : Nat} {cs : Array Value} (h : Stay F b o cs) (hc : n ≤ c) : FRel F (vsl n cs) (.slice (some ⟨b, o, none⟩) n c) :=
  let ⟨_, h1, h2, h3⟩ := h; .vsl hc h1 h2 h3
theorem Stay.nil (F : Fz) (b o : Nat) : Stay F b o #[] := ⟨#[], rfl, fun j hj => absurd hj (Nat.not_lt_zero _), fun _ => FRel.undef F⟩

/-- A part of what stays. -/
theorem Stay.part {F : Fz} {b o : Nat} {cs : Array Value} (h : Stay F b o cs) (off n : Nat) (hle : off + n ≤ cs.size) : Stay F b (o + off) ((cs.toList.drop off).take n).toArray := by
  obtain ⟨ms, h1, h2, h3⟩ := h
  have e : ∀ (l : Array Value) (j : Nat), j < n → (((l.toList.drop off).take n).toArray).getD j undef = l.getD (off + j) undef := fun l j hj => by
    simp only [Array.getD_eq_getD_getElem?, List.getElem?_toArray, List.getElem?_take_of_lt hj, List.getElem?_drop, Array.getElem?_toList]
  have g : ∀ (l : Array Value) (j : Nat), n ≤ j → (((l.toList.drop off).take n).toArray).getD j undef = undef := fun l j hj => by
    simp only [Array.getD_eq_getD_getElem?, List.getElem?_toArray]
    rw [List.getElem?_eq_none (by simp; omega)]; rfl
  refine ⟨((ms.toList.drop off).take n).toArray, by simp; omega, fun j hj => ?_, fun j => ?_⟩
  · have hj' : j < n := by simp at hj; omega
    rw [e ms j hj', Nat.add_assoc]
    exact h2 _ (by omega)
  · rcases Nat.lt_or_ge j n with hj | hj
    · rw [e cs j hj, e ms j hj]; exact h3 _
    · rw [g cs j hj, g ms j hj]; exact FRel.undef F

/-- Loading what stays. -/
theorem Stay.load {F : Fz} {b o : Nat} {cs : Array Value} (h : Stay F b o cs) (off n : Nat) (hle : off + n ≤ cs.size) :
    ∃ ms : List Value, (∀ w, FzOK F w → (loadCells ⟨b, o + off, none⟩ n).run P w = .ok ms.toArray w) ∧ ms.length = n ∧ ∀ j : Nat, FRel F (((cs.toList.drop off).take n).getD j undef) (ms.getD j undef) := by
  obtain ⟨ms, h1, h2, h3⟩ := h.part off n hle
  have hn : ms.size = n := by rw [← h1]; simp; omega
  refine ⟨ms.toList, fun w hF => ?_, by simpa using hn, fun j => ?_⟩
  · have := run_loadCells_list (P := P) (w := w) ⟨b, o + off, none⟩ ms.toList (fun j v hv => by
      have hj : j < ms.size := by have := (List.getElem?_eq_some_iff.1 hv).1; simpa using this
      obtain ⟨cc, t, fz, k1, k2⟩ := hF.c _ _ _ (h2 j hj)
      rw [Addr.add_none, cell_of k1, k2]
      rw [Array.getElem?_toList] at hv
      simp only [Array.getD_eq_getD_getElem?, hv, Option.getD_some])
    rw [Array.length_toList, hn] at this
    exact this
  · have := h3 j
    simpa using this

section
variable {w : World} {σ : Sg} {h : Heap} {ts : List Value} {a : Act} {v : Value} {dst : Option Tmp} {ty : TypeId} {pos : String} {after : Array Edge} {guard : Option (Nat × Bool)} {told : Option Value} {l : List Ask}

def Holds (P : Program) (l : List Ask) : Prop := ∀ a ∈ l, a.holds P
theorem Holds.cons {x : Ask} {l : List Ask} (h : Holds P (x :: l)) : x.holds P ∧ Holds P l := ⟨h x (by simp), fun a ha => h a (by simp [ha])⟩

theorem ptPart_sound (H : HRel P B w0 σ h w) {t : TypeId} {b o off : Nat} {cs : Array Value} (hs : Stay σ.f b o cs) (he : ptPart P t off cs told = some (v, l)) (hl : Holds P l) :
    ∃ v', (loadVar t ⟨b, o + off, none⟩).run P w = .ok v' w ∧ FRel σ.f v v' := by
  unfold ptPart at he
  split at he
  · rename_i n h1 h2
    have agg : ∀ (out : List Value), off + n ≤ cs.size → (cs.toList.drop off).take n = out → ∃ v', (loadVar t ⟨b, o + off, none⟩).run P w = .ok v' w ∧ FRel σ.f (.agg out.toArray) v' := fun out hle e => by
      obtain ⟨ms, k1, k2, k3⟩ := hs.load (P := P) off n hle
      have k1 := k1 w H.frz
      refine ⟨.agg ms.toArray, by simp [loadVar, isAgg_run h1, sizeOf_run h2, k1], .agg ?_ fun j => ?_⟩
      · rw [← e]; simp; omega
      · have := k3 j
        rw [e] at this
        simpa using this
    split at he
    · rename_i l'
      simp only [Option.some.injEq, Prod.mk.injEq] at he; obtain ⟨rfl, rfl⟩ := he
      obtain ⟨q1, q2⟩ := hl.cons.1
      obtain ⟨v', g1, g2⟩ := agg l'.toList (by simpa using q1) q2
      exact ⟨v', g1, by simpa using g2⟩
    · cases he
    · simp only [Option.some.injEq, Prod.mk.injEq] at he; obtain ⟨rfl, rfl⟩ := he
      have q1 := hl.cons.1
      simp only [Ask.holds, Array.length_toList] at q1
      exact agg _ (by omega) rfl
  · rename_i n h1 h2
    have one : ∀ (u : Value), off + 1 ≤ cs.size → (cs.toList.drop off).take 1 = [u] → ∃ v', (loadVar t ⟨b, o + off, none⟩).run P w = .ok v' w ∧ FRel σ.f u v' := fun u hle e => by
      obtain ⟨ms, k1, k2, k3⟩ := hs.load (P := P) off 1 hle
      have k1 := k1 w H.frz
      match ms, k2 with
      | [m], _ =>
        refine ⟨m, ?_, by have := k3 0; rw [e] at this; simpa using this⟩
        simp only [loadCells, loadCellsFrom, Sem.run_bind] at k1
        simp only [loadVar, Sem.run_bind, isAgg_run h1, Result.andThen_ok]
        rw [Addr.add_zero'] at k1
        simp only [Bool.false_eq_true, if_false]
        cases hq : (load ⟨b, o + off, none⟩).run P w with
        | ok x y =>
          rw [hq] at k1
          simp only [Result.andThen_ok, Sem.run_pure] at k1
          simp at k1
          obtain ⟨rfl, rfl⟩ := k1
          rfl
        | halt x y => rw [hq] at k1; simp [Result.andThen] at k1
    split at he
    · simp only [Option.some.injEq, Prod.mk.injEq] at he; obtain ⟨rfl, rfl⟩ := he
      obtain ⟨q1, q2⟩ := hl.cons.1
      exact one _ (by simpa using q1) q2
    · split at he
      · rename_i u hu
        simp only [Option.some.injEq, Prod.mk.injEq] at he; obtain ⟨rfl, rfl⟩ := he
        have hlt := (List.getElem?_eq_some_iff.1 hu).1
        refine one u (by have h0 := hlt; simp at h0; omega) ?_
        rw [List.drop_eq_getElem_cons hlt]
        have := (List.getElem?_eq_some_iff.1 hu).2
        simp [this]
      · cases he
  · cases he

theorem nilSide_rel (H : HRel P B w0 σ h w) {t : TypeId} {x y x' y' : Value} (he : nilSide P t x y = some l) (hl : Holds P l) (hx : VRel σ x x') (hy : VRel σ y y') (xo yo : Operand) :
    (((do eqGuard .eql t xo yo x' y'; binOp .eql t x' y') : Sem Value).run P w = .ok (.bool false) w ∧ ((do eqGuard .neq t xo yo x' y'; binOp .neq t x' y') : Sem Value).run P w = .ok (.bool true) w) ∧
    (((do eqGuard .eql t yo xo y' x'; binOp .eql t y' x') : Sem Value).run P w = .ok (.bool false) w ∧ ((do eqGuard .neq t yo xo y' x'; binOp .neq t y' x') : Sem Value).run P w = .ok (.bool true) w) := by
  have key : ∀ (p q : Value), (∀ d, (Op.equalIn (d + 1) t p q).run P w = .ok false w) → (∀ op po qo, eqGuard op t po qo p q = pure ()) → (binOp .eql t p q = (do pure (.bool (← Op.equal t p q)))) → (binOp .neq t p q = (do pure (.bool (!(← Op.equal t p q))))) →
      ∀ po qo, ((do eqGuard .eql t po qo p q; binOp .eql t p q) : Sem Value).run P w = .ok (.bool false) w ∧ ((do eqGuard .neq t po qo p q; binOp .neq t p q) : Sem Value).run P w = .ok (.bool true) w := fun p q hd hg h1 h2 po qo => by
    have he : (Op.equal t p q).run P w = .ok false w := hd 9999
    rw [hg, hg, h1, h2]
    simp only [Sem.run_bind, Sem.run_pure, Result.andThen_ok, he, Bool.not_false, and_self]
  unfold nilSide at he
  split at he
  · rename_i e n c hu
    cases hs : asSl x with
    | none => simp [hs] at he
    | some r =>
      obtain ⟨n1, cs⟩ := r
      simp only [hs, Option.some.injEq] at he; subst he
      have hpos := hl.cons.1
      simp only [Ask.holds] at hpos
      obtain ⟨m, rfl, ⟨a', c', rfl, rfl, rfl⟩ | ⟨b, o, c', rfl, _, _⟩⟩ := asSl_rel hs hx
      · simp at hpos
      · cases hy
        exact ⟨key _ _ (fun d => by simp [Op.equalIn, run_underlying hu]) (fun op po qo => by cases op <;> rfl) rfl rfl _ _, key _ _ (fun d => by simp [Op.equalIn, run_underlying hu]) (fun op po qo => by cases op <;> rfl) rfl rfl _ _⟩
  · rename_i e hu
    cases hs : asPt x with
    | none => simp [hs] at he
    | some r =>
      obtain ⟨off, cs⟩ := r
      obtain ⟨b, o, rfl, _⟩ := asPt_rel hs hx
      cases hy
      exact ⟨key _ _ (fun d => by simp [Op.equalIn, run_underlying hu]) (fun op po qo => by cases op <;> rfl) rfl rfl _ _, key _ _ (fun d => by simp [Op.equalIn, run_underlying hu]) (fun op po qo => by cases op <;> rfl) rfl rfl _ _⟩
  · rename_i k e hu
    cases hs : asMp x with
    | none => simp [hs] at he
    | some r =>
      obtain ⟨ks, vs⟩ := r
      obtain ⟨_, b, es, rfl, _⟩ := asMp_rel hs hx
      cases hy
      exact ⟨key _ _ (fun d => by simp [Op.equalIn, run_underlying hu]) (fun op po qo => by cases op <;> rfl) rfl rfl _ _, key _ _ (fun d => by simp [Op.equalIn, run_underlying hu]) (fun op po qo => by cases op <;> rfl) rfl rfl _ _⟩
  · cases he

/-- An integer bound, as the model asks for it. -/
theorem bound_int {lo lo' : Value} {i : Int} (hi : intI lo = some i) (hr : VRel σ lo lo') {y : Nat} (h0 : 0 ≤ i) (hle : i ≤ y) (code : BoundsCode) : (Instr.sliceBound lo' y code).run P w = .ok i.toNat w := by
  obtain ⟨k, rfl⟩ := asInt_rel hi hr
  simp [Instr.sliceBound, asIntOf, h0, hle]

theorem Stay.cut {F : Fz} {b o : Nat} {cs : Array Value} (h : Stay F b o cs) (off n : Nat) : Stay F b (o + off) ((cs.toList.drop off).take n).toArray := by
  by_cases h1 : off ≤ cs.size
  · have e : (cs.toList.drop off).take n = (cs.toList.drop off).take (min n (cs.size - off)) := by
      rw [List.take_eq_take_min]; simp
    rw [e]
    exact h.part _ _ (by omega)
  · rw [List.drop_eq_nil_of_le (by simp; omega), List.take_nil]; exact Stay.nil F _ _

def topI (top : Option Int) (cap : Nat) : Nat := match top with | some m => m.toNat | none => cap

theorem slice_frz {elem : TypeId} {x' : Value} {n l0 hh : Int} {cs : Array Value} {size : Nat} {lo' hi' mx' : Option Value} {t : TypeId} (hu : P.underlying t = some (.slice elem)) (hs : sizeI P elem = some size) (hx : SlRel σ.f n cs x')
    (h0 : 0 ≤ l0) (h1 : l0 ≤ hh) (h2 : hh ≤ n) {top : Option Int} (ht : ∀ m, top = some m → hh ≤ m ∧ m ≤ n)
    (hb : ∀ (len cap : Nat), n = len → len ≤ cap → (Instr.sliceBounds true len cap lo' hi' mx').run P w = .ok (l0.toNat, hh.toNat, topI top cap) w) :
    ∃ u', (Instr.sliceAt t x' lo' hi' mx').run P w = .ok u' w ∧ FRel σ.f (vsl (hh - l0) ((cs.toList.drop (l0.toNat * size)).take ((hh - l0).toNat * size)).toArray) u' ∧ (hh = 0 → top = some 0 → ∃ a', u' = .slice a' 0 0) := by
  have hcast : hh - l0 = ((hh.toNat - l0.toNat : Nat) : Int) := by omega
  obtain ⟨m, rfl, ⟨a', c', rfl, rfl, rfl⟩ | ⟨b, o, c', rfl, hc, hst⟩⟩ := hx
  · obtain rfl : l0 = 0 := by simp at h2; omega
    obtain rfl : hh = 0 := by simp at h2; omega
    have k := hb 0 c' rfl (Nat.zero_le _)
    refine ⟨.slice (if topI top c' = 0 then a' else a'.map (·.add (0 * size))) 0 (topI top c' - 0), ?_, ?_, fun _ e => ?_⟩
    · simp only [Instr.sliceAt, Sem.run_bind, run_underlying hu, Result.andThen_ok]
      simp only [Instr.slice, Sem.run_bind, run_underlying hu, Result.andThen_ok, k, sizeOf_run hs, Sem.run_pure]
      simp
    · have := FRel.vnil (F := σ.f) (if topI top c' = 0 then a' else a'.map (·.add (0 * size))) (topI top c' - 0)
      simpa using this
    · subst e; exact ⟨_, rfl⟩
  · have k := hb m c' rfl hc
    refine ⟨.slice (if topI top c' = l0.toNat then some ⟨b, o, none⟩ else some (Addr.add ⟨b, o, none⟩ (l0.toNat * size))) (hh.toNat - l0.toNat) (topI top c' - l0.toNat), ?_, ?_, fun e0 e => ?_⟩
    · simp only [Instr.sliceAt, Sem.run_bind, run_underlying hu, Result.andThen_ok]
      simp only [Instr.slice, Sem.run_bind, run_underlying hu, Result.andThen_ok, k, sizeOf_run hs, Sem.run_pure]
      simp
    · have hle : hh.toNat - l0.toNat ≤ topI top c' - l0.toNat := by
        cases top with
        | none => simp only [topI]; omega
        | some q => have := ht q rfl; simp only [topI]; omega
      rw [hcast]
      split
      · rename_i e
        have e2 : hh.toNat - l0.toNat = 0 := by omega
        have e3 : (hh - l0).toNat = 0 := by omega
        have : ((cs.toList.drop (l0.toNat * size)).take (((hh.toNat - l0.toNat : Nat) : Int).toNat * size)).toArray = #[] := by rw [e2]; simp
        rw [this]
        exact (Stay.nil σ.f b o).vsl hle
      · rw [Addr.add_none]
        exact (hst.cut _ _).vsl hle
    · subst e; subst e0
      obtain rfl : l0 = 0 := by omega
      exact ⟨some ⟨b, o, none⟩, by simp only [topI, Int.toNat_zero, Nat.sub_self, if_true]⟩

theorem flatN_frel0 (F : Fz) : ∀ (n : Nat) {v : Value}, flatN n v = true → FRel F v v
  | 0, v, h => by simp [flatN] at h
  | n + 1, v, h => by
    have lst : ∀ (l : List Value), l.all (flatN n) = true → ∀ j : Nat, FRel F (l.getD j Go.undef) (l.getD j Go.undef) := fun l hl j => by
      rcases Nat.lt_or_ge j l.length with k | k
      · refine flatN_frel0 F n (List.all_eq_true.1 hl _ ?_)
        simp only [List.getD, List.getElem?_eq_getElem k, Option.getD_some]; exact List.getElem_mem k
      · simp only [List.getD, List.getElem?_eq_none k, Option.getD_none]; exact FRel.undef F
    have arr : ∀ (l : Array Value), l.toList.all (flatN n) = true → ∀ j : Nat, FRel F (l.getD j Go.undef) (l.getD j Go.undef) := fun l hl j => by simpa using lst l.toList hl j
    cases v with
    | bool b => exact .bool b
    | int k x => exact .int k x
    | float k x => exact .float k x
    | complex k x y => exact .complex k x y
    | string s => exact .string s
    | pointer a => cases a with
      | none => exact .pnil
      | some a => simp [flatN] at h
    | slice a x y => cases a with
      | none => exact .snil x y
      | some a => simp [flatN] at h
    | map r => cases r with
      | none => exact .mnil
      | some a => simp [flatN] at h
    | chan r => cases r with
      | none => exact .cnil
      | some a => simp [flatN] at h
    | func fn a c => simp only [flatN, Bool.and_eq_true] at h; exact .func fn rfl rfl (arr _ h.1) (arr _ h.2)
    | nilFunc => exact .nilFunc
    | iface t v =>
      cases ht : isV t with
      | true => simp [flatN, ht] at h
      | false => simp only [flatN, ht] at h; exact .iface t ht (flatN_frel0 F n h)
    | nilIface => exact .nilIface
    | agg cs => simp only [flatN] at h; exact .agg rfl (arr _ h)
    | tuple cs => simp only [flatN] at h; exact .tuple rfl fun j _ => arr _ h j
theorem flat_frel0 {l : List Value} (h : l.all flat = true) (F : Fz) (j : Nat) : FRel F (l.getD j Go.undef) (l.getD j Go.undef) := by
  rcases Nat.lt_or_ge j l.length with k | k
  · refine flatN_frel0 F 6 (List.all_eq_true.1 h _ ?_)
    simp only [List.getD, List.getElem?_eq_getElem k, Option.getD_some]; exact List.getElem_mem k
  · simp only [List.getD, List.getElem?_eq_none k, Option.getD_none]; exact FRel.undef F

/-! ### a block that is made, and stays -/
theorem Blk.loc_f {σ : Sg} (F : Fz) (i r : Nat) (b : Blk) : b.loc { σ with f := F } i r = b.loc σ i r := by
  cases b with
  | cells cs t m => cases m <;> rfl
  | _ => rfl
def Fz.with (F : Fz) (n : Nat) (cs : List Value) : Fz := ⟨fun b o => if b = n then cs[o]? else F.c b o, F.m⟩
theorem HRel.alloc_frz {w : World} {σ : Sg} {h : Heap} (H : HRel P B w0 σ h w) (cs : List Value) (t : TypeId) :
    σ.le { σ with f := σ.f.with w.heap.size cs } ∧ HRel P B w0 { σ with f := σ.f.with w.heap.size cs } h (w.alloc (.cells cs.toArray t)) := by
  have hoff := H.frz.off (Nat.le_refl w.heap.size)
  have hle : σ.le { σ with f := σ.f.with w.heap.size cs } := ⟨fun _ _ h => h, ⟨fun b o v hv => by
    show (if b = w.heap.size then cs[o]? else σ.f.c b o) = some v
    rw [if_neg (fun e => by subst e; rw [hoff.1 o] at hv; cases hv)]; exact hv, fun _ _ h => h⟩, fun _ _ _ h => h⟩
  have hsz : w.heap.size < (w.alloc (.cells cs.toArray t)).heap.size := by show _ < (w.heap.push _).size; simp
  have hfr := H.frz.alloc (.cells cs.toArray t)
  refine ⟨hle, ⟨H.below.alloc H.size _, Nat.le_of_lt (Nat.lt_of_le_of_lt H.size hsz), H.dom, fun i x hx => Nat.lt_trans (H.codom i x hx) hsz, H.glob, fun i b hg => ?_, fun i j r s bi bj b hi hj li lj => ?_, ⟨fun b o v hv => ?_, hfr.m⟩, ?_, H.tdom⟩⟩
  · refine (H.blk i b hg).mono hle (fun r b' hl => ?_) (fun r b' _ hl => ⟨?_, rfl⟩) fun _ => rfl
    · have := H.blk_lt hg hl
      show (w.heap.push _)[b']? = _
      rw [Array.getElem?_push, if_neg (by omega)]
    · have := H.blk_lt hg hl
      funext o
      exact if_neg (by omega)
  · rw [Blk.loc_f] at li lj
    exact H.inj i j r s bi bj b hi hj li lj
  · have hv' : (if b = w.heap.size then cs[o]? else σ.f.c b o) = some v := hv
    by_cases e : b = w.heap.size
    · rw [if_pos e] at hv'
      subst e
      exact ⟨cs.toArray, t, (0, 0), by show (w.heap.push _)[w.heap.size]? = _; simp, by simpa using hv'⟩
    · rw [if_neg e] at hv'
      exact hfr.c b o v hv'
  · refine ⟨fun b hb => ?_, H.old.2⟩
    have : b ≠ w.heap.size := by have := H.size; omega
    refine ⟨?_, (H.old.1 b hb).2⟩
    rw [← (H.old.1 b hb).1]
    funext o
    exact if_neg this

theorem buildFrz_sound (H : HRel P B w0 σ h w) (hts : LRel σ ts a.tmps.toList) {t elem : TypeId} {len size : Nat} {z cs : List Value} {ps : Array (Nat × Operand)} (hps : (ps.toList.map (·.2)).all (operandOK P) = true)
    (hu : P.underlying t = some (.slice elem)) (hs : sizeI P elem = some size) (hz : zeroI P elem = some z) (hb : (Nat.beq z.length size && Nat.ble (len * size) 16777216) = true)
    (hfi : fillI (fun i => some (i * size, size)) (zerosI z len) (ps.toList.map fun p => (p.1, evI ts p.2)) = some cs) (hfl : cs.all flat = true) : OpRes P B w0 σ (execOp a.eval ⟨dst, .buildSlice t len ps, ty, pos, after, guard⟩) w (vsl len cs.toArray) h := by
  obtain ⟨pl, pr⟩ := parts_rel H hts hps
  simp only [Bool.and_eq_true, Nat.beq_eq, Nat.ble_eq] at hb
  obtain ⟨hzl, hsm⟩ := hb
  obtain ⟨i, zv, hi, hiz, rfl, hf⟩ := zero_info hz
  have hzz : ((Array.range (len * size)).map (fun i => zv.cells[i % zv.cells.size]!)).toList = zerosI zv.cells.toList len := zeros_eq zv.cells len (len * size) (by rw [← hzl]; simp)
  obtain ⟨out, k1, k2⟩ := fill_sound (cells := (Array.range (len * size)).map (fun i => zv.cells[i % zv.cells.size]!)) hfi (by rw [hzz]; exact zeros_rel (zero_rel hz σ) len) pl pr
  have ho := flats_eq k2 hfl
  have ho : out = cs.toArray := by rw [← ho]
  subst ho
  obtain ⟨q1, q2⟩ := H.alloc_frz cs elem
  refine ⟨_, w.alloc (.cells cs.toArray elem), _, .slice (some ⟨w.heap.size, 0, none⟩) len len, q1, op_map rfl ?_, .inl rfl, .frz _ rfl (.vsl (Nat.le_refl _) rfl (fun j hj => ?_) fun j => ?_), q2⟩
  · rw [← parts_toList] at k1
    have hn : ¬ (len * size > 2 ^ 24) := by omega
    simp only [Instr.buildSlice, Sem.run_bind, run_underlying hu, Result.andThen_ok, sizeOf_run hs, hn, if_false]
    by_cases h0 : len * size = 0
    · have hc : ∀ f : Nat → Value, (Array.range (len * size)).map f = #[] := fun f => by simp [h0]
      rw [hc] at k1
      have k1' : Instr.fill (fun i => some (i * size, size)) #[] (ps.map fun x => (x.fst, a.eval x.snd)).toList = some cs.toArray := k1
      have hc2 : ∀ f : Nat → Value, (Array.range 0).map f = #[] := fun f => by simp
      simp only [h0, if_true, Sem.run_bind, Sem.run_pure, Result.andThen_ok, hc2, k1']
      simp [newRow, newObj, Sem.run]
    · have hzr : (zeroValue elem).run P w = .ok zv w := by simp [zeroValue, typeInfo, hi, hiz]
      simp only [h0, if_false, Sem.run_bind, hzr, Result.andThen_ok, Sem.run_pure, k1]
      simp [newRow, newObj, Sem.run]
  · show (if w.heap.size = w.heap.size then cs[0 + j]? else _) = _
    rw [if_pos rfl, Nat.zero_add]
    have hj : j < cs.length := by simpa using hj
    simp [hj]
  · simpa using flat_frel0 hfl _ j

theorem opV_sound (H : HRel P B w0 σ h w) (hts : LRel σ ts a.tmps.toList) {o : Oper} (hok : operOK P o = true) (he : opV P o ts told = some (v, l)) (hl : Holds P l) : OpRes P B w0 σ (execOp a.eval o) w v h := by
  obtain ⟨dst, op, ty, pos, after, guard⟩ := o
  simp only [operOK] at hok
  cases op <;> simp only [Op.operands] at hok <;> simp only [opV] at he <;> try (cases he; done)
  case indexAddr t x ix =>
    simp only [List.all_cons, List.all_nil, Bool.and_true, Bool.and_eq_true] at hok
    have kx := ev_sound H hts hok.1
    have ky := ev_sound H hts hok.2
    split at he
    · rename_i i elem hi hu
      obtain ⟨kk, ei⟩ := asInt_rel hi ky
      split at he
      · rename_i n cs size hs hsz
        simp only [Option.some.injEq, Prod.mk.injEq] at he; obtain ⟨rfl, rfl⟩ := he
        obtain ⟨q0, q1⟩ := hl.cons
        have q1 := q1.cons.1
        simp only [Ask.holds] at q0 q1
        obtain ⟨m, rfl, ⟨a', c', e', rfl, rfl⟩ | ⟨b, o, c', e', hc, hst⟩⟩ := asSl_rel hs kx
        · simp at q1; omega
        · have hb : 0 ≤ i ∧ i < (m : Int) := ⟨q0, q1⟩
          refine .same (v' := .pointer (some ⟨b, o + i.toNat * size, none⟩)) H (op_map rfl ?_) ((hst.vpt _).vrel)
          simp [Instr.indexAt, asIntOf, ei, run_underlying hu, e', hb, sizeOf_run hsz, Addr.add_none]
      · cases he
    · rename_i i len elem hi hu
      obtain ⟨kk, ei⟩ := asInt_rel hi ky
      split at he
      · rename_i off cs size hs hsz
        simp only [Option.some.injEq, Prod.mk.injEq] at he; obtain ⟨rfl, rfl⟩ := he
        obtain ⟨q0, q1⟩ := hl.cons
        have q1 := q1.cons.1
        simp only [Ask.holds] at q0 q1
        obtain ⟨b, o, e', hst⟩ := asPt_rel hs kx
        have hb : 0 ≤ i ∧ i < (len : Int) := ⟨q0, q1⟩
        refine .same (v' := .pointer (some ⟨b, o + (off + i.toNat * size), none⟩)) H (op_map rfl ?_) ((hst.vpt _).vrel)
        simp [Instr.indexAt, asIntOf, ei, run_underlying hu, e', Instr.sureAddr, hb, sizeOf_run hsz, Addr.add_none, Nat.add_assoc]
      · cases he
    · cases he
  case fieldAddr s x f =>
    simp only [List.all_cons, List.all_nil, Bool.and_true] at hok
    have kx := ev_sound H hts hok
    split at he
    · rename_i fl off cs hf hs
      obtain ⟨b, o, e', hst⟩ := asPt_rel hs kx
      unfold fieldOf at hf
      split at hf
      · rename_i fields hu
        cases hsz : sizeI P fl.type with
        | none => simp [hsz] at he
        | some n =>
          cases n with
          | zero => simp [hsz] at he
          | succ n =>
            simp only [hsz, Option.some.injEq, Prod.mk.injEq] at he; obtain ⟨rfl, rfl⟩ := he
            refine .same (v' := .pointer (some ⟨b, o + (off + fl.offset), none⟩)) H (op_map rfl ?_) ((hst.vpt _).vrel)
            simp [Instr.fieldAt, run_underlying hu, hf, e', Instr.sureAddr, fieldPlace, sizeOf_run hsz, Addr.add_none, Nat.add_assoc]
      · cases hf
    · cases he
  case nilCheck x =>
    simp only [List.all_cons, List.all_nil, Bool.and_true] at hok
    have kx := ev_sound H hts hok
    split at he
    · rename_i off cs hs
      simp only [Option.some.injEq, Prod.mk.injEq] at he; obtain ⟨rfl, rfl⟩ := he
      obtain ⟨b, o, e', hst⟩ := asPt_rel hs kx
      exact .same (v' := .pointer (some ⟨b, o + off, none⟩)) H (by simp [execOp, e']) ((hst.vpt _).vrel)
    · cases he
  case buildSlice t len ps =>
    split at he
    · cases he
    · split at he
      · rename_i elem hu
        split at he
        · rename_i size z hs hz
          split at he
          · rename_i hb
            split at he
            · rename_i cs hfi
              simp only [Option.some.injEq, Prod.mk.injEq] at he; obtain ⟨rfl, rfl⟩ := he
              exact buildFrz_sound H hts (by simpa using hok) hu hs hz hb hfi (show Ask.holds P (.flats cs) from hl _ (List.mem_singleton.2 rfl))
            · cases he
          · cases he
        · cases he
      · cases he
  case load t x =>
    simp only [List.all_cons, List.all_nil, Bool.and_true] at hok
    have kx := ev_sound H hts hok
    split at he
    · rename_i off cs hs
      obtain ⟨b, o, e', hst⟩ := asPt_rel hs kx
      obtain ⟨v', q1, q2⟩ := ptPart_sound H hst he hl
      exact .same H (op_map rfl (by simp [Instr.loadAt, e', Instr.sureAddr, q1])) q2.vrel
    · cases he
  case binOp op t x y t2 =>
    simp only [List.all_cons, List.all_nil, Bool.and_true, Bool.and_eq_true] at hok
    have kx := ev_sound H hts hok.1
    have ky := ev_sound H hts hok.2
    cases op <;> simp only at he <;> try (cases he; done)
    case eql =>
      split at he
      · rename_i l' hn
        simp only [Option.some.injEq, Prod.mk.injEq] at he; obtain ⟨rfl, rfl⟩ := he
        exact .same H (op_map rfl (nilSide_rel H hn hl kx ky x y).1.1) (.bool _)
      · split at he
        · rename_i l' hn
          simp only [Option.some.injEq, Prod.mk.injEq] at he; obtain ⟨rfl, rfl⟩ := he
          exact .same H (op_map rfl (nilSide_rel H hn hl ky kx y x).2.1) (.bool _)
        · cases he
    case neq =>
      split at he
      · rename_i l' hn
        simp only [Option.some.injEq, Prod.mk.injEq] at he; obtain ⟨rfl, rfl⟩ := he
        exact .same H (op_map rfl (nilSide_rel H hn hl kx ky x y).1.2) (.bool _)
      · split at he
        · rename_i l' hn
          simp only [Option.some.injEq, Prod.mk.injEq] at he; obtain ⟨rfl, rfl⟩ := he
          exact .same H (op_map rfl (nilSide_rel H hn hl ky kx y x).2.2) (.bool _)
        · cases he
  case convert s d x =>
    simp only [List.all_cons, List.all_nil, Bool.and_true] at hok
    have kx := ev_sound H hts hok
    have key : ∀ {e : TypeId} {n : Int} {cs : Array Value} {by_ : List UInt8}, P.underlying s = some (.slice e) → P.underlying d = some .string → P.underlying e = some (.int .u8) → asSl (evI ts x) = some (n, cs) → bytesI cs.toList = some by_ → n.toNat = cs.toList.length →
        OpRes P B w0 σ (execOp a.eval ⟨dst, .convert s d x, ty, pos, after, guard⟩) w (.string ⟨by_.toArray⟩) h := fun {e n cs by_} hu hd hb hs hby hlen => by
      obtain ⟨ns, e1, e2⟩ := bytes_ints hby
      obtain ⟨m, rfl, ⟨a', c', e', rfl, rfl⟩ | ⟨b, o, c', e', hc, hst⟩⟩ := asSl_rel hs kx
      · have : ns = [] := by cases ns with | nil => rfl | cons _ _ => simp at e1
        subst this
        subst e2
        cases a' with
        | none => exact .same H (op_map rfl (by simp [convert, hu, hd, hb, run_underlying, e', Conv.bytesToString]; rfl)) (.string _)
        | some ad =>
          refine .same (v' := .string ⟨#[]⟩) H (op_map rfl ?_) (.string _)
          rw [e', run_convert_bytes_string w s d e _ _ _ hu hb hd, run_bytesToString w ad 0 c' [] (by simp [loadCells, loadCellsFrom])]
          rfl
      · obtain ⟨ms, k1, k2, k3⟩ := hst.load (P := P) 0 m (by simp at hlen; omega)
        have k1 := k1 w H.frz
        have hm : m = cs.toList.length := by simpa using hlen
        have hms : ms = cs.toList := by
          apply List.ext_getElem?
          intro j
          rcases Nat.lt_or_ge j m with hj | hj
          · have := k3 j
            rw [List.drop_zero, List.take_of_length_le (by omega), e1] at this
            have hj2 : j < (ns.map (Value.int .u8)).length := by rw [← e1]; omega
            have hj3 : j < ms.length := by omega
            simp only [List.getD, List.getElem?_eq_getElem hj2, List.getElem?_eq_getElem hj3, Option.getD_some, List.getElem_map] at this
            rw [e1, List.getElem?_eq_getElem hj2, List.getElem?_eq_getElem hj3, List.getElem_map]
            generalize ms[j] = mj at this ⊢
            cases this
            rfl
          · rw [List.getElem?_eq_none (by omega), List.getElem?_eq_none (by omega)]
        subst e2
        have hload : (loadCells ⟨b, o, none⟩ m).run P w = .ok (ns.map (Value.int .u8)).toArray w := by rw [← e1, ← hms]; simpa using k1
        refine .same (v' := .string ⟨(ns.map fun n => UInt8.ofNat n.toNat).toArray⟩) H (op_map rfl ?_) (.string _)
        rw [e', run_convert_bytes_string w s d e _ _ _ hu hb hd, run_bytesToString w _ m c' ns hload, foldl_bytes]
        congr 2
        simp
    split at he
    · rename_i e n cs str hu hd hs
      split at he
      · rename_i hb
        simp only [Option.some.injEq, Prod.mk.injEq] at he; obtain ⟨rfl, rfl⟩ := he
        obtain ⟨q0, q1⟩ := hl.cons
        exact key hu hd hb hs q0 q1.cons.1
      · cases he
    · rename_i e n cs hu hd hs
      split at he
      · rename_i l' hb hby
        simp only [Option.some.injEq, Prod.mk.injEq] at he; obtain ⟨rfl, rfl⟩ := he
        exact key hu hd hb hs hby hl.cons.1
      · cases he
    · cases he
  case slice t x lo hi mx =>
    simp only [Array.toList_append, List.all_append, Bool.and_eq_true] at hok
    have kx := ev_sound H hts (x := x) (by simpa using hok.1.1.1)
    have klo := opt_rel H hts (x := lo) (by simpa using hok.1.1.2)
    have khi := opt_rel H hts (x := hi) (by simpa using hok.1.2)
    have kmx := opt_rel H hts (x := mx) (by simpa using hok.2)
    split at he
    · rename_i elem hu
      split at he
      · rename_i n cs size lo2 hi2 hs hsz hmx
        rw [hmx] at kmx
        generalize hq : mx.map a.eval = mx' at kmx
        cases kmx
        split at he
        · rename_i l0 hh el eh
          simp only [Option.some.injEq, Prod.mk.injEq] at he; obtain ⟨rfl, rfl⟩ := he
          obtain ⟨q0, q1⟩ := hl.cons
          obtain ⟨q1, q2⟩ := q1.cons
          have q2 := q2.cons.1
          simp only [Ask.holds] at q0 q1 q2
          obtain ⟨u', g1, g2, _⟩ := slice_frz (w := w) (lo' := lo.map a.eval) (hi' := hi.map a.eval) (mx' := none) hu hsz (asSl_rel hs kx) q0 q1 q2 (top := none) (fun m e => by cases e) (fun len cap e hc => by
            have hH : (match (hi.map a.eval) with | some v => Instr.sliceBound v cap BoundsCode.sliceAcap | none => pure len : Sem Nat).run P w = .ok hh.toNat w := by
              cases hev : hi.map (evI ts) with
              | none =>
                rw [hev] at khi eh
                generalize hq2 : hi.map a.eval = hi' at khi
                cases khi
                simp only [Option.some.injEq] at eh
                subst eh; subst e; simp
              | some u =>
                rw [hev] at khi eh
                generalize hq2 : hi.map a.eval = hi' at khi
                cases khi with
                | some hr => exact bound_int eh hr (by omega) (by omega) _
            have hL : (match (lo.map a.eval) with | some v => Instr.sliceBound v hh.toNat BoundsCode.sliceB | none => pure 0 : Sem Nat).run P w = .ok l0.toNat w := by
              cases hev : lo.map (evI ts) with
              | none =>
                rw [hev] at klo el
                generalize hq2 : lo.map a.eval = lo' at klo
                cases klo
                simp only [Option.some.injEq] at el
                subst el; simp
              | some u =>
                rw [hev] at klo el
                generalize hq2 : lo.map a.eval = lo' at klo
                cases klo with
                | some hr => exact bound_int el hr (by omega) (by omega) _
            unfold Instr.sliceBounds
            cases h1 : hi.map a.eval <;> cases h2 : lo.map a.eval <;> rw [h1] at hH <;> rw [h2] at hL <;> simp only [Sem.run_bind, Sem.run_pure, Result.andThen_ok, if_true, Option.isSome_none, Bool.false_eq_true, if_false, hH, hL, topI] <;> simp at hH hL <;> simp [*])
          exact .same H (op_map rfl (by rw [hq]; exact g1)) g2.vrel
        · cases he
      · rename_i n cs size hi2 mx2 hs hsz hhi hmx
        rw [hhi] at khi
        rw [hmx] at kmx
        generalize hqh : hi.map a.eval = hi' at khi
        generalize hq : mx.map a.eval = mx' at kmx
        cases khi with
        | some rhi =>
        rename_i hi3
        cases kmx with
        | some rmx =>
        rename_i mx3
        have bounds : ∀ {l0 hh m : Int}, (match lo.map (evI ts) with | some l => intI l | none => some 0) = some l0 → intI hi2 = some hh → intI mx2 = some m → 0 ≤ l0 → l0 ≤ hh → hh ≤ m → m ≤ n → ∀ (len cap : Nat), n = len → len ≤ cap →
            (Instr.sliceBounds true len cap (lo.map a.eval) (some hi3) (some mx3)).run P w = .ok (l0.toNat, hh.toNat, topI (some m) cap) w := fun {l0 hh m} el eh em q0 q1 q2 q3 len cap e hc => by
          have hM := bound_int (P := P) (w := w) em rmx (y := cap) (by omega) (by omega) .slice3Acap
          have hH := bound_int (P := P) (w := w) eh rhi (y := m.toNat) (by omega) (by omega) .slice3B
          have hL : (match (lo.map a.eval) with | some v => Instr.sliceBound v hh.toNat BoundsCode.slice3C | none => pure 0 : Sem Nat).run P w = .ok l0.toNat w := by
            cases hev : lo.map (evI ts) with
            | none =>
              rw [hev] at klo el
              generalize hq2 : lo.map a.eval = lo' at klo
              cases klo
              simp only [Option.some.injEq] at el
              subst el; simp
            | some u =>
              rw [hev] at klo el
              generalize hq2 : lo.map a.eval = lo' at klo
              cases klo with
              | some hr => exact bound_int el hr (by omega) (by omega) _
          unfold Instr.sliceBounds
          cases h2 : lo.map a.eval <;> rw [h2] at hL <;> simp only [Sem.run_bind, Sem.run_pure, Result.andThen_ok, if_true, Option.isSome_some, hM, hH, topI] <;> simp at hL <;> simp [*]
        split at he
        · rename_i el eh em
          simp only [Option.some.injEq, Prod.mk.injEq] at he; obtain ⟨rfl, rfl⟩ := he
          have hn0 : 0 ≤ n := by obtain ⟨m, rfl, _⟩ := asSl_rel hs kx; omega
          obtain ⟨u', g1, g2, g3⟩ := slice_frz (w := w) (lo' := lo.map a.eval) (hi' := some hi3) (mx' := some mx3) hu hsz (asSl_rel hs kx) (l0 := 0) (hh := 0) (by omega) (by omega) hn0 (top := some 0) (fun m e => by simp only [Option.some.injEq] at e; subst e; exact ⟨by omega, hn0⟩)
            (bounds el eh em (by omega) (by omega) (by omega) hn0)
          obtain ⟨a', rfl⟩ := g3 rfl rfl
          exact .same H (op_map rfl (by rw [hq, hqh]; exact g1)) (FRel.vzc a').vrel
        · rename_i l0 hh m _ el eh em
          simp only [Option.some.injEq, Prod.mk.injEq] at he; obtain ⟨rfl, rfl⟩ := he
          obtain ⟨q0, q1⟩ := hl.cons
          obtain ⟨q1, q2⟩ := q1.cons
          obtain ⟨q2, q3⟩ := q2.cons
          have q3 := q3.cons.1
          simp only [Ask.holds] at q0 q1 q2 q3
          obtain ⟨u', g1, g2, _⟩ := slice_frz (w := w) (lo' := lo.map a.eval) (hi' := some hi3) (mx' := some mx3) hu hsz (asSl_rel hs kx) q0 q1 (by omega) (top := some m) (fun m' e => by simp only [Option.some.injEq] at e; subst e; exact ⟨q2, q3⟩)
            (bounds el eh em q0 q1 q2 q3)
          exact .same H (op_map rfl (by rw [hq, hqh]; exact g1)) g2.vrel
        · cases he
      · cases he
    · cases he
  case call c =>
    obtain ⟨callee, args, argTypes⟩ := c
    cases callee with
    | value f => cases he
    | invoke r m => cases he
    | builtin b =>
      cases b <;> simp only at he <;> try (cases he; done)
      have hargs : args.toList.all (operandOK P) = true := by simpa [Call.operands] using hok
      have hr := args_rel H hts hargs
      rw [call_builtin]
      split at he
      · rename_i x t ea h0
        obtain ⟨x', eargs, hx⟩ := one_arg ea hr
        rw [eargs]
        have len_res : ∀ {n : Int}, (Builtin.len_ argTypes ty #[x']).run P w = .ok (.int .i64 n) w → OpRes P B w0 σ (builtin .len argTypes ty (args.map fun | .const _ => true | _ => false) #[x']) w (.int .i64 n) h := fun {n} hn =>
          .same H (by simp [builtin, hn]) (.int _ _)
        split at he
        · rename_i e n cs hu hs
          simp only [Option.some.injEq, Prod.mk.injEq] at he; obtain ⟨rfl, rfl⟩ := he
          refine len_res ?_
          obtain ⟨m, rfl, ⟨a', c', rfl, rfl, rfl⟩ | ⟨b, o, c', rfl, hc, hst⟩⟩ := asSl_rel hs hx <;> simp [Builtin.len_, h0, run_underlying hu, goInt]
        · rename_i kt et hu hs
          split at he
          · rename_i ks vs hm
            simp only [Option.some.injEq, Prod.mk.injEq] at he; obtain ⟨rfl, rfl⟩ := he
            refine len_res ?_
            obtain ⟨_, b, es, rfl, hF, hk, _⟩ := asMp_rel hm hx
            obtain ⟨cl, k⟩ := H.frz.m _ _ hF
            simp [Builtin.len_, h0, run_underlying hu, goInt, getObj, Sem.run, k, hk]
          · cases he
        · cases he
      · cases he

end
end Go.Ideal

end
