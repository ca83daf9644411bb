/- Each operation of the ideal interpreter answers as the model's: built-in functions; all operations together. Over any program. -/
import Derived.Test.YtepijhnfeafmaaaIOps6
set_option linter.unusedVariables false
set_option linter.unusedSimpArgs false
namespace Go.Ideal
open Go.RowKit

variable {P : Program} {B : Nat} {w0 : Org}

section
variable {w : World} {σ : Sg} {h h' : Heap} {ts : List Value} {a : Act} {v : Value} {dst : Option Tmp} {ty : TypeId} {pos : String} {after : Array Edge} {guard : Option (Nat × Bool)}

theorem first_zero {size : Nat} {x : Value} {new : List Value} (hf : firstI h size 0 x = some new) : new = [] := by
  unfold firstI at hf
  split at hf <;> simp_all

theorem args_rel (H : HRel P B w0 σ h w) (hts : LRel σ ts a.tmps.toList) {l : List Operand} (hl : l.all (operandOK P) = true) : LRel σ (l.map (evI ts)) (l.map a.eval) :=
  LRel.map fun x hx => ev_sound H hts (List.all_eq_true.1 hl x hx)

theorem two_args {args : Array Operand} {x y : Value} (he : args.toList.map (evI ts) = [x, y]) (hr : LRel σ (args.toList.map (evI ts)) (args.toList.map a.eval)) :
    ∃ x' y', args.map a.eval = #[x', y'] ∧ VRel σ x x' ∧ VRel σ y y' := by
  rw [he] at hr
  generalize hq : args.toList.map a.eval = l at hr
  cases hr with
  | cons h1 t => cases t with
    | cons h2 t => cases t
                   refine ⟨_, _, ?_, h1, h2⟩
                   apply Array.toList_inj.1
                   rw [Array.toList_map, hq]
theorem one_arg {args : Array Operand} {x : Value} (he : args.toList.map (evI ts) = [x]) (hr : LRel σ (args.toList.map (evI ts)) (args.toList.map a.eval)) :
    ∃ x', args.map a.eval = #[x'] ∧ VRel σ x x' := by
  rw [he] at hr
  generalize hq : args.toList.map a.eval = l at hr
  cases hr with
  | cons h1 t => cases t
                 refine ⟨_, ?_, h1⟩
                 apply Array.toList_inj.1
                 rw [Array.toList_map, hq]

theorem call_builtin {b : Builtin} {args : Array Operand} {argTypes : Array TypeId} :
    execOp a.eval ⟨dst, .call ⟨.builtin b, args, argTypes⟩, ty, pos, after, guard⟩ = builtin b argTypes ty (args.map fun | .const _ => true | _ => false) (args.map a.eval) := rfl

theorem sized_len {t : TypeId} {d : TypeDesc} {n : Nat} (_ : P.underlying t = some d) (hs : sizeI P t = some n) : sizeI P t = some n := hs

theorem byteSize {e : TypeId} {size : Nat} {x : Value} {new : List Value} {n : Nat} (hl : lenI x = some n) (hf : firstI h size n x = some new) (H : HRel P B w0 σ h w) {x' : Value} (hx : VRel σ x x')
    (hsz : size = 1 ∨ ∀ s, x ≠ .string s) (hnil : ∀ l c, x = .slice none l c → n = 0) : new.length = n * size := by
  refine first_len hf hl (Nat.le_refl n) hsz hnil fun ad l c e => ?_
  obtain ⟨_, _, _, k⟩ := first_sound H hf hl (Nat.le_refl n) hx
  exact k ⟨ad, l, c, e⟩

theorem builtin_sound (H : HRel P B w0 σ h w) (hts : LRel σ ts a.tmps.toList) {b : Builtin} {args : Array Operand} {argTypes : Array TypeId} (hargs : args.toList.all (operandOK P) = true)
    (he : builtinI P h b argTypes (args.toList.map (evI ts)) = some (v, h')) : OpRes P B w0 σ (execOp a.eval ⟨dst, .call ⟨.builtin b, args, argTypes⟩, ty, pos, after, guard⟩) w v h' := by
  have hr := args_rel H hts hargs
  rw [call_builtin]
  unfold builtinI at he
  split at he
  · rename_i s x ea
    obtain ⟨s', x', eargs, hs, hx⟩ := two_args ea hr
    rw [eargs]
    have key : ∀ {st xt elem : TypeId}, argTypes[0]? = some st → argTypes[1]? = some xt → P.underlying st = some (.slice elem) → ((∃ e, P.underlying xt = some (.slice e)) ∨ P.underlying xt = some .string) →
        (match sizeI P elem, lenI x with
        | some size, some n => match firstI h size n x with
          | some new => if Nat.beq new.length (n * size) then appendI P h elem s n new else none
          | none => none
        | _, _ => none) = some (v, h') → OpRes P B w0 σ (builtin .append argTypes ty (args.map fun | .const _ => true | _ => false) #[s', x']) w v h' := fun {st xt elem} h0 h1 hus hux he => by
      split at he
      · rename_i size n hsz hl
        split at he
        · rename_i new hf
          simp only [Option.ite_none_right_eq_some, Nat.beq_eq] at he
          obtain ⟨hnl, he⟩ := he
          obtain ⟨σ', w', v', k1, k2, k3, k4⟩ := append_sound (ty := ty) H h0 h1 hus hux hs hx hsz hl hf hnl he
          exact ⟨σ', w', .value v', v', k1, by simp [builtin, k2], .inl rfl, k3, k4⟩
        · cases he
      · cases he
    split at he
    · rename_i st xt h0 h1
      split at he
      · rename_i elem e2 hus hux
        exact key h0 h1 hus (.inl ⟨_, hux⟩) he
      · rename_i elem hus hux
        exact key h0 h1 hus (.inr hux) he
      · cases he
    · cases he
  · rename_i d x ea
    obtain ⟨d', x', eargs, hd, hx⟩ := two_args ea hr
    rw [eargs]
    split at he
    · rename_i dt h0
      split at he
      · rename_i elem base dl cap hu
        split at he
        · rename_i size xl hsz hl
          simp only at he
          split at he
          · rename_i new hf
            have hmin : Nat.min xl dl ≤ xl := Nat.min_le_left _ _
            obtain ⟨new', n1, n2, _⟩ := first_sound H hf hl hmin hx
            have hrun : ∀ {base' : Option Addr} {cap' : Nat} {w' : World}, d' = .slice base' dl cap' → ((match base' with | some a => storeCells a new' | none => pure ()) : Sem Unit).run P w = .ok () w' →
                (builtin .copy argTypes ty (args.map fun | .const _ => true | _ => false) #[d', x']).run P w = .ok (.value (.int .i64 (Nat.min xl dl))) w' := fun {base' cap' w'} e hst => by
              subst e
              have hc : (Builtin.copy_ argTypes ty #[.slice base' dl cap', x']).run P w = .ok (.int .i64 (Nat.min xl dl)) w' := by
                unfold Builtin.copy_
                simp only [h0, List.getElem?_toArray, List.getElem?_cons_zero, List.getElem?_cons_succ, Sem.run_bind, run_underlying hu, Result.andThen_ok]
                simp only [len_run hl hx, Result.andThen_ok, sizeOf_run hsz, n1]
                cases base' with
                | none => simp only [Sem.run_pure] at hst; simp at hst; subst hst; simp [goInt]
                | some a => simp only at hst; simp only [Sem.run_bind, hst, Result.andThen_ok, Sem.run_pure, goInt]
              simp [builtin, hc]
            split at he
            · simp only [Option.some.injEq, Prod.mk.injEq] at he; obtain ⟨rfl, rfl⟩ := he
              cases hd
              exact .same H (hrun rfl rfl) (.int _ _)
            · rename_i ad
              simp only [Option.some.injEq, Prod.mk.injEq] at he; obtain ⟨rfl, rfl⟩ := he
              cases n2
              obtain ⟨ad', c', e', _⟩ := slice_inv hd
              exact .same H (hrun e' (by simp [storeCells])) (.int _ _)
            · rename_i ad hne
              cases hw : wrCells h ad new with
              | none => simp [hw] at he
              | some h2 =>
                simp only [hw, Option.map_some, Option.some.injEq, Prod.mk.injEq] at he; obtain ⟨rfl, rfl⟩ := he
                obtain ⟨ad', c', e', hA⟩ := slice_inv hd
                have hdl : 0 < dl := by
                  rcases Nat.eq_zero_or_pos dl with e0 | e0
                  · subst e0
                    have : new = [] := by
                      have hm : Nat.min xl 0 = 0 := Nat.min_zero xl
                      rw [hm] at hf
                      exact first_zero hf
                    exact absurd this hne
                  · exact e0
                obtain ⟨w', k1, k2⟩ := wr_sound H hw (hA hdl) n2
                exact ⟨σ, w', _, _, Sg.le_refl σ, hrun e' k1, .inl rfl, .int _ _, k2⟩
          · cases he
        · cases he
      · cases he
    · cases he
  · rename_i x ea
    obtain ⟨x', eargs, hx⟩ := one_arg ea hr
    rw [eargs]
    split at he
    · rename_i t h0
      have len_res : ∀ {n : Int}, (Builtin.len_ argTypes ty #[x']).run P w = .ok (.int .i64 n) w → OpRes P B w0 σ (builtin .len argTypes ty (args.map fun | .const _ => true | _ => false) #[x']) w (.int .i64 n) h := fun {n} hn =>
        .same H (by simp [builtin, hn]) (.int _ _)
      split at he
      · rename_i e a2 n c hu
        simp only [Option.some.injEq, Prod.mk.injEq] at he; obtain ⟨rfl, rfl⟩ := he
        refine len_res ?_
        cases hx <;> simp [Builtin.len_, h0, run_underlying hu, goInt]
      · rename_i s hu
        simp only [Option.some.injEq, Prod.mk.injEq] at he; obtain ⟨rfl, rfl⟩ := he
        refine len_res ?_
        cases hx; simp [Builtin.len_, h0, run_underlying hu, goInt]
      · rename_i n e hu
        simp only [Option.some.injEq, Prod.mk.injEq] at he; obtain ⟨rfl, rfl⟩ := he
        exact len_res (by simp [Builtin.len_, h0, run_underlying hu, goInt])
      · rename_i arr hu
        split at he
        · rename_i n e hu2
          simp only [Option.some.injEq, Prod.mk.injEq] at he; obtain ⟨rfl, rfl⟩ := he
          exact len_res (by simp [Builtin.len_, h0, run_underlying hu, run_underlying hu2, goInt])
        · cases he
      · cases he
    · cases he
  · rename_i k x k2 y ea
    obtain ⟨x', y', eargs, hx, hy⟩ := two_args ea hr
    rw [eargs]
    simp only [Option.some.injEq, Prod.mk.injEq] at he; obtain ⟨rfl, rfl⟩ := he
    cases hx; cases hy
    exact .same H (by simp [builtin, Builtin.max_, Builtin.max2]) (.int _ _)
  · rename_i k x k2 y ea
    obtain ⟨x', y', eargs, hx, hy⟩ := two_args ea hr
    rw [eargs]
    simp only [Option.some.injEq, Prod.mk.injEq] at he; obtain ⟨rfl, rfl⟩ := he
    cases hx; cases hy
    exact .same H (by simp [builtin, Builtin.min_, Builtin.min2]) (.int _ _)
  · rename_i x ea
    obtain ⟨x', eargs, hx⟩ := one_arg ea hr
    rw [eargs]
    split at he
    · rename_i t h0
      have cap_res : ∀ {n : Int}, (Builtin.cap_ argTypes ty #[x']).run P w = .ok (.int .i64 n) w → OpRes P B w0 σ (builtin .cap argTypes ty (args.map fun | .const _ => true | _ => false) #[x']) w (.int .i64 n) h := fun {n} hn =>
        .same H (by simp [builtin, hn]) (.int _ _)
      split at he
      · rename_i e n c hu
        simp only [Option.some.injEq, Prod.mk.injEq] at he; obtain ⟨rfl, rfl⟩ := he
        refine cap_res ?_
        cases hx; simp [Builtin.cap_, h0, run_underlying hu, goInt]
      · rename_i e ad n c hu
        have key : (∃ m, modeOf h ad.block = some m ∧ (m = .fix ∨ m = .ro)) → some (Value.int .i64 c, h) = some (v, h') → OpRes P B w0 σ (builtin .cap argTypes ty (args.map fun | .const _ => true | _ => false) #[x']) w v h' := fun ⟨m, hm, hmm⟩ he => by
          simp only [Option.some.injEq, Prod.mk.injEq] at he; obtain ⟨rfl, rfl⟩ := he
          unfold modeOf at hm
          split at hm
          · rename_i cs bt m2 hg
            simp only [Option.some.injEq] at hm; subst hm
            obtain ⟨b, o, hxx⟩ := kind_exact H hg hmm
            obtain ⟨ad', rfl, _⟩ := slice_exact hx hxx
            exact cap_res (by simp [Builtin.cap_, h0, run_underlying hu, goInt])
          · cases hm
        split at he
        · rename_i hm; exact key ⟨_, hm, .inl rfl⟩ he
        · rename_i hm; exact key ⟨_, hm, .inr rfl⟩ he
        · cases he
      · cases he
    · cases he
  · cases he

theorem opB_sound (H : HRel P B w0 σ h w) (hts : LRel σ ts a.tmps.toList) {o : Oper} (hok : operOK P o = true) (he : opB P o ts h = some (v, h')) : OpRes P B w0 σ (execOp a.eval o) w v h' := by
  obtain ⟨dst, op, ty, pos, after, guard⟩ := o
  simp only [operOK] at hok
  cases op <;> simp only [Op.operands] at hok
  case move x =>
    simp only [List.all_cons, List.all_nil, Bool.and_true] at hok
    simp only [opB, Option.some.injEq, Prod.mk.injEq] at he; obtain ⟨rfl, rfl⟩ := he
    exact .same H (by simp [execOp]) (ev_sound H hts hok)
  case assign x =>
    simp only [List.all_cons, List.all_nil, Bool.and_true] at hok
    simp only [opB, Option.some.injEq, Prod.mk.injEq] at he; obtain ⟨rfl, rfl⟩ := he
    exact .same H (by simp [execOp]) (ev_sound H hts hok)
  case pick c x y => simp only [List.all_cons, List.all_nil, Bool.and_true, Bool.and_eq_true] at hok; exact pick_sound H hts hok.1 hok.2.1 hok.2.2 he
  case alloc t => exact alloc_sound H he
  case box t x => simp only [List.all_cons, List.all_nil, Bool.and_true] at hok; exact box_sound H hts hok he
  case build t ps => exact build_sound H hts (by simpa using hok) he
  case buildSlice t n ps => exact buildSlice_sound H hts (by simpa using hok) he
  case load t x => simp only [List.all_cons, List.all_nil, Bool.and_true] at hok; exact load_op_sound H hts hok he
  case store t x y => simp only [List.all_cons, List.all_nil, Bool.and_true, Bool.and_eq_true] at hok; exact store_op_sound H hts hok.1 hok.2 he
  case nilCheck x => simp only [List.all_cons, List.all_nil, Bool.and_true] at hok; exact nilCheck_sound H hts hok he
  case binOp op t x y t2 => simp only [List.all_cons, List.all_nil, Bool.and_true, Bool.and_eq_true] at hok; exact binOp_sound H hts hok.1 hok.2 he
  case unOp op t x => simp only [List.all_cons, List.all_nil, Bool.and_true] at hok; exact unOp_sound H hts hok he
  case convert s d x => simp only [List.all_cons, List.all_nil, Bool.and_true] at hok; exact convert_sound H hts hok he
  case makeInterface t x => simp only [List.all_cons, List.all_nil, Bool.and_true] at hok; exact makeInterface_sound H hts hok he
  case makeFunc fn x y => simp only [Array.toList_append, List.all_append, Bool.and_eq_true] at hok; exact makeFunc_sound H hts hok.1 hok.2 he
  case makeSlice t x y => simp only [List.all_cons, List.all_nil, Bool.and_true, Bool.and_eq_true] at hok; exact makeSlice_sound H hts hok.1 hok.2 he
  case slice t x lo hi mx =>
    simp only [Array.toList_append, List.all_append, Bool.and_eq_true] at hok
    exact slice_sound H hts (by simpa using hok.1.1.1) (by simpa using hok.1.1.2) (by simpa using hok.1.2) (by simpa using hok.2) he
  case fieldAddr s x f => simp only [List.all_cons, List.all_nil, Bool.and_true] at hok; exact fieldAddr_sound H hts hok he
  case field s x f => simp only [List.all_cons, List.all_nil, Bool.and_true] at hok; exact field_sound H hts hok he
  case indexAddr t x y => simp only [List.all_cons, List.all_nil, Bool.and_true, Bool.and_eq_true] at hok; exact indexAddr_sound H hts hok.1 hok.2 he
  case index t x y => simp only [List.all_cons, List.all_nil, Bool.and_true, Bool.and_eq_true] at hok; exact index_sound H hts hok.1 hok.2 he
  case range t x => simp only [List.all_cons, List.all_nil, Bool.and_true] at hok; exact range_sound H hts hok he
  case next x b => simp only [List.all_cons, List.all_nil, Bool.and_true] at hok; exact next_sound H hts hok he
  case typeAssert x xt at_ ok => simp only [List.all_cons, List.all_nil, Bool.and_true] at hok; exact typeAssert_sound H hts hok he
  case extract x i => simp only [List.all_cons, List.all_nil, Bool.and_true] at hok; exact extract_sound H hts hok he
  case call c =>
    obtain ⟨callee, args, argTypes⟩ := c
    cases callee with
    | value f => simp [opB] at he
    | invoke r m => simp [opB] at he
    | builtin b =>
      have hargs : args.toList.all (operandOK P) = true := by simpa [Call.operands] using hok
      simp only [opB] at he
      split at he
      · rename_i r hr
        simp only [Option.some.injEq] at he; subst he
        exact builtin_sound H hts hargs hr
      · split at he
        · rename_i hf
          refine pure_op_sound H hts (by intro cs b hh; cases hh) ?_ ?_ he
          · simpa [operOK, Op.operands, Call.operands] using hok
          · intro x hx
            simp only [Op.operands, Call.operands, Array.empty_append] at hx
            exact List.all_eq_true.1 hf x (by simpa using hx)
        · cases he
  all_goals (simp [opB] at he)

end
end Go.Ideal
