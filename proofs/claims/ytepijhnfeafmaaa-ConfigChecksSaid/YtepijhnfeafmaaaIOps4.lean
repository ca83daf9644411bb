/- Each operation of the ideal interpreter answers as the model's: slicing, conversions, operators. Over any program. -/
import Derived.Test.YtepijhnfeafmaaaIOps3
set_option linter.unusedVariables false
set_option linter.unusedSimpArgs false
namespace Go.Ideal
open Go.RowKit

variable {P : Program} {B : Nat} {w0 : Org}

inductive ORel (σ : Sg) : Option Value → Option Value → Prop
  | none : ORel σ none none
  | some {v v' : Value} (h : VRel σ v v') : ORel σ (some v) (some v')

theorem bound_run {σ : Sg} {v v' : Value} {dflt most most' n : Nat} (hb : boundI (some v) dflt most = some n) (hv : VRel σ v v') (hle : most ≤ most') (code : BoundsCode) (w : World) :
    (Instr.sliceBound v' most' code).run P w = .ok n w ∧ n ≤ most := by
  simp only [boundI] at hb
  split at hb
  · rename_i i hi
    simp only [Option.ite_none_right_eq_some, Option.some.injEq] at hb
    obtain ⟨⟨h0, h1⟩, rfl⟩ := hb
    have : ∃ k, v' = .int k i := by cases hv <;> simp [intI, osl] at hi; subst hi; exact ⟨_, rfl⟩
    obtain ⟨k, rfl⟩ := this
    have h2 : i ≤ (most' : Int) := by omega
    exact ⟨by simp [Instr.sliceBound, asIntOf, h0, h2], by omega⟩
  · cases hb

theorem bounds_run {σ : Sg} {isS : Bool} {len cap cap' l hh m : Nat} {lo hi mx lo' hi' mx' : Option Value} (hb : boundsI len cap lo hi mx = some (l, hh, m)) (hlo : ORel σ lo lo') (hhi : ORel σ hi hi') (hmx : ORel σ mx mx')
    (hcap : cap ≤ cap') (w : World) : (Instr.sliceBounds isS len cap' lo' hi' mx').run P w = .ok (l, hh, if mx.isNone then cap' else m) w ∧ (mx = none → m = cap) := by
  have hmm : ∀ {x : Option Value} {m : Nat}, boundI mx cap cap = some m → mx = none → m = cap := fun {x m} h e => by subst e; simpa [boundI] using h.symm
  cases hmx with
  | none =>
    have hb' : (match boundI hi len cap with
      | none => none
      | some hh => match boundI lo 0 hh with
        | none => none
        | some l => some (l, hh, cap)) = some (l, hh, m) := by
      simp only [boundsI, boundI] at hb ⊢
      cases hi <;> exact hb
    split at hb'
    · cases hb'
    · rename_i hh2 eh
      split at hb'
      · cases hb'
      · rename_i l2 el
        simp only [Option.some.injEq, Prod.mk.injEq] at hb'; obtain ⟨rfl, rfl, rfl⟩ := hb'
        refine ⟨?_, fun _ => rfl⟩
        cases hhi with
        | none =>
          simp only [boundI, Option.some.injEq] at eh; subst eh
          cases hlo with
          | none => simp only [boundI, Option.some.injEq] at el; subst el; simp [Instr.sliceBounds]
          | some hv => simp [Instr.sliceBounds, (bound_run el hv (Nat.le_refl _) _ w).1]
        | some hu =>
          have e1 := bound_run (P := P) eh hu hcap (if isS then .sliceAcap else .sliceAlen) w
          cases hlo with
          | none => simp only [boundI, Option.some.injEq] at el; subst el; simp [Instr.sliceBounds, e1.1]
          | some hv => simp [Instr.sliceBounds, e1.1, (bound_run el hv (Nat.le_refl _) _ w).1]
  | some hx =>
    cases hhi with
    | none => simp [boundsI] at hb
    | some hu =>
      simp only [boundsI] at hb
      split at hb
      · cases hb
      · rename_i m2 em
        split at hb
        · cases hb
        · rename_i hh2 eh
          split at hb
          · cases hb
          · rename_i l2 el
            simp only [Option.some.injEq, Prod.mk.injEq] at hb; obtain ⟨rfl, rfl, rfl⟩ := hb
            refine ⟨?_, fun e => by cases e⟩
            have e0 := bound_run (P := P) em hx hcap (if isS then .slice3Acap else .slice3Alen) w
            have e1 := bound_run (P := P) eh hu (Nat.le_refl _) .slice3B w
            cases hlo with
            | none => simp only [boundI, Option.some.injEq] at el; subst el; simp [Instr.sliceBounds, e0.1, e1.1]
            | some hv => simp [Instr.sliceBounds, e0.1, e1.1, (bound_run el hv (Nat.le_refl _) _ w).1]

/-- What a readable block's kind is. -/
theorem kind_exact {w : World} {σ : Sg} {h : Heap} (H : HRel P B w0 σ h w) {i : Nat} {cs : List Value} {t : TypeId} {m : Mode} (hg : h.get i = some (.cells cs t m)) (hm : m = .fix ∨ m = .ro) : ∃ b o, σ i = some ⟨b, o, .exact⟩ := by
  have := H.blk _ _ hg
  rcases hm with rfl | rfl
  · obtain ⟨b, cc, t', fz, h1, _⟩ := this; exact ⟨b, 0, h1⟩
  · obtain ⟨b, o, cc, t', fz, h1, _⟩ := this; exact ⟨b, o, h1⟩
theorem kind_grow {w : World} {σ : Sg} {h : Heap} (H : HRel P B w0 σ h w) {i : Nat} {cs : List Value} {t : TypeId} (hg : h.get i = some (.cells cs t .grow)) : ∃ b es sz, σ i = some ⟨b, 0, .grown es sz⟩ ∧ sizeI P t = some es := by
  obtain ⟨b, es, cc, t', fz, h1, h2, _⟩ := H.blk _ _ hg
  exact ⟨b, es, _, h1, h2⟩

theorem slice_exact {σ : Sg} {ad : Addr} {n c b o : Nat} {v' : Value} (hv : VRel σ (.slice (some ad) n c) v') (he : σ ad.block = some ⟨b, o, .exact⟩) : ∃ ad', v' = .slice (some ad') n c ∧ ARel σ ad ad' := by
  cases hv with
  | sfix hh => exact ⟨_, rfl, _, _, _, hh, rfl, rfl⟩
  | sgrown hh _ _ => simp [hh] at he
  | sloose hh _ => simp [hh] at he
theorem slice_of_exact {σ : Sg} {ad ad' : Addr} {n c b o : Nat} (ha : ARel σ ad ad') (he : σ ad.block = some ⟨b, o, .exact⟩) : VRel σ (.slice (some ad) n c) (.slice (some ad') n c) := by
  obtain ⟨b', o', k, h1, h2, rfl⟩ := ha
  rw [he] at h1; simp only [Option.some.injEq, Spot.mk.injEq] at h1; obtain ⟨rfl, rfl, rfl⟩ := h1
  obtain ⟨i, off, spot⟩ := ad
  simp only at h2; subst h2
  exact .sfix he
theorem add_block (ad : Addr) (n : Nat) : (ad.add n).block = ad.block := by unfold Addr.add; split <;> rfl

section
variable {w : World} {σ : Sg} {h h' : Heap} {ts : List Value} {a : Act} {v : Value} {dst : Option Tmp} {ty : TypeId} {pos : String} {after : Array Edge} {guard : Option (Nat × Bool)}

theorem slice_val_sound (H : HRel P B w0 σ h w) {t elem : TypeId} {ad : Option Addr} {len cap size : Nat} {lo hi mx lo' hi' mx' : Option Value} {v v' : Value} (hu : P.underlying t = some (.slice elem)) (hs : sizeI P elem = some size)
    (he : sliceI P h size ad len cap lo hi mx = some v) (hv : VRel σ (.slice ad len cap) v') (hlo : ORel σ lo lo') (hhi : ORel σ hi hi') (hmx : ORel σ mx mx') :
    ∃ u', (Instr.slice t v' lo' hi' mx').run P w = .ok u' w ∧ VRel σ v u' := by
  unfold sliceI at he
  split at he
  · cases he
  · rename_i l hh m hb
    split at he
    · simp only [Option.some.injEq] at he; subst he
      cases hv
      have k := bounds_run (P := P) (isS := true) hb hlo hhi hmx (Nat.le_refl cap) w
      refine ⟨.slice none (hh - l) (m - l), ?_, .snil _ _⟩
      have hm : (if mx.isNone then cap else m) = m := by
        cases mx with
        | none => simp [k.2 rfl]
        | some x => simp
      rw [hm] at k
      simp [Instr.slice, run_underlying hu, k.1, sizeOf_run hs]
    · rename_i ad
      split at he
      · rename_i cs bt m' hg
        have exact_case : (m' = .fix ∨ m' = .ro) → some (Value.slice (some (if m = l then ad else ad.add (l * size))) (hh - l) (m - l)) = some v →
            ∃ u', (Instr.slice t v' lo' hi' mx').run P w = .ok u' w ∧ VRel σ v u' := fun hm he => by
          simp only [Option.some.injEq] at he; subst he
          obtain ⟨b, o, hx⟩ := kind_exact H hg hm
          obtain ⟨ad', rfl, hA⟩ := slice_exact hv hx
          have k := bounds_run (P := P) (isS := true) hb hlo hhi hmx (Nat.le_refl cap) w
          have hm : (if mx.isNone then cap else m) = m := by
            cases mx with
            | none => simp [k.2 rfl]
            | some x => simp
          rw [hm] at k
          refine ⟨.slice (some (if m = l then ad' else ad'.add (l * size))) (hh - l) (m - l), ?_, ?_⟩
          · simp only [Instr.slice, Sem.run_bind, run_underlying hu, Result.andThen_ok, k.1, sizeOf_run hs, Sem.run_pure]
            by_cases e : m = l <;> simp [e]
          · by_cases e : m = l
            · simp only [e, if_true]; exact slice_of_exact hA hx
            · simp only [e, if_false]; exact slice_of_exact (hA.add _) (by rw [add_block]; exact hx)
        cases m' with
        | fix => exact exact_case (.inl rfl) he
        | ro => exact exact_case (.inr rfl) he
        | dead => cases he
        | grow =>
          simp only at he
          split at he
          · rename_i hmn s hsz
            simp only [Option.ite_none_right_eq_some, Bool.and_eq_true, Nat.beq_eq, Nat.ble_eq, Option.some.injEq] at he
            obtain ⟨⟨⟨rfl, hlm⟩, hhm⟩, rfl⟩ := he
            obtain ⟨b, es, sz, hx, hes⟩ := kind_grow H hg
            rw [hsz] at hes; simp only [Option.some.injEq] at hes; subst hes
            cases hmx
            cases hv with
            | sfix k => simp [k] at hx
            | sgrown k hc hz =>
              rename_i i off b2 c' es2 sz2
              rw [k] at hx; simp only [Option.some.injEq, Spot.mk.injEq, SK.grown.injEq, true_and] at hx
              obtain ⟨rfl, rfl, rfl⟩ := hx
              have q := bounds_run (P := P) (isS := true) hb hlo hhi .none hc w
              have hmc := q.2 rfl
              subst hmc
              simp only [Option.isNone_none, if_true] at q
              refine ⟨.slice (some (if c' = l then ⟨b2, 0 + off, none⟩ else (⟨b2, 0 + off, none⟩ : Addr).add (l * (s + 1)))) (hh - l) (c' - l), ?_, ?_⟩
              · simp only [Instr.slice, Sem.run_bind, run_underlying hu, Result.andThen_ok, q.1, sizeOf_run hs, Sem.run_pure]
                by_cases e : c' = l <;> simp [e]
              · rw [Addr.add_none]
                by_cases e : c' = l
                · simp only [e, if_true]
                  have e1 : m = l := by omega
                  have e2 : hh - l = 0 := by omega
                  rw [e1, e2, Nat.sub_self]
                  by_cases e3 : off + l * (s + 1) = 0
                  · have : off = 0 := by omega
                    have e4 : l * (s + 1) = 0 := by omega
                    rw [e4]
                    exact .sgrown k (Nat.le_refl _) (by omega)
                  · exact .sloose k e3
                · simp only [e, if_false]
                  rw [Addr.add_none, Nat.add_assoc]
                  refine .sgrown k (by omega) ?_
                  have : c' * (s + 1) = l * (s + 1) + (c' - l) * (s + 1) := by rw [← Nat.add_mul]; congr 1; omega
                  have hz' : off + c' * (s + 1) ≤ sz2 := hz
                  show off + l * (s + 1) + (c' - l) * (s + 1) ≤ sz2
                  omega
            | sloose k ho =>
              rename_i i off b2 c' es2 sz2 a'
              have q := bounds_run (P := P) (isS := true) (cap' := c') hb hlo hhi .none (Nat.zero_le _) w
              have hmc := q.2 rfl
              subst hmc
              have hl : l = 0 := by omega
              have hh0 : hh = 0 := by omega
              subst hl; subst hh0
              simp only [Option.isNone_none, if_true] at q
              refine ⟨.slice (some a') 0 c', ?_, ?_⟩
              · simp only [Instr.slice, Sem.run_bind, run_underlying hu, Result.andThen_ok, q.1, sizeOf_run hs, Sem.run_pure]
                by_cases e : c' = 0 <;> simp [e, Addr.add_zero']
              · simp only [Nat.zero_mul, Addr.add_zero', Nat.sub_zero]; exact .sloose k ho
          · cases he
      · cases he

theorem opt_rel (H : HRel P B w0 σ h w) (hts : LRel σ ts a.tmps.toList) {x : Option Operand} (hx : x.toList.all (operandOK P) = true) : ORel σ (x.map (evI ts)) (x.map a.eval) := by
  cases x with
  | none => exact .none
  | some x => exact .some (ev_sound H hts (by simpa using hx))

theorem slice_sound (H : HRel P B w0 σ h w) (hts : LRel σ ts a.tmps.toList) {t : TypeId} {x : Operand} {lo hi mx : Option Operand} (hx : operandOK P x = true) (hlo : lo.toList.all (operandOK P) = true) (hhi : hi.toList.all (operandOK P) = true) (hmx : mx.toList.all (operandOK P) = true)
    (he : opB P ⟨dst, .slice t x lo hi mx, ty, pos, after, guard⟩ ts h = some (v, h')) : OpRes P B w0 σ (execOp a.eval ⟨dst, .slice t x lo hi mx, ty, pos, after, guard⟩) w v h' := by
  have k := ev_sound H hts hx
  have rlo := opt_rel H hts hlo
  have rhi := opt_rel H hts hhi
  have rmx := opt_rel H hts hmx
  simp only [opB] at he
  split at he
  · rename_i hu
    split at he
    · rename_i s e
      rw [e] at k
      generalize hq : a.eval x = q at k
      cases k
      split at he
      · rename_i hh eh
        split at he
        · rename_i l el
          simp only [Option.some.injEq, Prod.mk.injEq] at he; obtain ⟨rfl, rfl⟩ := he
          refine .same (v' := .string (s.extract l hh)) H (op_map rfl ?_) (.string _)
          have hb : boundsI s.size s.size (lo.map (evI ts)) (hi.map (evI ts)) none = some (l, hh, s.size) := by
            cases hi <;> simp_all [boundsI, boundI]
          have q := bounds_run (P := P) (isS := false) hb rlo rhi .none (Nat.le_refl _) w
          simp only [Option.isNone_none, if_true] at q
          simp [Instr.sliceAt, Instr.slice, run_underlying hu, hq, q.1]
        · cases he
      · cases he
    · cases he
  · rename_i elem hu
    split at he
    · rename_i ad len cap size e hs
      rw [e] at k
      cases hsl : sliceI P h size ad len cap (lo.map (evI ts)) (hi.map (evI ts)) (mx.map (evI ts)) with
      | none => simp [hsl] at he
      | some u =>
        simp only [hsl, Option.map_some, Option.some.injEq, Prod.mk.injEq] at he; obtain ⟨rfl, rfl⟩ := he
        obtain ⟨u', k1, k2⟩ := slice_val_sound H hu hs hsl k rlo rhi rmx
        exact .same H (op_map rfl (by simp [Instr.sliceAt, run_underlying hu, k1])) k2
    · cases he
  · rename_i n elem hu
    split at he
    · rename_i ad size e hs
      rw [e] at k
      obtain ⟨ad', e', hA⟩ := k.ptr_inv
      have key : (∃ m, modeOf h ad.block = some m ∧ (m = .fix ∨ m = .ro)) → ((sliceI P h size (some ad) n n (lo.map (evI ts)) (hi.map (evI ts)) (mx.map (evI ts))).map fun v => (v, h)) = some (v, h') →
          OpRes P B w0 σ (execOp a.eval ⟨dst, .slice t x lo hi mx, ty, pos, after, guard⟩) w v h' := fun ⟨m, hm, hmm⟩ he => by
        unfold modeOf at hm
        split at hm
        · rename_i cs bt m2 hg
          simp only [Option.some.injEq] at hm; subst hm
          obtain ⟨b, o, hxx⟩ := kind_exact H hg hmm
          unfold sliceI at he
          split at he
          · simp at he
          · rename_i l hh mm hb
            simp only [hg] at he
            have he2 : some (Value.slice (some (if mm = l then ad else ad.add (l * size))) (hh - l) (mm - l), h) = some (v, h') := by
              rcases hmm with rfl | rfl <;> simpa using he
            simp only [Option.some.injEq, Prod.mk.injEq] at he2; obtain ⟨rfl, rfl⟩ := he2
            have q := bounds_run (P := P) (isS := false) hb rlo rhi rmx (Nat.le_refl _) w
            have hm2 : (if (mx.map (evI ts)).isNone then n else mm) = mm := by
              cases mx with
              | none => simp [q.2 rfl]
              | some x => simp
            rw [hm2] at q
            refine .same (v' := .slice (some (if mm = l then ad' else ad'.add (l * size))) (hh - l) (mm - l)) H (op_map rfl ?_) ?_
            · simp only [Instr.sliceAt, Sem.run_bind, run_underlying hu, Result.andThen_ok, e', Instr.sureAddr, Sem.run_pure, q.1, sizeOf_run hs]
            · by_cases e : mm = l
              · simp only [e, if_true]; exact slice_of_exact hA hxx
              · simp only [e, if_false]; exact slice_of_exact (hA.add _) (by rw [add_block]; exact hxx)
        · cases hm
      split at he
      · rename_i hm; exact key ⟨_, hm, .inl rfl⟩ he
      · rename_i hm; exact key ⟨_, hm, .inr rfl⟩ he
      · cases he
    · cases he
  · cases he

end
end Go.Ideal
