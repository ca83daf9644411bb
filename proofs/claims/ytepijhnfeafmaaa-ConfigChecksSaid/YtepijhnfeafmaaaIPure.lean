/- Calls that hang on nothing but what they are given: proved once over an empty heap, they hold over any. Over any program. -/
import Derived.Test.YtepijhnfeafmaaaISem
set_option linter.unusedVariables false
set_option linter.unusedSimpArgs false
namespace Go.Ideal
open Go.RowKit

variable {P : Program}

/-- Called so, it answers v; the ideal heap stays. -/
def CallK (P : Program) (f : FuncId) (args : List Value) (v : Value) : Prop := ∀ h, CallS P f args h fun v1 h1 => v1 = v ∧ h1 = h

theorem HRel.inner {B : Nat} {w0 : Org} {σ σ' : Sg} {h h1 : Heap} {w w' : World} (H : HRel P B w0 σ h w) (H' : HRel P w.heap.size ⟨w, σ.f⟩ σ' h1 w') (hle : σ.f.le σ'.f) :
    HRel P B w0 { σ with f := σ'.f } h w' ∧ σ.le { σ with f := σ'.f } := by
  have hs := H.size
  have hle2 : σ.le { σ with f := σ'.f } := ⟨fun _ _ h => h, hle, fun _ _ _ h => h⟩
  have hloc : ∀ (i : Nat) (b : Blk), b.loc { σ with f := σ'.f } i = b.loc σ i := fun i b => by
    cases b with
    | cells cs t m => cases m <;> rfl
    | _ => rfl
  refine ⟨⟨H.below.trans (H'.below.mono hs), Nat.le_trans hs H'.below.size, H.dom, fun i x hx => Nat.lt_of_lt_of_le (H.codom i x hx) H'.below.size, H.glob, fun i b hg => ?_, fun i j bi bj b hi hj li lj hB => ?_, H'.frz, fun b hb => ?_, H.tdom⟩, hle2⟩
  · exact (H.blk i b hg).mono hle2 (fun b' hl => H'.below.block _ (H.blk_lt hg hl)) (fun b' _ hl => H'.old b' (H.blk_lt hg hl)) fun _ => rfl
  · rw [hloc] at li lj; exact H.inj i j bi bj b hi hj li lj hB
  · obtain ⟨k1, k2⟩ := H'.old b (Nat.lt_of_lt_of_le hb hs)
    obtain ⟨q1, q2⟩ := H.old b hb
    exact ⟨k1.trans q1, k2.trans q2⟩

theorem HRel.globs {B : Nat} {w0 : Org} {σ : Sg} {h : Heap} {w : World} (H : HRel P B w0 σ h w) : P.globals.size ≤ w.heap.size := by
  rcases Nat.eq_zero_or_pos P.globals.size with h0 | h0
  · omega
  · have := H.codom _ _ (H.glob (P.globals.size - 1) (by omega))
    simp only at this
    omega

theorem clos_frel {σ : Sg} {l l' : List Value} (hr : LRel σ l l') : l.all clo = true → ∀ (τ : Sg), σ.f.le τ.f → LRel τ l l' := by
  induction hr with
  | nil => intro _ _ _; exact .nil
  | cons k _ ih =>
    intro hh τ hle
    simp only [List.all_cons, Bool.and_eq_true] at hh
    exact .cons (((clo_frel 6 hh.1 k).mono hle).vrel) (ih hh.2 τ hle)

/-- Proved over the empty heap, it holds over any. -/
theorem CallK.of {f : FuncId} {args : List Value} {v : Value} (ha : args.all clo = true) (hv : clo v = true) (hc : CallS P f args (Heap.empty P.globals.size) fun v' _ => v' = v) : CallK P f args v := fun h B w0 σ w args' H hargs => by
  have H0 := HRel.start (P := P) (Nat.le_refl _) w H.globs H.frz
  refine (hc w.heap.size ⟨w, σ.f⟩ (Sg.start P.globals.size σ.f) w args' H0 (clos_frel hargs ha _ (Fz.le_refl _))).mono fun e w' ⟨v1, v', h1, k1, k2, σ', k3, k4, k5⟩ => ?_
  subst k2
  obtain ⟨q1, q2⟩ := H.inner k5 k3.f
  exact ⟨v1, v', h, k1, ⟨rfl, rfl⟩, _, q2, FRel.vrel (σ := { σ with f := σ'.f }) (clo_frel 6 hv k4 : FRel σ'.f v1 v'), q1⟩

/-- The same, where more is said of the answer. -/
theorem CallS.of_empty {f : FuncId} {args : List Value} {h : Heap} {S : Value → Prop} (ha : args.all clo = true) (hv : ∀ v, S v → clo v = true) (hc : CallS P f args (Heap.empty P.globals.size) fun v' _ => S v') : CallS P f args h fun v1 h1 => S v1 ∧ h1 = h := fun B w0 σ w args' H hargs => by
  have H0 := HRel.start (P := P) (Nat.le_refl _) w H.globs H.frz
  refine (hc w.heap.size ⟨w, σ.f⟩ (Sg.start P.globals.size σ.f) w args' H0 (clos_frel hargs ha _ (Fz.le_refl _))).mono fun e w' ⟨v1, v', h1, k1, k2, σ', k3, k4, k5⟩ => ?_
  obtain ⟨q1, q2⟩ := H.inner k5 k3.f
  exact ⟨v1, v', h, k1, ⟨k2, rfl⟩, _, q2, FRel.vrel (σ := { σ with f := σ'.f }) (clo_frel 6 (hv _ k2) k4 : FRel σ'.f v1 v'), q1⟩

/-- For a law: what it answers, whatever memory it is called in. -/
theorem CallK.calls {f : FuncId} {args : List Value} {v : Value} (hk : CallK P f args v) (hv : flat v = true) {w : World} {args' : Array Value} {F : Fz} (hF : FzOK F w) (hg : P.globals.size ≤ w.heap.size) (ha : ∀ τ : Sg, τ.f = F → LRel τ args args'.toList) :
    Calls P f args' w fun e w' => e = .returned v ∧ Below w.heap.size w w' := by
  refine (hk (Heap.empty P.globals.size) w.heap.size ⟨w, F⟩ (Sg.start P.globals.size F) w args' (HRel.start (Nat.le_refl _) w hg hF) (ha _ rfl)).mono fun e w' ⟨v1, v', h1, k1, k2, σ', k3, k4, k5⟩ => ?_
  obtain ⟨rfl, _⟩ := k2
  rw [flat_eq hv k4] at k1
  exact ⟨k1, k5.below⟩

end Go.Ideal
