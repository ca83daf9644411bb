/- Loops with a state: what the round's head looks like is written down once, out of the state; the other temporaries that the body writes may be anything. -/
import Derived.Test.YtmaajceeaggocaaDoorIEq
set_option linter.unusedVariables false
set_option linter.unusedSimpArgs false
namespace Go.Ideal

def writes : Code → List Nat
  | .region _ ops _ => ops.toList.filterMap (·.dst)
  | .seq a b => writes a ++ writes b
  | .cond _ a b => writes a ++ writes b
  | .loop a => writes a
  | .block _ a => writes a
  | .scope a => writes a
  | _ => []

def overlay (W : List Nat) (S : List (Nat × Value)) (j : Nat → Value) : Nat → List Value → List Value
  | _, [] => []
  | i, v :: l => (match S.find? (fun p => Nat.beq p.1 i) with
    | some p => p.2
    | none => match W.any (Nat.beq i) with
      | true => j i
      | false => v) :: overlay W S j (i + 1) l

section
variable {P : Program} {O : Orc} {a : Code} {ts : List Value} {h : Heap} {Q : Ex → List Value → Heap → Prop} {σ : Type}
def AgainQ (W : List Nat) (ts0 : List Value) (f : σ → List (Nat × Value)) (H : σ → Heap) (Inv : Nat → σ → Prop) (n : Nat) (ts : List Value) (h : Heap) : Prop :=
  ∃ m s j, m < n ∧ Inv m s ∧ ts = overlay W (f s) j 0 ts0 ∧ h = H s
theorem AgainQ.mk {W : List Nat} {ts0 : List Value} {f : σ → List (Nat × Value)} {H : σ → Heap} {Inv : Nat → σ → Prop} {n : Nat} {ts : List Value} {h : Heap} (m : Nat) (s : σ) (hm : m < n) (hi : Inv m s) (ht : overlay W (f s) (fun i => ts.getD i undef) 0 ts0 = ts) (hh : H s = h) :
    AgainQ W ts0 f H Inv n ts h := ⟨m, s, _, hm, hi, ht.symm, hh.symm⟩
theorem Wp.loop_st (f : σ → List (Nat × Value)) (H : σ → Heap) (Inv : Nat → σ → Prop) (n0 : Nat) (s0 : σ) (h0 : Inv n0 s0) (ht : overlay (writes a) (f s0) (fun i => ts.getD i undef) 0 ts = ts) (hh : H s0 = h)
    (hstep : ∀ (n : Nat) (s : σ) (j : Nat → Value), Inv n s → ∃ ts1, overlay (writes a) (f s) j 0 ts = ts1 ∧ Wp P O a ts1 (H s) (thenQ (AgainQ (writes a) ts f H Inv n) Q)) : Wp P O (.loop a) ts h Q := by
  refine Wp.loop_inv (fun n t g => ∃ s j, Inv n s ∧ t = overlay (writes a) (f s) j 0 ts ∧ g = H s) n0 ⟨s0, _, h0, ht.symm, hh.symm⟩ fun n t g hI => ?_
  obtain ⟨s, j, hi, rfl, rfl⟩ := hI
  obtain ⟨ts1, rfl, hw⟩ := hstep n s j hi
  refine hw.mono fun x t' g' q => ?_
  cases x with
  | normal => obtain ⟨m, s', j', k1, k2, k3, k4⟩ := q; exact ⟨m, k1, s', j', k2, k3, k4⟩
  | exit id => exact q
  | ret => exact q
theorem Wp.loop_same (f : σ → List (Nat × Value)) (Inv : Nat → σ → Prop) (n0 : Nat) (s0 : σ) (h0 : Inv n0 s0) (ht : overlay (writes a) (f s0) (fun i => ts.getD i undef) 0 ts = ts)
    (hstep : ∀ (n : Nat) (s : σ) (j : Nat → Value), Inv n s → ∃ ts1, overlay (writes a) (f s) j 0 ts = ts1 ∧ Wp P O a ts1 h (thenQ (AgainQ (writes a) ts f (fun _ => h) Inv n) Q)) : Wp P O (.loop a) ts h Q := Wp.loop_st f (fun _ => h) Inv n0 s0 h0 ht rfl hstep
end
end Go.Ideal
