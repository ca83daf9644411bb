/- What the functions of rules answer. -/
import Derived.Test.YtepijhnfeafmaaaAPrg
import Derived.Test.YtepijhnfeafmaaaCAddr
import Derived.Test.YtepijhnfeafmaaaCLabel
set_option linter.unusedVariables false
set_option linter.unusedSimpArgs false
set_option maxRecDepth 100000
namespace Go.Proofs.Ytepijhnfeafmaaa
open Go Go.Ideal
def spanB (lo hi : Int) : Bool := decide (0 ≤ lo) && decide (lo ≤ hi) && decide (hi ≤ 65535)
def quotaB (n : Int) : Bool := decide (1 ≤ n) && decide (n ≤ 1000)
def pfxR (p : Pfx) : Bool := rightB p.addr p.bits
def relabR (n : Int) (r : Relab) : Bool := decide (-1 ≤ r.inp) && decide (r.inp < 8) && decide (-1 ≤ r.label) && decide (r.label < n) && decide (-1 ≤ r.proto) && decide (r.proto < 256) && decide (0 ≤ r.to) && decide (r.to < n) && pfxR r.src && pfxR r.dst
def ruleR (r : Rule) : Bool := decide (-1 ≤ r.inp) && decide (r.inp < 8) && decide (-1 ≤ r.out) && decide (r.out < 8) && decide (-1 ≤ r.proto) && decide (r.proto < 256) && pfxR r.src && pfxR r.dst && spanB r.sportLo r.sportHi && spanB r.dportLo r.dportHi
theorem pfxRight_w (p : Pfx) : CallK Try.prog 106 [pfxV p] (.bool (pfxR p)) := right_w p.addr p.bits
theorem pfxRefRight_w (p : Pfx) (h : ∃ A : Nat, p.addr = A ∧ A < 2 ^ 32) : CallK Try.prog 64 [pfxV p] (.bool (pfxR p)) := by
  obtain ⟨A, e, hA⟩ := h
  have := refRight_w p.addr p.bits
  unfold pfxR
  rw [e] at this ⊢
  rw [right_eq A p.bits hA, ← e]
  rw [← e] at this
  exact this
theorem span_w (lo hi : Int) : CallK Try.prog 154 [.int .i64 lo, .int .i64 hi] (.bool (spanB lo hi)) :=
  CallK.via progOK (pfs []) [] 100 (Adv.split (2 : Nat) (Adv.split (6 : Nat) (Adv.split (10 : Nat) Adv.nil Adv.nil) Adv.nil) Adv.nil) (by kernel_rfl) (by kernel_rfl) (p := (decide (lo ≥ (0 : Int)) = true →
    (decide (lo ≤ hi) = true →
        (decide (hi ≤ (65535 : Int)) = true → Value.bool true = Value.bool (spanB lo hi)) ∧ (decide (hi ≤ (65535 : Int)) = false → Value.bool false = Value.bool (spanB lo hi))) ∧
      (decide (lo ≤ hi) = false → Value.bool false = Value.bool (spanB lo hi))) ∧
  (decide (lo ≥ (0 : Int)) = false → Value.bool false = Value.bool (spanB lo hi))) (by kernel_rfl) (by
    simp only [spanB, Value.bool.injEq, decide_eq_true_eq, decide_eq_false_iff_not, ge_iff_le]
    refine ⟨fun h0 => ⟨fun h1 => ⟨fun h2 => ?_, fun h2 => ?_⟩, fun h1 => ?_⟩, fun h0 => ?_⟩ <;> simp only [*, decide_true, decide_false, Bool.and_true, Bool.and_false, Bool.true_and, Bool.false_and])
theorem refSpan_w (lo hi : Int) : CallK Try.prog 111 [.int .i64 lo, .int .i64 hi] (.bool (spanB lo hi)) :=
  CallK.via progOK (pfs []) [] 100 (Adv.split (2 : Nat) (Adv.split (6 : Nat) (Adv.split (10 : Nat) Adv.nil Adv.nil) Adv.nil) Adv.nil) (by kernel_rfl) (by kernel_rfl) (p := (decide (lo ≥ (0 : Int)) = true →
    (decide (hi ≥ lo) = true →
        (decide (hi ≤ (65535 : Int)) = true → Value.bool true = Value.bool (spanB lo hi)) ∧ (decide (hi ≤ (65535 : Int)) = false → Value.bool false = Value.bool (spanB lo hi))) ∧
      (decide (hi ≥ lo) = false → Value.bool false = Value.bool (spanB lo hi))) ∧
  (decide (lo ≥ (0 : Int)) = false → Value.bool false = Value.bool (spanB lo hi))) (by kernel_rfl) (by
    simp only [spanB, Value.bool.injEq, decide_eq_true_eq, decide_eq_false_iff_not, ge_iff_le]
    refine ⟨fun h0 => ⟨fun h1 => ⟨fun h2 => ?_, fun h2 => ?_⟩, fun h1 => ?_⟩, fun h0 => ?_⟩ <;> simp only [*, decide_true, decide_false, Bool.and_true, Bool.and_false, Bool.true_and, Bool.false_and])
theorem quota_w (n : Int) : CallK Try.prog 65 [.int .i64 n] (.bool (quotaB n)) :=
  CallK.via progOK (pfs []) [] 100 (Adv.split (2 : Nat) (Adv.split (5 : Nat) Adv.nil Adv.nil) Adv.nil) (by kernel_rfl) (by kernel_rfl) (p := (decide (n ≥ (1 : Int)) = true → (decide (n ≤ (1000 : Int)) = true → Value.bool true = Value.bool (quotaB n)) ∧ (decide (n ≤ (1000 : Int)) = false → Value.bool false = Value.bool (quotaB n))) ∧
  (decide (n ≥ (1 : Int)) = false → Value.bool false = Value.bool (quotaB n))) (by kernel_rfl) (by
    simp only [quotaB, Value.bool.injEq, decide_eq_true_eq, decide_eq_false_iff_not, ge_iff_le]
    refine ⟨fun h0 => ⟨fun h1 => ?_, fun h1 => ?_⟩, fun h0 => ?_⟩ <;> simp only [*, decide_true, decide_false, Bool.and_true, Bool.and_false, Bool.true_and, Bool.false_and])
def PfxOK (p : Pfx) : Prop := ∃ A : Nat, p.addr = A ∧ A < 2 ^ 32
theorem refRelab_w (n : Int) (r : Relab) (h0 : PfxOK r.src) (h1 : PfxOK r.dst) : CallK Try.prog 62 [.int .i64 n, relabV r] (.bool (relabR n r)) :=
  CallK.via progOK (pfs []) [] 100 (Adv.split (4 : Nat)
  (Adv.split (8 : Nat)
    (Adv.split (13 : Nat)
      (Adv.split (19 : Nat)
        (Adv.split (24 : Nat)
          (Adv.split (29 : Nat)
            (Adv.split (34 : Nat) (Adv.split (40 : Nat) (Adv.purs (45 : Nat) (pfxR (Relab.src r)) (Adv.purs (50 : Nat) (pfxR (Relab.dst r)) Adv.nil Adv.nil) Adv.nil) Adv.nil) Adv.nil) Adv.nil)
          Adv.nil)
        Adv.nil)
      Adv.nil)
    Adv.nil)
  Adv.nil) (by kernel_rfl) (by kernel_rfl) (p := (decide (Relab.inp r ≥ (-1 : Int)) = true →
    (decide (Relab.inp r ≤ (7 : Int)) = true →
        (decide (Relab.label r ≥ (-1 : Int)) = true →
            (decide (Relab.label r < n) = true →
                (decide (Relab.proto r ≥ (-1 : Int)) = true →
                    (decide (Relab.proto r ≤ (255 : Int)) = true →
                        (decide (Relab.to r ≥ (0 : Int)) = true →
                            (decide (Relab.to r < n) = true →
                                CallK Try.prog (nat_lit 64) [Value.agg (Array.mk (pfxL (Relab.src r)))] (Value.bool (pfxR (Relab.src r))) ∧
                                  (pfxR (Relab.src r) = true →
                                      CallK Try.prog (nat_lit 64) [Value.agg (Array.mk (pfxL (Relab.dst r)))] (Value.bool (pfxR (Relab.dst r))) ∧
                                        (pfxR (Relab.dst r) = true → Value.bool true = Value.bool (relabR n r)) ∧ (pfxR (Relab.dst r) = false → Value.bool false = Value.bool (relabR n r))) ∧
                                    (pfxR (Relab.src r) = false → Value.bool false = Value.bool (relabR n r))) ∧
                              (decide (Relab.to r < n) = false → Value.bool false = Value.bool (relabR n r))) ∧
                          (decide (Relab.to r ≥ (0 : Int)) = false → Value.bool false = Value.bool (relabR n r))) ∧
                      (decide (Relab.proto r ≤ (255 : Int)) = false → Value.bool false = Value.bool (relabR n r))) ∧
                  (decide (Relab.proto r ≥ (-1 : Int)) = false → Value.bool false = Value.bool (relabR n r))) ∧
              (decide (Relab.label r < n) = false → Value.bool false = Value.bool (relabR n r))) ∧
          (decide (Relab.label r ≥ (-1 : Int)) = false → Value.bool false = Value.bool (relabR n r))) ∧
      (decide (Relab.inp r ≤ (7 : Int)) = false → Value.bool false = Value.bool (relabR n r))) ∧
  (decide (Relab.inp r ≥ (-1 : Int)) = false → Value.bool false = Value.bool (relabR n r))) (by kernel_rfl) (by
    simp only [Value.bool.injEq]
    repeat' (first | exact pfxRefRight_w _ (by assumption) | apply And.intro | intro)
    all_goals grind [relabR])
theorem relab_w (n : Int) (r : Relab) : CallK Try.prog 136 [.int .i64 n, relabV r] (.bool (relabR n r)) :=
  CallK.via progOK (pfs []) [] 100 (Adv.split (10 : Nat)
  (Adv.split (14 : Nat)
    (Adv.split (26 : Nat)
      (Adv.split (30 : Nat)
        (Adv.split (42 : Nat)
          (Adv.split (46 : Nat)
            (Adv.split (59 : Nat) (Adv.split (63 : Nat) (Adv.purs (70 : Nat) (pfxR (Relab.src r)) (Adv.purs (75 : Nat) (pfxR (Relab.dst r)) Adv.nil Adv.nil) Adv.nil) Adv.nil) Adv.nil) Adv.nil)
          Adv.nil)
        Adv.nil)
      Adv.nil)
    Adv.nil)
  Adv.nil) (by kernel_rfl) (by kernel_rfl) (p := (decide (Relab.inp r ≥ (-1 : Int)) = true →
    (decide (Relab.inp r < (8 : Int)) = true →
        (decide (Relab.label r ≥ (-1 : Int)) = true →
            (decide (Relab.label r < n) = true →
                (decide (Relab.proto r ≥ (-1 : Int)) = true →
                    (decide (Relab.proto r < (256 : Int)) = true →
                        (decide (Relab.to r ≥ (0 : Int)) = true →
                            (decide (Relab.to r < n) = true →
                                CallK Try.prog (nat_lit 106) [Value.agg (Array.mk (pfxL (Relab.src r)))] (Value.bool (pfxR (Relab.src r))) ∧
                                  (pfxR (Relab.src r) = true →
                                      CallK Try.prog (nat_lit 106) [Value.agg (Array.mk (pfxL (Relab.dst r)))] (Value.bool (pfxR (Relab.dst r))) ∧
                                        (pfxR (Relab.dst r) = true → Value.bool true = Value.bool (relabR n r)) ∧ (pfxR (Relab.dst r) = false → Value.bool false = Value.bool (relabR n r))) ∧
                                    (pfxR (Relab.src r) = false → Value.bool false = Value.bool (relabR n r))) ∧
                              (decide (Relab.to r < n) = false → Value.bool false = Value.bool (relabR n r))) ∧
                          (decide (Relab.to r ≥ (0 : Int)) = false → Value.bool false = Value.bool (relabR n r))) ∧
                      (decide (Relab.proto r < (256 : Int)) = false → Value.bool false = Value.bool (relabR n r))) ∧
                  (decide (Relab.proto r ≥ (-1 : Int)) = false → Value.bool false = Value.bool (relabR n r))) ∧
              (decide (Relab.label r < n) = false → Value.bool false = Value.bool (relabR n r))) ∧
          (decide (Relab.label r ≥ (-1 : Int)) = false → Value.bool false = Value.bool (relabR n r))) ∧
      (decide (Relab.inp r < (8 : Int)) = false → Value.bool false = Value.bool (relabR n r))) ∧
  (decide (Relab.inp r ≥ (-1 : Int)) = false → Value.bool false = Value.bool (relabR n r))) (by kernel_rfl) (by
    simp only [Value.bool.injEq]
    repeat' (first | exact pfxRight_w _ | apply And.intro | intro)
    all_goals grind [relabR])
theorem refRule_w (r : Rule) (h0 : PfxOK r.src) (h1 : PfxOK r.dst) : CallK Try.prog 63 [ruleV r] (.bool (ruleR r)) :=
  CallK.via progOK (pfs []) [] 100 (Adv.split (4 : Nat) Adv.nil
  (Adv.split (8 : Nat) Adv.nil
    (Adv.split (13 : Nat) Adv.nil
      (Adv.split (18 : Nat) Adv.nil
        (Adv.split (23 : Nat) Adv.nil
          (Adv.split (28 : Nat) Adv.nil
            (Adv.purs (32 : Nat) (pfxR (Rule.src r))
              (Adv.purs (36 : Nat) (pfxR (Rule.dst r))
                (Adv.purs (43 : Nat) (spanB (Rule.sportLo r) (Rule.sportHi r)) (Adv.purs (50 : Nat) (spanB (Rule.dportLo r) (Rule.dportHi r)) Adv.nil Adv.nil) Adv.nil) Adv.nil)
              Adv.nil))))))) (by kernel_rfl) (by kernel_rfl) (p := (decide (Rule.inp r < (-1 : Int)) = true → Value.bool false = Value.bool (ruleR r)) ∧
  (decide (Rule.inp r < (-1 : Int)) = false →
    (decide (Rule.inp r > (7 : Int)) = true → Value.bool false = Value.bool (ruleR r)) ∧
      (decide (Rule.inp r > (7 : Int)) = false →
        (decide (Rule.out r < (-1 : Int)) = true → Value.bool false = Value.bool (ruleR r)) ∧
          (decide (Rule.out r < (-1 : Int)) = false →
            (decide (Rule.out r > (7 : Int)) = true → Value.bool false = Value.bool (ruleR r)) ∧
              (decide (Rule.out r > (7 : Int)) = false →
                (decide (Rule.proto r < (-1 : Int)) = true → Value.bool false = Value.bool (ruleR r)) ∧
                  (decide (Rule.proto r < (-1 : Int)) = false →
                    (decide (Rule.proto r > (255 : Int)) = true → Value.bool false = Value.bool (ruleR r)) ∧
                      (decide (Rule.proto r > (255 : Int)) = false →
                        CallK Try.prog (nat_lit 64) [Value.agg (Array.mk (pfxL (Rule.src r)))] (Value.bool (pfxR (Rule.src r))) ∧
                          (pfxR (Rule.src r) = true →
                              CallK Try.prog (nat_lit 64) [Value.agg (Array.mk (pfxL (Rule.dst r)))] (Value.bool (pfxR (Rule.dst r))) ∧
                                (pfxR (Rule.dst r) = true →
                                    CallK Try.prog (nat_lit 111) [Value.int IntKind.i64 (Rule.sportLo r), Value.int IntKind.i64 (Rule.sportHi r)]
                                        (Value.bool (spanB (Rule.sportLo r) (Rule.sportHi r))) ∧
                                      (spanB (Rule.sportLo r) (Rule.sportHi r) = true →
                                          CallK Try.prog (nat_lit 111) [Value.int IntKind.i64 (Rule.dportLo r), Value.int IntKind.i64 (Rule.dportHi r)]
                                              (Value.bool (spanB (Rule.dportLo r) (Rule.dportHi r))) ∧
                                            (spanB (Rule.dportLo r) (Rule.dportHi r) = true → Value.bool true = Value.bool (ruleR r)) ∧
                                              (spanB (Rule.dportLo r) (Rule.dportHi r) = false → Value.bool false = Value.bool (ruleR r))) ∧
                                        (spanB (Rule.sportLo r) (Rule.sportHi r) = false → Value.bool false = Value.bool (ruleR r))) ∧
                                  (pfxR (Rule.dst r) = false → Value.bool false = Value.bool (ruleR r))) ∧
                            (pfxR (Rule.src r) = false → Value.bool false = Value.bool (ruleR r))))))))) (by kernel_rfl) (by
    simp only [Value.bool.injEq]
    repeat' (first | exact pfxRefRight_w _ (by assumption) | exact refSpan_w _ _ | apply And.intro | intro)
    all_goals grind [ruleR])
end Go.Proofs.Ytepijhnfeafmaaa
