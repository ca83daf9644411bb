/- Texts packed together: CRule CRule2 CTable. -/
import Derived.Test.YtepijhnfeafmaaaZ16
section
/- What the functions of rules answer. -/
set_option linter.unusedVariables false
set_option linter.unusedSimpArgs false
set_option maxRecDepth 100000
namespace Go.Proofs.Ytepijhnfeafmaaa
open Go Go.Ideal
def spanB (lo hi : Int) : Bool := decide (0 ≤ lo) && decide (lo ≤ hi) && decide (hi ≤ 65535)
def quotaB (n : Int) : Bool := decide (1 ≤ n) && decide (n ≤ 1000)
def pfxR (p : Pfx) : Bool := rightB p.addr p.bits
def relabR (n : Int) (r : Relab) : Bool := decide (-1 ≤ r.inp) && decide (r.inp < 8) && decide (-1 ≤ r.label) && decide (r.label < n) && decide (-1 ≤ r.proto) && decide (r.proto < 256) && decide (0 ≤ r.to) && decide (r.to < n) && pfxR r.src && pfxR r.dst
def ruleR (r : Rule) : Bool := decide (-1 ≤ r.inp) && decide (r.inp < 8) && decide (-1 ≤ r.out) && decide (r.out < 8) && decide (-1 ≤ r.proto) && decide (r.proto < 256) && pfxR r.src && pfxR r.dst && spanB r.sportLo r.sportHi && spanB r.dportLo r.dportHi
theorem pfxRight_w (p : Pfx) : CallK Try.prog 106 [pfxV p] (.bool (pfxR p)) := right_w p.addr p.bits
theorem pfxRefRight_w (p : Pfx) (h : ∃ A : Nat, p.addr = A ∧ A < 2 ^ 32) : CallK Try.prog 64 [pfxV p] (.bool (pfxR p)) := by
  obtain ⟨A, e, hA⟩ := h
  have := refRight_w p.addr p.bits
  unfold pfxR
  rw [e] at this ⊢
  rw [right_eq A p.bits hA, ← e]
  rw [← e] at this
  exact this
theorem span_w (lo hi : Int) : CallK Try.prog 154 [.int .i64 lo, .int .i64 hi] (.bool (spanB lo hi)) :=
  CallK.via progOK (pfs []) [] 100 (Adv.split (4 : Nat) (Adv.split (8 : Nat) (Adv.split (12 : Nat) Adv.nil Adv.nil) Adv.nil) Adv.nil) (by kernel_rfl) (by kernel_rfl) (p := (decide (lo ≥ (0 : Int)) = true →
    (decide (lo ≤ hi) = true →
        (decide (hi ≤ (65535 : Int)) = true → Value.bool true = Value.bool (spanB lo hi)) ∧ (decide (hi ≤ (65535 : Int)) = false → Value.bool false = Value.bool (spanB lo hi))) ∧
      (decide (lo ≤ hi) = false → Value.bool false = Value.bool (spanB lo hi))) ∧
  (decide (lo ≥ (0 : Int)) = false → Value.bool false = Value.bool (spanB lo hi))) (by kernel_rfl) (by
    simp only [spanB, Value.bool.injEq, decide_eq_true_eq, decide_eq_false_iff_not, ge_iff_le]
    refine ⟨fun h0 => ⟨fun h1 => ⟨fun h2 => ?_, fun h2 => ?_⟩, fun h1 => ?_⟩, fun h0 => ?_⟩ <;> simp only [*, decide_true, decide_false, Bool.and_true, Bool.and_false, Bool.true_and, Bool.false_and])
theorem refSpan_w (lo hi : Int) : CallK Try.prog 111 [.int .i64 lo, .int .i64 hi] (.bool (spanB lo hi)) :=
  CallK.via progOK (pfs []) [] 100 (Adv.split (4 : Nat) (Adv.split (8 : Nat) (Adv.split (12 : Nat) Adv.nil Adv.nil) Adv.nil) Adv.nil) (by kernel_rfl) (by kernel_rfl) (p := (decide (lo ≥ (0 : Int)) = true →
    (decide (hi ≥ lo) = true →
        (decide (hi ≤ (65535 : Int)) = true → Value.bool true = Value.bool (spanB lo hi)) ∧ (decide (hi ≤ (65535 : Int)) = false → Value.bool false = Value.bool (spanB lo hi))) ∧
      (decide (hi ≥ lo) = false → Value.bool false = Value.bool (spanB lo hi))) ∧
  (decide (lo ≥ (0 : Int)) = false → Value.bool false = Value.bool (spanB lo hi))) (by kernel_rfl) (by
    simp only [spanB, Value.bool.injEq, decide_eq_true_eq, decide_eq_false_iff_not, ge_iff_le]
    refine ⟨fun h0 => ⟨fun h1 => ⟨fun h2 => ?_, fun h2 => ?_⟩, fun h1 => ?_⟩, fun h0 => ?_⟩ <;> simp only [*, decide_true, decide_false, Bool.and_true, Bool.and_false, Bool.true_and, Bool.false_and])
theorem quota_w (n : Int) : CallK Try.prog 65 [.int .i64 n] (.bool (quotaB n)) :=
  CallK.via progOK (pfs []) [] 100 (Adv.split (4 : Nat) (Adv.split (7 : Nat) Adv.nil Adv.nil) Adv.nil) (by kernel_rfl) (by kernel_rfl) (p := (decide (n ≥ (1 : Int)) = true → (decide (n ≤ (1000 : Int)) = true → Value.bool true = Value.bool (quotaB n)) ∧ (decide (n ≤ (1000 : Int)) = false → Value.bool false = Value.bool (quotaB n))) ∧
  (decide (n ≥ (1 : Int)) = false → Value.bool false = Value.bool (quotaB n))) (by kernel_rfl) (by
    simp only [quotaB, Value.bool.injEq, decide_eq_true_eq, decide_eq_false_iff_not, ge_iff_le]
    refine ⟨fun h0 => ⟨fun h1 => ?_, fun h1 => ?_⟩, fun h0 => ?_⟩ <;> simp only [*, decide_true, decide_false, Bool.and_true, Bool.and_false, Bool.true_and, Bool.false_and])
def PfxOK (p : Pfx) : Prop := ∃ A : Nat, p.addr = A ∧ A < 2 ^ 32
theorem refRelab_w (n : Int) (r : Relab) (h0 : PfxOK r.src) (h1 : PfxOK r.dst) : CallK Try.prog 62 [.int .i64 n, relabV r] (.bool (relabR n r)) :=
  CallK.via progOK (pfs []) [] 100 (Adv.split (6 : Nat)
  (Adv.split (10 : Nat)
    (Adv.split (15 : Nat)
      (Adv.split (21 : Nat)
        (Adv.split (26 : Nat)
          (Adv.split (31 : Nat)
            (Adv.split (36 : Nat) (Adv.split (42 : Nat) (Adv.purs (47 : Nat) (pfxR (Relab.src r)) (Adv.purs (52 : Nat) (pfxR (Relab.dst r)) Adv.nil Adv.nil) Adv.nil) Adv.nil) Adv.nil) Adv.nil)
          Adv.nil)
        Adv.nil)
      Adv.nil)
    Adv.nil)
  Adv.nil) (by kernel_rfl) (by kernel_rfl) (p := (decide (Relab.inp r ≥ (-1 : Int)) = true →
    (decide (Relab.inp r ≤ (7 : Int)) = true →
        (decide (Relab.label r ≥ (-1 : Int)) = true →
            (decide (Relab.label r < n) = true →
                (decide (Relab.proto r ≥ (-1 : Int)) = true →
                    (decide (Relab.proto r ≤ (255 : Int)) = true →
                        (decide (Relab.to r ≥ (0 : Int)) = true →
                            (decide (Relab.to r < n) = true →
                                CallK Try.prog (nat_lit 64) [Value.agg (Array.mk (pfxL (Relab.src r)))] (Value.bool (pfxR (Relab.src r))) ∧
                                  (pfxR (Relab.src r) = true →
                                      CallK Try.prog (nat_lit 64) [Value.agg (Array.mk (pfxL (Relab.dst r)))] (Value.bool (pfxR (Relab.dst r))) ∧
                                        (pfxR (Relab.dst r) = true → Value.bool true = Value.bool (relabR n r)) ∧ (pfxR (Relab.dst r) = false → Value.bool false = Value.bool (relabR n r))) ∧
                                    (pfxR (Relab.src r) = false → Value.bool false = Value.bool (relabR n r))) ∧
                              (decide (Relab.to r < n) = false → Value.bool false = Value.bool (relabR n r))) ∧
                          (decide (Relab.to r ≥ (0 : Int)) = false → Value.bool false = Value.bool (relabR n r))) ∧
                      (decide (Relab.proto r ≤ (255 : Int)) = false → Value.bool false = Value.bool (relabR n r))) ∧
                  (decide (Relab.proto r ≥ (-1 : Int)) = false → Value.bool false = Value.bool (relabR n r))) ∧
              (decide (Relab.label r < n) = false → Value.bool false = Value.bool (relabR n r))) ∧
          (decide (Relab.label r ≥ (-1 : Int)) = false → Value.bool false = Value.bool (relabR n r))) ∧
      (decide (Relab.inp r ≤ (7 : Int)) = false → Value.bool false = Value.bool (relabR n r))) ∧
  (decide (Relab.inp r ≥ (-1 : Int)) = false → Value.bool false = Value.bool (relabR n r))) (by kernel_rfl) (by
    simp only [Value.bool.injEq]
    repeat' (first | exact pfxRefRight_w _ (by assumption) | apply And.intro | intro)
    all_goals grind [relabR])
theorem relab_w (n : Int) (r : Relab) : CallK Try.prog 136 [.int .i64 n, relabV r] (.bool (relabR n r)) :=
  CallK.via progOK (pfs []) [] 100 (Adv.split (15 : Nat)
  (Adv.split (19 : Nat)
    (Adv.split (33 : Nat)
      (Adv.split (37 : Nat)
        (Adv.split (51 : Nat)
          (Adv.split (55 : Nat)
            (Adv.split (70 : Nat) (Adv.split (74 : Nat) (Adv.purs (81 : Nat) (pfxR (Relab.src r)) (Adv.purs (86 : Nat) (pfxR (Relab.dst r)) Adv.nil Adv.nil) Adv.nil) Adv.nil) Adv.nil) Adv.nil)
          Adv.nil)
        Adv.nil)
      Adv.nil)
    Adv.nil)
  Adv.nil) (by kernel_rfl) (by kernel_rfl) (p := (decide (Relab.inp r ≥ (-1 : Int)) = true →
    (decide (Relab.inp r < (8 : Int)) = true →
        (decide (Relab.label r ≥ (-1 : Int)) = true →
            (decide (Relab.label r < n) = true →
                (decide (Relab.proto r ≥ (-1 : Int)) = true →
                    (decide (Relab.proto r < (256 : Int)) = true →
                        (decide (Relab.to r ≥ (0 : Int)) = true →
                            (decide (Relab.to r < n) = true →
                                CallK Try.prog (nat_lit 106) [Value.agg (Array.mk (pfxL (Relab.src r)))] (Value.bool (pfxR (Relab.src r))) ∧
                                  (pfxR (Relab.src r) = true →
                                      CallK Try.prog (nat_lit 106) [Value.agg (Array.mk (pfxL (Relab.dst r)))] (Value.bool (pfxR (Relab.dst r))) ∧
                                        (pfxR (Relab.dst r) = true → Value.bool true = Value.bool (relabR n r)) ∧ (pfxR (Relab.dst r) = false → Value.bool false = Value.bool (relabR n r))) ∧
                                    (pfxR (Relab.src r) = false → Value.bool false = Value.bool (relabR n r))) ∧
                              (decide (Relab.to r < n) = false → Value.bool false = Value.bool (relabR n r))) ∧
                          (decide (Relab.to r ≥ (0 : Int)) = false → Value.bool false = Value.bool (relabR n r))) ∧
                      (decide (Relab.proto r < (256 : Int)) = false → Value.bool false = Value.bool (relabR n r))) ∧
                  (decide (Relab.proto r ≥ (-1 : Int)) = false → Value.bool false = Value.bool (relabR n r))) ∧
              (decide (Relab.label r < n) = false → Value.bool false = Value.bool (relabR n r))) ∧
          (decide (Relab.label r ≥ (-1 : Int)) = false → Value.bool false = Value.bool (relabR n r))) ∧
      (decide (Relab.inp r < (8 : Int)) = false → Value.bool false = Value.bool (relabR n r))) ∧
  (decide (Relab.inp r ≥ (-1 : Int)) = false → Value.bool false = Value.bool (relabR n r))) (by kernel_rfl) (by
    simp only [Value.bool.injEq]
    repeat' (first | exact pfxRight_w _ | apply And.intro | intro)
    all_goals grind [relabR])
theorem refRule_w (r : Rule) (h0 : PfxOK r.src) (h1 : PfxOK r.dst) : CallK Try.prog 63 [ruleV r] (.bool (ruleR r)) :=
  CallK.via progOK (pfs []) [] 100 (Adv.split (7 : Nat) Adv.nil
  (Adv.split (11 : Nat) Adv.nil
    (Adv.split (16 : Nat) Adv.nil
      (Adv.split (21 : Nat) Adv.nil
        (Adv.split (26 : Nat) Adv.nil
          (Adv.split (31 : Nat) Adv.nil
            (Adv.purs (37 : Nat) (pfxR (Rule.src r))
              (Adv.purs (41 : Nat) (pfxR (Rule.dst r))
                (Adv.purs (48 : Nat) (spanB (Rule.sportLo r) (Rule.sportHi r)) (Adv.purs (55 : Nat) (spanB (Rule.dportLo r) (Rule.dportHi r)) Adv.nil Adv.nil) Adv.nil) Adv.nil)
              Adv.nil))))))) (by kernel_rfl) (by kernel_rfl) (p := (decide (Rule.inp r < (-1 : Int)) = true → Value.bool false = Value.bool (ruleR r)) ∧
  (decide (Rule.inp r < (-1 : Int)) = false →
    (decide (Rule.inp r > (7 : Int)) = true → Value.bool false = Value.bool (ruleR r)) ∧
      (decide (Rule.inp r > (7 : Int)) = false →
        (decide (Rule.out r < (-1 : Int)) = true → Value.bool false = Value.bool (ruleR r)) ∧
          (decide (Rule.out r < (-1 : Int)) = false →
            (decide (Rule.out r > (7 : Int)) = true → Value.bool false = Value.bool (ruleR r)) ∧
              (decide (Rule.out r > (7 : Int)) = false →
                (decide (Rule.proto r < (-1 : Int)) = true → Value.bool false = Value.bool (ruleR r)) ∧
                  (decide (Rule.proto r < (-1 : Int)) = false →
                    (decide (Rule.proto r > (255 : Int)) = true → Value.bool false = Value.bool (ruleR r)) ∧
                      (decide (Rule.proto r > (255 : Int)) = false →
                        CallK Try.prog (nat_lit 64) [Value.agg (Array.mk (pfxL (Rule.src r)))] (Value.bool (pfxR (Rule.src r))) ∧
                          (pfxR (Rule.src r) = true →
                              CallK Try.prog (nat_lit 64) [Value.agg (Array.mk (pfxL (Rule.dst r)))] (Value.bool (pfxR (Rule.dst r))) ∧
                                (pfxR (Rule.dst r) = true →
                                    CallK Try.prog (nat_lit 111) [Value.int IntKind.i64 (Rule.sportLo r), Value.int IntKind.i64 (Rule.sportHi r)]
                                        (Value.bool (spanB (Rule.sportLo r) (Rule.sportHi r))) ∧
                                      (spanB (Rule.sportLo r) (Rule.sportHi r) = true →
                                          CallK Try.prog (nat_lit 111) [Value.int IntKind.i64 (Rule.dportLo r), Value.int IntKind.i64 (Rule.dportHi r)]
                                              (Value.bool (spanB (Rule.dportLo r) (Rule.dportHi r))) ∧
                                            (spanB (Rule.dportLo r) (Rule.dportHi r) = true → Value.bool true = Value.bool (ruleR r)) ∧
                                              (spanB (Rule.dportLo r) (Rule.dportHi r) = false → Value.bool false = Value.bool (ruleR r))) ∧
                                        (spanB (Rule.sportLo r) (Rule.sportHi r) = false → Value.bool false = Value.bool (ruleR r))) ∧
                                  (pfxR (Rule.dst r) = false → Value.bool false = Value.bool (ruleR r))) ∧
                            (pfxR (Rule.src r) = false → Value.bool false = Value.bool (ruleR r))))))))) (by kernel_rfl) (by
    simp only [Value.bool.injEq]
    repeat' (first | exact pfxRefRight_w _ (by assumption) | exact refSpan_w _ _ | apply And.intro | intro)
    all_goals grind [ruleR])
end Go.Proofs.Ytepijhnfeafmaaa

end
section
/- What the functions of rules answer: a rule is right. -/
set_option linter.unusedVariables false
set_option linter.unusedSimpArgs false
set_option maxRecDepth 100000
namespace Go.Proofs.Ytepijhnfeafmaaa
open Go Go.Ideal
theorem ruleIn_w (n most : Int) : CallK Try.prog 152 [.int .i64 n, .int .i64 most] (.bool (decide (-1 ≤ n) && decide (n ≤ most))) :=
  CallK.via progOK (pfs []) [] 100 (Adv.split (4 : Nat) (Adv.split (8 : Nat) Adv.nil Adv.nil) Adv.nil) (by kernel_rfl) (by kernel_rfl) (p := (decide (n ≥ (-1 : Int)) = true →
    (decide (n ≤ most) = true → Value.bool true = Value.bool (decide ((-1 : Int) ≤ n) && decide (n ≤ most))) ∧
      (decide (n ≤ most) = false → Value.bool false = Value.bool (decide ((-1 : Int) ≤ n) && decide (n ≤ most)))) ∧
  (decide (n ≥ (-1 : Int)) = false → Value.bool false = Value.bool (decide ((-1 : Int) ≤ n) && decide (n ≤ most)))) (by kernel_rfl) (by
    simp only [Value.bool.injEq]
    repeat' (first | apply And.intro | intro)
    all_goals grind)
theorem all7_w (a b c d e f g : Bool) : CallK Try.prog 153 [vsl 7 (Array.mk [.bool a, .bool b, .bool c, .bool d, .bool e, .bool f, .bool g])] (.bool (a && b && c && d && e && f && g)) :=
  CallK.via progOK (pfs []) [] 100 (Adv.split (31 : Nat)
  (Adv.split (49 : Nat) (Adv.split (67 : Nat) (Adv.split (85 : Nat) (Adv.split (103 : Nat) (Adv.split (121 : Nat) (Adv.split (139 : Nat) Adv.nil Adv.nil) Adv.nil) Adv.nil) Adv.nil) Adv.nil) Adv.nil)
  Adv.nil) (by kernel_rfl) (by kernel_rfl) (p := (a = true →
    (b = true →
        (c = true →
            (d = true →
                (e = true →
                    (f = true → (g = true → Value.bool true = Value.bool (a && b && c && d && e && f && g)) ∧ (g = false → Value.bool false = Value.bool (a && b && c && d && e && f && g))) ∧
                      (f = false → Value.bool false = Value.bool (a && b && c && d && e && f && g))) ∧
                  (e = false → Value.bool false = Value.bool (a && b && c && d && e && f && g))) ∧
              (d = false → Value.bool false = Value.bool (a && b && c && d && e && f && g))) ∧
          (c = false → Value.bool false = Value.bool (a && b && c && d && e && f && g))) ∧
      (b = false → Value.bool false = Value.bool (a && b && c && d && e && f && g))) ∧
  (a = false → Value.bool false = Value.bool (a && b && c && d && e && f && g))) (by kernel_rfl) (by
    simp only [Value.bool.injEq]
    repeat' (first | apply And.intro | intro)
    all_goals grind)
theorem rule_w (r : Rule) : CallK Try.prog 139 [ruleV r] (.bool (ruleR r)) :=
  CallK.via progOK (pfs [152, 106, 154]) [] 100 (Adv.pur (9 : Nat) (Value.bool (decide ((-1 : Int) ≤ Rule.inp r) && decide (Rule.inp r ≤ (7 : Int))))
  (Adv.pur (13 : Nat) (Value.bool (decide ((-1 : Int) ≤ Rule.out r) && decide (Rule.out r ≤ (7 : Int))))
    (Adv.pur (17 : Nat) (Value.bool (decide ((-1 : Int) ≤ Rule.proto r) && decide (Rule.proto r ≤ (255 : Int))))
      (Adv.pur (20 : Nat) (Value.bool (pfxR (Rule.src r)))
        (Adv.pur (23 : Nat) (Value.bool (pfxR (Rule.dst r)))
          (Adv.pur (28 : Nat) (Value.bool (spanB (Rule.sportLo r) (Rule.sportHi r)))
            (Adv.pur (33 : Nat) (Value.bool (spanB (Rule.dportLo r) (Rule.dportHi r)))
              (Adv.bors (35 : Nat)
                (decide ((-1 : Int) ≤ Rule.inp r) && decide (Rule.inp r ≤ (7 : Int)) && (decide ((-1 : Int) ≤ Rule.out r) && decide (Rule.out r ≤ (7 : Int))) &&
                          (decide ((-1 : Int) ≤ Rule.proto r) && decide (Rule.proto r ≤ (255 : Int))) &&
                        pfxR (Rule.src r) &&
                      pfxR (Rule.dst r) &&
                    spanB (Rule.sportLo r) (Rule.sportHi r) &&
                  spanB (Rule.dportLo r) (Rule.dportHi r))
                Adv.nil Adv.nil)))))))) (by kernel_rfl) (by kernel_rfl) (p := CallK Try.prog (nat_lit 152) [Value.int IntKind.i64 (Rule.inp r), Value.int IntKind.i64 (7 : Int)] (Value.bool (decide ((-1 : Int) ≤ Rule.inp r) && decide (Rule.inp r ≤ (7 : Int)))) ∧
  CallK Try.prog (nat_lit 152) [Value.int IntKind.i64 (Rule.out r), Value.int IntKind.i64 (7 : Int)] (Value.bool (decide ((-1 : Int) ≤ Rule.out r) && decide (Rule.out r ≤ (7 : Int)))) ∧
    CallK Try.prog (nat_lit 152) [Value.int IntKind.i64 (Rule.proto r), Value.int IntKind.i64 (255 : Int)] (Value.bool (decide ((-1 : Int) ≤ Rule.proto r) && decide (Rule.proto r ≤ (255 : Int)))) ∧
      CallK Try.prog (nat_lit 106) [Value.agg (Array.mk (pfxL (Rule.src r)))] (Value.bool (pfxR (Rule.src r))) ∧
        CallK Try.prog (nat_lit 106) [Value.agg (Array.mk (pfxL (Rule.dst r)))] (Value.bool (pfxR (Rule.dst r))) ∧
          CallK Try.prog (nat_lit 154) [Value.int IntKind.i64 (Rule.sportLo r), Value.int IntKind.i64 (Rule.sportHi r)] (Value.bool (spanB (Rule.sportLo r) (Rule.sportHi r))) ∧
            CallK Try.prog (nat_lit 154) [Value.int IntKind.i64 (Rule.dportLo r), Value.int IntKind.i64 (Rule.dportHi r)] (Value.bool (spanB (Rule.dportLo r) (Rule.dportHi r))) ∧
              CallK Try.prog (nat_lit 153)
                  [Value.iface (nat_lit 1000000)
                      (Value.tuple
                        (Array.mk
                          [Value.int IntKind.i64 (7 : Int),
                            Value.agg
                              (Array.mk
                                [Value.bool (decide ((-1 : Int) ≤ Rule.inp r) && decide (Rule.inp r ≤ (7 : Int))), Value.bool (decide ((-1 : Int) ≤ Rule.out r) && decide (Rule.out r ≤ (7 : Int))),
                                  Value.bool (decide ((-1 : Int) ≤ Rule.proto r) && decide (Rule.proto r ≤ (255 : Int))), Value.bool (pfxR (Rule.src r)), Value.bool (pfxR (Rule.dst r)),
                                  Value.bool (spanB (Rule.sportLo r) (Rule.sportHi r)), Value.bool (spanB (Rule.dportLo r) (Rule.dportHi r))])]))]
                  (Value.bool
                    (decide ((-1 : Int) ≤ Rule.inp r) && decide (Rule.inp r ≤ (7 : Int)) && (decide ((-1 : Int) ≤ Rule.out r) && decide (Rule.out r ≤ (7 : Int))) &&
                              (decide ((-1 : Int) ≤ Rule.proto r) && decide (Rule.proto r ≤ (255 : Int))) &&
                            pfxR (Rule.src r) &&
                          pfxR (Rule.dst r) &&
                        spanB (Rule.sportLo r) (Rule.sportHi r) &&
                      spanB (Rule.dportLo r) (Rule.dportHi r))) ∧
                ((decide ((-1 : Int) ≤ Rule.inp r) && decide (Rule.inp r ≤ (7 : Int)) && (decide ((-1 : Int) ≤ Rule.out r) && decide (Rule.out r ≤ (7 : Int))) &&
                                (decide ((-1 : Int) ≤ Rule.proto r) && decide (Rule.proto r ≤ (255 : Int))) &&
                              pfxR (Rule.src r) &&
                            pfxR (Rule.dst r) &&
                          spanB (Rule.sportLo r) (Rule.sportHi r) &&
                        spanB (Rule.dportLo r) (Rule.dportHi r)) =
                      true →
                    True ∧ Value.bool true = Value.bool (ruleR r)) ∧
                  ((decide ((-1 : Int) ≤ Rule.inp r) && decide (Rule.inp r ≤ (7 : Int)) && (decide ((-1 : Int) ≤ Rule.out r) && decide (Rule.out r ≤ (7 : Int))) &&
                                (decide ((-1 : Int) ≤ Rule.proto r) && decide (Rule.proto r ≤ (255 : Int))) &&
                              pfxR (Rule.src r) &&
                            pfxR (Rule.dst r) &&
                          spanB (Rule.sportLo r) (Rule.sportHi r) &&
                        spanB (Rule.dportLo r) (Rule.dportHi r)) =
                      false →
                    True ∧ Value.bool false = Value.bool (ruleR r))) (by kernel_rfl) (by
    simp only [Value.bool.injEq]
    repeat' (first | exact ruleIn_w _ _ | exact pfxRight_w _ | exact span_w _ _ | exact all7_w _ _ _ _ _ _ _ | apply And.intro | intro)
    all_goals grind [ruleR])
end Go.Proofs.Ytepijhnfeafmaaa

end
section
/- What the functions of the table of labels answer. -/
set_option linter.unusedVariables false
set_option linter.unusedSimpArgs false
set_option maxRecDepth 100000
namespace Go.Proofs.Ytepijhnfeafmaaa
open Go Go.Ideal
theorem lblRight1_w (x : Lbl) : CallK Try.prog 114 [vsl 1 (Array.mk (lblL x))] (.bool (rightL x)) :=
  CallK.via progOK (pfs []) [] 100 (Adv.purs (19 : Nat) (rightL x) Adv.nil Adv.nil) (by kernel_rfl) (by kernel_rfl) (p := CallK Try.prog (nat_lit 142) [Value.agg (Array.mk (lblL x))] (Value.bool (rightL x)) ∧
  (rightL x = true → Value.bool true = Value.bool (rightL x)) ∧ (rightL x = false → Value.bool false = Value.bool (rightL x))) (by kernel_rfl) (by
    simp only [Value.bool.injEq]
    refine ⟨lblRight_w x, fun h => h.symm, fun h => h.symm⟩)
def lblKeys (ys : List Lbl) : List Value := ys.map lblV
def keyHas (ys : List Lbl) (x : Lbl) : Bool := ys.any (lblEq x)
def keyIdx (ys : List Lbl) (x : Lbl) : Nat := ys.findIdx (lblEq x)
def keyVal (ys : List Lbl) (x : Lbl) : Value := .int .i64 (keyIdx ys x : Nat)
def nums (n : Nat) : List Value := (List.range n).map fun i : Nat => .int .i64 i
/-- What is wrong with a list's label. -/
def lblBad (xs : List Lbl) (k : Nat) : Int := if rightL (xs.getD k default) = false then 1 else if 16 ≤ k then 5 else if keyHas (xs.take k) (xs.getD k default) = true then 7 else 0
def lblsChk (xs : List Lbl) : Int × Int := firstBad xs.length (lblBad xs)
def okT (xs : List Lbl) : Bool := decide ((lblsChk xs).2 = 0)
/-- A table's cells, and its value. -/
def tblL (xs : List Lbl) : List Value := [lblsV xs, vmp (lblKeys xs).toArray (nums xs.length).toArray]
def tblV (xs : List Lbl) : Value := vpt 0 (tblL xs).toArray
theorem key_find {ys : List Lbl} {x : Lbl} (h : keyHas ys x = true) : (Ask.find 44 (lblV x) (lblKeys ys) (some (keyIdx ys x))).holds Try.prog := by
  show findI _ _ _ _ 0 = _
  rw [lblKeys, findI_map (fun a b => lblEq_eqD a b), (findIdx_of_any h).1]; rfl
theorem key_none {ys : List Lbl} {x : Lbl} (h : keyHas ys x = false) : (Ask.find 44 (lblV x) (lblKeys ys) none).holds Try.prog := by
  show findI _ _ _ _ 0 = _
  rw [lblKeys, findI_map (fun a b => lblEq_eqD a b), findIdx_of_not_any h]; rfl
theorem key_get {ys : List Lbl} {x : Lbl} (h : keyHas ys x = true) : (Ask.get (nums ys.length) (keyIdx ys x) (keyVal ys x)).holds Try.prog := by
  show (nums ys.length)[keyIdx ys x]? = _
  simp [nums, keyVal, keyIdx, (findIdx_of_any h).2]
theorem nums_snoc (n : Nat) : nums (n + 1) = nums n ++ [.int .i64 n] := by simp [nums, List.range_succ]
theorem lblKeys_snoc (l : List Lbl) (x : Lbl) : lblKeys (l ++ [x]) = lblKeys l ++ [lblV x] := by simp [lblKeys]
theorem lblsL_snoc (l : List Lbl) (x : Lbl) : lblsL (l ++ [x]) = lblsL l ++ lblL x := cellsOf_snoc _ _ _
theorem lblsL_length (l : List Lbl) : (lblsL l).length = l.length * 31 := cellsOf_length lblL_length l
theorem nums_flat (n : Nat) : (nums n).all flat = true := by
  rw [List.all_eq_true]; intro v hv
  simp only [nums, List.mem_map] at hv
  obtain ⟨i, _, rfl⟩ := hv
  rfl
theorem nums_refs (n N : Nat) : (nums n).all (refsOK 8 N) = true := by
  rw [List.all_eq_true]; intro v hv
  simp only [nums, List.mem_map] at hv
  obtain ⟨i, _, rfl⟩ := hv
  rfl
theorem lbl_bytes : (Try.prog.types[(44 : Nat)]).bytes + 1 ≤ 1000 := by decide +kernel
theorem lblsChk_at {xs : List Lbl} {k : Nat} (hk : k < xs.length) (hb : lblBad xs k ≠ 0) (no : ∀ j, j < k → lblBad xs j = 0) : lblsChk xs = ((k : Int), lblBad xs k) := firstBad_at hk hb no
theorem okT_not {xs : List Lbl} {k : Nat} (hk : k < xs.length) (hb : lblBad xs k ≠ 0) (no : ∀ j, j < k → lblBad xs j = 0) : okT xs = false := by
  unfold okT; rw [lblsChk_at hk hb no]; exact decide_eq_false hb
theorem okT_yes {xs : List Lbl} (no : ∀ j, j < xs.length → lblBad xs j = 0) : okT xs = true := by
  unfold okT lblsChk; rw [firstBad_none no]; rfl
theorem bad1 {xs : List Lbl} {k : Nat} (h : rightL (xs.getD k default) = false) : lblBad xs k = 1 := by unfold lblBad; rw [if_pos h]
theorem bad5 {xs : List Lbl} {k : Nat} (h : rightL (xs.getD k default) = true) (hk : 16 ≤ k) : lblBad xs k = 5 := by unfold lblBad; rw [if_neg (by rw [h]; decide), if_pos hk]
theorem bad7 {xs : List Lbl} {k : Nat} (h : rightL (xs.getD k default) = true) (hk : ¬ 16 ≤ k) (hh : keyHas (xs.take k) (xs.getD k default) = true) : lblBad xs k = 7 := by unfold lblBad; rw [if_neg (by rw [h]; decide), if_neg hk, if_pos hh]
theorem bad0 {xs : List Lbl} {k : Nat} (h : rightL (xs.getD k default) = true) (hk : ¬ 16 ≤ k) (hh : keyHas (xs.take k) (xs.getD k default) = false) : lblBad xs k = 0 := by unfold lblBad; rw [if_neg (by rw [h]; decide), if_neg hk, if_neg (by rw [hh]; decide)]
theorem tbl_round {xs : List Lbl} {k : Nat} (hk : k < xs.length) : some (Blk.cells [osl 2 31 ((k : Int) + 1) ⟨lblsL (xs.take k) ++ lblL (xs.getD k default)⟩, .map (some 0)] 167 .fix) = some (Blk.cells [osl 2 31 ((k + 1 : Nat) : Int) (lblsL (xs.take (k + 1))).toArray, .map (some 0)] 167 .fix) ∧
    some (Blk.own (k * 31 + 31) 44) = some (Blk.own ((k + 1) * 31) 44) ∧
    some (Blk.map (lblKeys (xs.take k) ++ [lblV (xs.getD k default)]) (nums k ++ [.int .i64 k])) = some (Blk.map (lblKeys (xs.take (k + 1))) (nums (k + 1))) := by
  rw [take_snoc default hk, lblsL_snoc, lblKeys_snoc, nums_snoc, Nat.succ_mul]
  exact ⟨rfl, rfl, rfl⟩
theorem tbl_err {xs : List Lbl} {k : Nat} {e : Int} (hk : k < xs.length) (hb : lblBad xs k = e) (he : e ≠ 0) (no : ∀ j, j < k → lblBad xs j = 0) : Value.tuple (Array.mk [.pointer none, .int .i64 k, .int .i64 e]) = .tuple (Array.mk [.pointer none, .int .i64 (lblsChk xs).1, .int .i64 (lblsChk xs).2]) := by
  rw [lblsChk_at hk (by rw [hb]; exact he) no, hb]
theorem tblNew_t (xs : List Lbl) (hl : xs.length ≤ 1099511627776) (h : okT xs = true) : CallK Try.prog 72 [lblsV xs] (.tuple (Array.mk [tblV xs, .int .i64 xs.length, .int .i64 0])) :=
  CallK.frz progOK (pfs []) [] 100 (Adv.weak (14 : Nat) []
  (Heap.mk (nat_lit 3)
    (Trie.node (some (Blk.map [] []))
      (Trie.node
        (some
          (Blk.cells
            [Value.iface (nat_lit 1000003) (Value.tuple (Array.mk [Value.int IntKind.i64 (2 : Int), Value.int IntKind.i64 (31 : Int), Value.int IntKind.i64 (0 : Int), Value.agg (Array.mk [])])),
              Value.map (some (nat_lit 0))]
            (nat_lit 167) Mode.fix))
        Trie.leaf Trie.leaf)
      (Trie.node (some (Blk.own (nat_lit 0) (nat_lit 44))) Trie.leaf Trie.leaf)))
  (Adv.loop (15 : Nat) (fun (k : Nat) => [((15 : Nat), Value.int IntKind.i64 (↑k : Int))])
    ((fun (h : Heap) (k : Nat) =>
        Heap.set
          (Heap.set (Heap.set h (0 : Nat) (Blk.map (lblKeys (List.take k xs)) (nums k))) (1 : Nat)
            (Blk.cells [osl (2 : Nat) (31 : Nat) (↑k : Int) (List.toArray (lblsL (List.take k xs))), Value.map (some (0 : Nat))] (167 : TypeId) Mode.fix))
          (2 : Nat) (Blk.own (k * (31 : Nat)) (44 : TypeId)))
      (Heap.mk (nat_lit 3)
        (Trie.node (some (Blk.map [] []))
          (Trie.node
            (some
              (Blk.cells
                [Value.iface (nat_lit 1000003) (Value.tuple (Array.mk [Value.int IntKind.i64 (2 : Int), Value.int IntKind.i64 (31 : Int), Value.int IntKind.i64 (0 : Int), Value.agg (Array.mk [])])),
                  Value.map (some (nat_lit 0))]
                (nat_lit 167) Mode.fix))
            Trie.leaf Trie.leaf)
          (Trie.node (some (Blk.own (nat_lit 0) (nat_lit 44))) Trie.leaf Trie.leaf))))
    (fun (i k : Nat) => i + k = List.length xs ∧ k ≤ (16 : Nat) ∧ ∀ (j : Nat), j < k → lblBad xs j = (0 : Int)) (List.length xs) (0 : Nat) fun (i15 s15 : Nat) (j15 : Nat → Value) =>
    Adv.split (17 : Nat)
      (Adv.chk (23 : Nat) none
        (Adv.chk (24 : Nat) (some (Value.agg (Array.mk (lblL (List.getD xs s15 default)))))
          (Adv.cas (34 : Nat) (keyHas (List.take s15 xs) (List.getD xs s15 default))
            (Adv.chk (34 : Nat)
              (some (Value.tuple (Array.mk [Value.int IntKind.i64 (Int.ofNat (keyIdx (List.take s15 xs) (List.getD xs s15 default))), keyVal (List.take s15 xs) (List.getD xs s15 default)])))
              (Adv.bors (44 : Nat) (rightL (List.getD xs s15 default)) (Adv.split (50 : Nat) Adv.nil Adv.nil) Adv.nil))
            (Adv.chk (34 : Nat) (some Value.nilFunc)
              (Adv.bors (44 : Nat) (rightL (List.getD xs s15 default)) (Adv.split (50 : Nat) Adv.nil (Adv.chk (65 : Nat) none (Adv.chk (75 : Nat) (some Value.nilFunc) Adv.nil))) Adv.nil)))))
      Adv.nil)) (by kernel_rfl) (by kernel_rfl) (p := Weak Try.prog
    [Value.iface (nat_lit 1000000) (Value.tuple (Array.mk [Value.int IntKind.i64 (↑(List.length xs) : Int), Value.agg (Array.mk (lblsL xs))])), Value.tuple (Array.mk []), Value.pointer none,
      Value.int IntKind.i64 (0 : Int), Value.int IntKind.i64 (0 : Int), Value.pointer (some (Addr.mk (nat_lit 1) (nat_lit 0) none)), Value.tuple (Array.mk []), Value.tuple (Array.mk []),
      Value.tuple (Array.mk []), Value.tuple (Array.mk []), Value.map (some (nat_lit 0)), Value.agg (Array.mk [Value.slice none (nat_lit 0) (nat_lit 0), Value.map (some (nat_lit 0))]),
      Value.pointer (some (Addr.mk (nat_lit 1) (nat_lit 0) none)),
      Value.iface (nat_lit 1000000) (Value.tuple (Array.mk [Value.int IntKind.i64 (↑(List.length xs) : Int), Value.agg (Array.mk (lblsL xs))])), Value.int IntKind.i64 (↑(List.length xs) : Int),
      Value.int IntKind.i64 (0 : Int), Value.tuple (Array.mk []), Value.tuple (Array.mk []), Value.tuple (Array.mk []), Value.tuple (Array.mk []), Value.tuple (Array.mk []), Value.tuple (Array.mk []),
      Value.tuple (Array.mk []), Value.tuple (Array.mk []), Value.tuple (Array.mk []), Value.tuple (Array.mk []), Value.tuple (Array.mk []), Value.tuple (Array.mk []), Value.tuple (Array.mk []),
      Value.tuple (Array.mk []), Value.tuple (Array.mk []), Value.tuple (Array.mk []), Value.tuple (Array.mk []), Value.tuple (Array.mk []), Value.tuple (Array.mk []), Value.tuple (Array.mk []),
      Value.tuple (Array.mk []), Value.tuple (Array.mk []), Value.tuple (Array.mk []), Value.tuple (Array.mk []), Value.tuple (Array.mk []), Value.tuple (Array.mk []), Value.tuple (Array.mk []),
      Value.tuple (Array.mk []), Value.tuple (Array.mk []), Value.tuple (Array.mk []), Value.tuple (Array.mk []), Value.tuple (Array.mk []), Value.tuple (Array.mk []), Value.tuple (Array.mk []),
      Value.tuple (Array.mk []), Value.tuple (Array.mk []), Value.tuple (Array.mk []), Value.tuple (Array.mk []), Value.tuple (Array.mk []), Value.tuple (Array.mk []), Value.tuple (Array.mk []),
      Value.tuple (Array.mk []), Value.tuple (Array.mk []), Value.tuple (Array.mk []), Value.tuple (Array.mk []), Value.tuple (Array.mk [])]
    (Heap.mk (nat_lit 2)
      (Trie.node (some (Blk.map [] [])) (Trie.node (some (Blk.cells [Value.slice none (nat_lit 0) (nat_lit 0), Value.map (some (nat_lit 0))] (nat_lit 167) Mode.fix)) Trie.leaf Trie.leaf) Trie.leaf))
    [Value.iface (nat_lit 1000000) (Value.tuple (Array.mk [Value.int IntKind.i64 (↑(List.length xs) : Int), Value.agg (Array.mk (lblsL xs))])), Value.tuple (Array.mk []), Value.pointer none,
      Value.int IntKind.i64 (0 : Int), Value.int IntKind.i64 (0 : Int), Value.pointer (some (Addr.mk (nat_lit 1) (nat_lit 0) none)), Value.tuple (Array.mk []), Value.tuple (Array.mk []),
      Value.tuple (Array.mk []), Value.tuple (Array.mk []), Value.map (some (nat_lit 0)), Value.agg (Array.mk [Value.slice none (nat_lit 0) (nat_lit 0), Value.map (some (nat_lit 0))]),
      Value.pointer (some (Addr.mk (nat_lit 1) (nat_lit 0) none)),
      Value.iface (nat_lit 1000000) (Value.tuple (Array.mk [Value.int IntKind.i64 (↑(List.length xs) : Int), Value.agg (Array.mk (lblsL xs))])), Value.int IntKind.i64 (↑(List.length xs) : Int),
      Value.int IntKind.i64 (0 : Int), Value.tuple (Array.mk []), Value.tuple (Array.mk []), Value.tuple (Array.mk []), Value.tuple (Array.mk []), Value.tuple (Array.mk []), Value.tuple (Array.mk []),
      Value.tuple (Array.mk []), Value.tuple (Array.mk []), Value.tuple (Array.mk []), Value.tuple (Array.mk []), Value.tuple (Array.mk []), Value.tuple (Array.mk []), Value.tuple (Array.mk []),
      Value.tuple (Array.mk []), Value.tuple (Array.mk []), Value.tuple (Array.mk []), Value.tuple (Array.mk []), Value.tuple (Array.mk []), Value.tuple (Array.mk []), Value.tuple (Array.mk []),
      Value.tuple (Array.mk []), Value.tuple (Array.mk []), Value.tuple (Array.mk []), Value.tuple (Array.mk []), Value.tuple (Array.mk []), Value.tuple (Array.mk []), Value.tuple (Array.mk []),
      Value.tuple (Array.mk []), Value.tuple (Array.mk []), Value.tuple (Array.mk []), Value.tuple (Array.mk []), Value.tuple (Array.mk []), Value.tuple (Array.mk []), Value.tuple (Array.mk []),
      Value.tuple (Array.mk []), Value.tuple (Array.mk []), Value.tuple (Array.mk []), Value.tuple (Array.mk []), Value.tuple (Array.mk []), Value.tuple (Array.mk []), Value.tuple (Array.mk []),
      Value.tuple (Array.mk []), Value.tuple (Array.mk []), Value.tuple (Array.mk []), Value.tuple (Array.mk []), Value.tuple (Array.mk [])]
    (Heap.mk (nat_lit 3)
      (Trie.node (some (Blk.map [] []))
        (Trie.node
          (some
            (Blk.cells
              [Value.iface (nat_lit 1000003) (Value.tuple (Array.mk [Value.int IntKind.i64 (2 : Int), Value.int IntKind.i64 (31 : Int), Value.int IntKind.i64 (0 : Int), Value.agg (Array.mk [])])),
                Value.map (some (nat_lit 0))]
              (nat_lit 167) Mode.fix))
          Trie.leaf Trie.leaf)
        (Trie.node (some (Blk.own (nat_lit 0) (nat_lit 44))) Trie.leaf Trie.leaf))) ∧
  ((List.length xs + (0 : Nat) = List.length xs ∧ (0 : Nat) ≤ (16 : Nat) ∧ ∀ (j : Nat), j < (0 : Nat) → lblBad xs j = (0 : Int)) ∧
      Value.int IntKind.i64 (0 : Int) = Value.int IntKind.i64 (0 : Int) ∧
        Heap.mk (nat_lit 3)
            (Trie.node (some (Blk.map [] []))
              (Trie.node
                (some
                  (Blk.cells
                    [Value.iface (nat_lit 1000003)
                        (Value.tuple (Array.mk [Value.int IntKind.i64 (2 : Int), Value.int IntKind.i64 (31 : Int), Value.int IntKind.i64 (0 : Int), Value.agg (Array.mk [])])),
                      Value.map (some (nat_lit 0))]
                    (nat_lit 167) Mode.fix))
                Trie.leaf Trie.leaf)
              (Trie.node (some (Blk.own (nat_lit 0) (nat_lit 44))) Trie.leaf Trie.leaf)) =
          Heap.mk (nat_lit 3)
            (Trie.node (some (Blk.map [] []))
              (Trie.node
                (some
                  (Blk.cells
                    [Value.iface (nat_lit 1000003)
                        (Value.tuple (Array.mk [Value.int IntKind.i64 (2 : Int), Value.int IntKind.i64 (31 : Int), Value.int IntKind.i64 (0 : Int), Value.agg (Array.mk [])])),
                      Value.map (some (nat_lit 0))]
                    (nat_lit 167) Mode.fix))
                Trie.leaf Trie.leaf)
              (Trie.node (some (Blk.own (nat_lit 0) (nat_lit 44))) Trie.leaf Trie.leaf))) ∧
    ∀ (i15 s15 : Nat) (j15 : Nat → Value),
      (i15 + s15 = List.length xs ∧ s15 ≤ (16 : Nat) ∧ ∀ (j : Nat), j < s15 → lblBad xs j = (0 : Int)) →
        (decide ((↑s15 : Int) < (↑(List.length xs) : Int)) = true →
            ((0 : Int) ≤ (↑s15 : Int) ∧ (↑s15 : Int) < (↑(List.length xs) : Int)) ∧
              Ask.holds Try.prog (Ask.part (Array.toList (Array.mk (lblsL xs))) (Int.toNat (↑(Int.toNat (↑s15 : Int) * nat_lit 31) : Int)) (nat_lit 31) (lblL (List.getD xs s15 default))) ∧
                (keyHas (List.take s15 xs) (List.getD xs s15 default) = true →
                    (Ask.holds Try.prog
                          (Ask.get (nums s15) (Int.toNat (Int.ofNat (keyIdx (List.take s15 xs) (List.getD xs s15 default))))
                            (Value.int IntKind.i64 (↑(keyIdx (List.take s15 xs) (List.getD xs s15 default)) : Int))) ∧
                        Ask.holds Try.prog
                          (Ask.find (nat_lit 44) (Value.agg (Array.mk (lblL (List.getD xs s15 default)))) (lblKeys (List.take s15 xs))
                            (some (Int.toNat (Int.ofNat (keyIdx (List.take s15 xs) (List.getD xs s15 default))))))) ∧
                      CallK Try.prog (nat_lit 114) [Value.iface (nat_lit 1000000) (Value.tuple (Array.mk [Value.int IntKind.i64 (1 : Int), Value.agg (Array.mk (lblL (List.getD xs s15 default)))]))]
                          (Value.bool (rightL (List.getD xs s15 default))) ∧
                        (rightL (List.getD xs s15 default) = true →
                            (decide ((↑s15 : Int) ≥ (16 : Int)) = true →
                                (List.all (nums s15) flat = true ∧ True) ∧
                                  Value.tuple (Array.mk [Value.pointer none, Value.int IntKind.i64 (↑s15 : Int), Value.int IntKind.i64 (5 : Int)]) =
                                    Value.tuple (Array.mk [tblV xs, Value.int IntKind.i64 (↑(List.length xs) : Int), Value.int IntKind.i64 (0 : Int)])) ∧
                              (decide ((↑s15 : Int) ≥ (16 : Int)) = false →
                                (List.all (nums s15) flat = true ∧ True) ∧
                                  Value.tuple (Array.mk [Value.pointer none, Value.int IntKind.i64 (↑s15 : Int), Value.int IntKind.i64 (7 : Int)]) =
                                    Value.tuple (Array.mk [tblV xs, Value.int IntKind.i64 (↑(List.length xs) : Int), Value.int IntKind.i64 (0 : Int)]))) ∧
                          (rightL (List.getD xs s15 default) = false →
                            (List.all (nums s15) flat = true ∧ True) ∧
                              Value.tuple (Array.mk [Value.pointer none, Value.int IntKind.i64 (↑s15 : Int), Value.int IntKind.i64 (1 : Int)]) =
                                Value.tuple (Array.mk [tblV xs, Value.int IntKind.i64 (↑(List.length xs) : Int), Value.int IntKind.i64 (0 : Int)]))) ∧
                  (keyHas (List.take s15 xs) (List.getD xs s15 default) = false →
                    Ask.holds Try.prog (Ask.find (nat_lit 44) (Value.agg (Array.mk (lblL (List.getD xs s15 default)))) (lblKeys (List.take s15 xs)) none) ∧
                      CallK Try.prog (nat_lit 114) [Value.iface (nat_lit 1000000) (Value.tuple (Array.mk [Value.int IntKind.i64 (1 : Int), Value.agg (Array.mk (lblL (List.getD xs s15 default)))]))]
                          (Value.bool (rightL (List.getD xs s15 default))) ∧
                        (rightL (List.getD xs s15 default) = true →
                            (decide ((↑s15 : Int) ≥ (16 : Int)) = true →
                                (List.all (nums s15) flat = true ∧ True) ∧
                                  Value.tuple (Array.mk [Value.pointer none, Value.int IntKind.i64 (↑s15 : Int), Value.int IntKind.i64 (5 : Int)]) =
                                    Value.tuple (Array.mk [tblV xs, Value.int IntKind.i64 (↑(List.length xs) : Int), Value.int IntKind.i64 (0 : Int)])) ∧
                              (decide ((↑s15 : Int) ≥ (16 : Int)) = false →
                                (List.length (Array.toList (Array.mk (lblsL (List.take s15 xs)))) = s15 * (31 : Nat) ∧
                                    ((↑s15 : Int) + (↑(nat_lit 1) : Int)) * ((↑(TypeInfo.bytes (Tables.types (Program.toTables Try.prog))[(44 : Nat)]) : Int) + (1 : Int)) ≤ (1099511627776 : Int)) ∧
                                  Value.iface (nat_lit 1000003)
                                        (Value.tuple
                                          (Array.mk
                                            [Value.int IntKind.i64 (2 : Int), Value.int IntKind.i64 (31 : Int), Value.int IntKind.i64 (↑s15 : Int), Value.agg (Array.mk (lblsL (List.take s15 xs)))])) =
                                      Value.iface (nat_lit 1000003)
                                        (Value.tuple
                                          (Array.mk
                                            [Value.int IntKind.i64 (2 : Int), Value.int IntKind.i64 (31 : Int), Value.int IntKind.i64 (↑s15 : Int), Value.agg (Array.mk (lblsL (List.take s15 xs)))])) ∧
                                    Ask.holds Try.prog (Ask.find (nat_lit 44) (Value.agg (Array.mk (lblL (List.getD xs s15 default)))) (lblKeys (List.take s15 xs)) none) ∧
                                      ∃ (i15' : Nat),
                                        ∃ (s15' : Nat),
                                          i15' < i15 ∧
                                            (i15' + s15' = List.length xs ∧ s15' ≤ (16 : Nat) ∧ ∀ (j : Nat), j < s15' → lblBad xs j = (0 : Int)) ∧
                                              Value.int IntKind.i64 (IntKind.wrap IntKind.i64 ((↑s15 : Int) + (1 : Int))) = Value.int IntKind.i64 (↑s15' : Int) ∧
                                                (some
                                                        (Blk.own
                                                          (s15 * (31 : Nat) + List.length (List.take (nat_lit 1 * Int.toNat (31 : Int)) (List.drop (nat_lit 0) (lblL (List.getD xs s15 default)))))
                                                          (nat_lit 44)) =
                                                      some (Blk.own (s15' * (31 : Nat)) (nat_lit 44)) ∧
                                                    some
                                                          (Blk.cells
                                                            [Value.iface (nat_lit 1000003)
                                                                (Value.tuple
                                                                  (Array.mk
                                                                    [Value.int IntKind.i64 (2 : Int), Value.int IntKind.i64 (31 : Int), Value.int IntKind.i64 ((↑s15 : Int) + (↑(nat_lit 1) : Int)),
                                                                      Value.agg
                                                                        (Array.mk
                                                                          (Array.toList (Array.mk (lblsL (List.take s15 xs))) ++
                                                                            List.take (nat_lit 1 * Int.toNat (31 : Int)) (List.drop (nat_lit 0) (lblL (List.getD xs s15 default)))))])),
                                                              Value.map (some (nat_lit 0))]
                                                            (nat_lit 167) Mode.fix) =
                                                        some
                                                          (Blk.cells
                                                            [Value.iface (nat_lit 1000003)
                                                                (Value.tuple
                                                                  (Array.mk
                                                                    [Value.int IntKind.i64 (2 : Int), Value.int IntKind.i64 (31 : Int), Value.int IntKind.i64 (↑s15' : Int),
                                                                      Value.agg (Array.mk (lblsL (List.take s15' xs)))])),
                                                              Value.map (some (nat_lit 0))]
                                                            (nat_lit 167) Mode.fix) ∧
                                                      some
                                                            (Blk.map (lblKeys (List.take s15 xs) ++ [Value.agg (Array.mk (lblL (List.getD xs s15 default)))])
                                                              (nums s15 ++ [Value.int IntKind.i64 (↑s15 : Int)])) =
                                                          some (Blk.map (lblKeys (List.take s15' xs)) (nums s15')) ∧
                                                        True) ∧
                                                  true = true ∧ true = true ∧ List.all (nums s15') (refsOK (nat_lit 8) (nat_lit 3)) = true ∧ True)) ∧
                          (rightL (List.getD xs s15 default) = false →
                            (List.all (nums s15) flat = true ∧ True) ∧
                              Value.tuple (Array.mk [Value.pointer none, Value.int IntKind.i64 (↑s15 : Int), Value.int IntKind.i64 (1 : Int)]) =
                                Value.tuple (Array.mk [tblV xs, Value.int IntKind.i64 (↑(List.length xs) : Int), Value.int IntKind.i64 (0 : Int)])))) ∧
          (decide ((↑s15 : Int) < (↑(List.length xs) : Int)) = false →
            (List.all (nums s15) flat = true ∧ True) ∧
              Value.tuple
                  (Array.mk
                    [Value.iface (nat_lit 1000001)
                        (Value.tuple
                          (Array.mk
                            [Value.int IntKind.i64 (0 : Int),
                              Value.agg
                                (Array.mk
                                  [Value.iface (nat_lit 1000000) (Value.tuple (Array.mk [Value.int IntKind.i64 (↑s15 : Int), Value.agg (Array.mk (lblsL (List.take s15 xs)))])),
                                    Value.iface (nat_lit 1000004) (Value.tuple (Array.mk [Value.agg (Array.mk (lblKeys (List.take s15 xs))), Value.agg (Array.mk (nums s15))]))])])),
                      Value.int IntKind.i64 (↑(List.length xs) : Int), Value.int IntKind.i64 (0 : Int)]) =
                Value.tuple (Array.mk [tblV xs, Value.int IntKind.i64 (↑(List.length xs) : Int), Value.int IntKind.i64 (0 : Int)]))) (by kernel_rfl) (by
    have bad : ∀ {k : Nat} {p : Prop}, k < xs.length → lblBad xs k ≠ 0 → (∀ j, j < k → lblBad xs j = 0) → p := fun hk hb no => by
      rw [okT_not hk hb no] at h; cases h
    refine ⟨Weak.ownAt' 1 0 31 44 (by rfl) (by rfl) (by rfl) (by rfl), ⟨⟨by omega, by omega, fun j hj => by omega⟩, rfl, rfl⟩, fun i k j ⟨q1, q2, q3⟩ => ⟨fun h1 => ?_, fun h1 => ?_⟩⟩
    · have hk : k < xs.length := by simpa using h1
      have hlen : (lblsL (xs.take k)).length = k * 31 := by rw [lblsL_length, List.length_take_of_le (by omega)]
      have hkeys : (xs.take k).length = k := List.length_take_of_le (by omega)
      refine ⟨⟨by omega, by omega⟩, lbls_part hk, fun h2 => ⟨⟨?_, key_find h2⟩, lblRight1_w _, fun h3 => ⟨fun h4 => ?_, fun h4 => ?_⟩, fun h3 => ?_⟩, fun h2 => ⟨key_none h2, lblRight1_w _, fun h3 => ⟨fun h4 => ?_, fun h4 => ?_⟩, fun h3 => ?_⟩⟩
      · have := key_get h2; rw [hkeys] at this; exact this
      · exact bad hk (by rw [bad5 h3 (by have := of_decide_eq_true h4; omega)]; decide) q3
      · exact bad hk (by rw [bad7 h3 (by have := of_decide_eq_false h4; omega) h2]; decide) q3
      · exact bad hk (by rw [bad1 h3]; decide) q3
      · exact bad hk (by rw [bad5 h3 (by have := of_decide_eq_true h4; omega)]; decide) q3
      · have h16 : ¬ 16 ≤ k := by have := of_decide_eq_false h4; omega
        have hbt := lbl_bytes
        obtain ⟨r1, r2, r3⟩ := tbl_round hk
        refine ⟨⟨hlen, ?_⟩, rfl, key_none h2, i - 1, k + 1, by omega, ⟨by omega, by omega, fun j hj => ?_⟩, congrArg _ (wrap_in (by omega) (by omega)), ⟨r2, r1, r3, trivial⟩, rfl, ⟨rfl, nums_refs _ _, trivial⟩⟩
        · exact mul_room 17 1000 (show (k : Int) + 1 ≤ 17 by omega) (by omega) (by omega) (by decide) (by decide)
        · rcases Nat.lt_or_ge j k with hj2 | hj2
          · exact q3 j hj2
          · obtain rfl : j = k := by omega
            exact bad0 h3 h16 h2
      · exact bad hk (by rw [bad1 h3]; decide) q3
    · have hk : k = xs.length := by simp at h1; omega
      subst hk
      refine ⟨⟨nums_flat _, trivial⟩, ?_⟩
      rw [List.take_length]
      rfl)
theorem tblNew_f (xs : List Lbl) (hl : xs.length ≤ 1099511627776) (h : okT xs = false) : CallK Try.prog 72 [lblsV xs] (.tuple (Array.mk [.pointer none, .int .i64 (lblsChk xs).1, .int .i64 (lblsChk xs).2])) :=
  CallK.frz progOK (pfs []) [] 100 (Adv.weak (14 : Nat) []
  (Heap.mk (nat_lit 3)
    (Trie.node (some (Blk.map [] []))
      (Trie.node
        (some
          (Blk.cells
            [Value.iface (nat_lit 1000003) (Value.tuple (Array.mk [Value.int IntKind.i64 (2 : Int), Value.int IntKind.i64 (31 : Int), Value.int IntKind.i64 (0 : Int), Value.agg (Array.mk [])])),
              Value.map (some (nat_lit 0))]
            (nat_lit 167) Mode.fix))
        Trie.leaf Trie.leaf)
      (Trie.node (some (Blk.own (nat_lit 0) (nat_lit 44))) Trie.leaf Trie.leaf)))
  (Adv.loop (15 : Nat) (fun (k : Nat) => [((15 : Nat), Value.int IntKind.i64 (↑k : Int))])
    ((fun (h : Heap) (k : Nat) =>
        Heap.set
          (Heap.set (Heap.set h (0 : Nat) (Blk.map (lblKeys (List.take k xs)) (nums k))) (1 : Nat)
            (Blk.cells [osl (2 : Nat) (31 : Nat) (↑k : Int) (List.toArray (lblsL (List.take k xs))), Value.map (some (0 : Nat))] (167 : TypeId) Mode.fix))
          (2 : Nat) (Blk.own (k * (31 : Nat)) (44 : TypeId)))
      (Heap.mk (nat_lit 3)
        (Trie.node (some (Blk.map [] []))
          (Trie.node
            (some
              (Blk.cells
                [Value.iface (nat_lit 1000003) (Value.tuple (Array.mk [Value.int IntKind.i64 (2 : Int), Value.int IntKind.i64 (31 : Int), Value.int IntKind.i64 (0 : Int), Value.agg (Array.mk [])])),
                  Value.map (some (nat_lit 0))]
                (nat_lit 167) Mode.fix))
            Trie.leaf Trie.leaf)
          (Trie.node (some (Blk.own (nat_lit 0) (nat_lit 44))) Trie.leaf Trie.leaf))))
    (fun (i k : Nat) => i + k = List.length xs ∧ k ≤ (16 : Nat) ∧ ∀ (j : Nat), j < k → lblBad xs j = (0 : Int)) (List.length xs) (0 : Nat) fun (i15 s15 : Nat) (j15 : Nat → Value) =>
    Adv.split (17 : Nat)
      (Adv.chk (23 : Nat) none
        (Adv.chk (24 : Nat) (some (Value.agg (Array.mk (lblL (List.getD xs s15 default)))))
          (Adv.cas (34 : Nat) (keyHas (List.take s15 xs) (List.getD xs s15 default))
            (Adv.chk (34 : Nat)
              (some (Value.tuple (Array.mk [Value.int IntKind.i64 (Int.ofNat (keyIdx (List.take s15 xs) (List.getD xs s15 default))), keyVal (List.take s15 xs) (List.getD xs s15 default)])))
              (Adv.bors (44 : Nat) (rightL (List.getD xs s15 default)) (Adv.split (50 : Nat) Adv.nil Adv.nil) Adv.nil))
            (Adv.chk (34 : Nat) (some Value.nilFunc)
              (Adv.bors (44 : Nat) (rightL (List.getD xs s15 default)) (Adv.split (50 : Nat) Adv.nil (Adv.chk (65 : Nat) none (Adv.chk (75 : Nat) (some Value.nilFunc) Adv.nil))) Adv.nil)))))
      Adv.nil)) (by kernel_rfl) (by kernel_rfl) (p := Weak Try.prog
    [Value.iface (nat_lit 1000000) (Value.tuple (Array.mk [Value.int IntKind.i64 (↑(List.length xs) : Int), Value.agg (Array.mk (lblsL xs))])), Value.tuple (Array.mk []), Value.pointer none,
      Value.int IntKind.i64 (0 : Int), Value.int IntKind.i64 (0 : Int), Value.pointer (some (Addr.mk (nat_lit 1) (nat_lit 0) none)), Value.tuple (Array.mk []), Value.tuple (Array.mk []),
      Value.tuple (Array.mk []), Value.tuple (Array.mk []), Value.map (some (nat_lit 0)), Value.agg (Array.mk [Value.slice none (nat_lit 0) (nat_lit 0), Value.map (some (nat_lit 0))]),
      Value.pointer (some (Addr.mk (nat_lit 1) (nat_lit 0) none)),
      Value.iface (nat_lit 1000000) (Value.tuple (Array.mk [Value.int IntKind.i64 (↑(List.length xs) : Int), Value.agg (Array.mk (lblsL xs))])), Value.int IntKind.i64 (↑(List.length xs) : Int),
      Value.int IntKind.i64 (0 : Int), Value.tuple (Array.mk []), Value.tuple (Array.mk []), Value.tuple (Array.mk []), Value.tuple (Array.mk []), Value.tuple (Array.mk []), Value.tuple (Array.mk []),
      Value.tuple (Array.mk []), Value.tuple (Array.mk []), Value.tuple (Array.mk []), Value.tuple (Array.mk []), Value.tuple (Array.mk []), Value.tuple (Array.mk []), Value.tuple (Array.mk []),
      Value.tuple (Array.mk []), Value.tuple (Array.mk []), Value.tuple (Array.mk []), Value.tuple (Array.mk []), Value.tuple (Array.mk []), Value.tuple (Array.mk []), Value.tuple (Array.mk []),
      Value.tuple (Array.mk []), Value.tuple (Array.mk []), Value.tuple (Array.mk []), Value.tuple (Array.mk []), Value.tuple (Array.mk []), Value.tuple (Array.mk []), Value.tuple (Array.mk []),
      Value.tuple (Array.mk []), Value.tuple (Array.mk []), Value.tuple (Array.mk []), Value.tuple (Array.mk []), Value.tuple (Array.mk []), Value.tuple (Array.mk []), Value.tuple (Array.mk []),
      Value.tuple (Array.mk []), Value.tuple (Array.mk []), Value.tuple (Array.mk []), Value.tuple (Array.mk []), Value.tuple (Array.mk []), Value.tuple (Array.mk []), Value.tuple (Array.mk []),
      Value.tuple (Array.mk []), Value.tuple (Array.mk []), Value.tuple (Array.mk []), Value.tuple (Array.mk []), Value.tuple (Array.mk [])]
    (Heap.mk (nat_lit 2)
      (Trie.node (some (Blk.map [] [])) (Trie.node (some (Blk.cells [Value.slice none (nat_lit 0) (nat_lit 0), Value.map (some (nat_lit 0))] (nat_lit 167) Mode.fix)) Trie.leaf Trie.leaf) Trie.leaf))
    [Value.iface (nat_lit 1000000) (Value.tuple (Array.mk [Value.int IntKind.i64 (↑(List.length xs) : Int), Value.agg (Array.mk (lblsL xs))])), Value.tuple (Array.mk []), Value.pointer none,
      Value.int IntKind.i64 (0 : Int), Value.int IntKind.i64 (0 : Int), Value.pointer (some (Addr.mk (nat_lit 1) (nat_lit 0) none)), Value.tuple (Array.mk []), Value.tuple (Array.mk []),
      Value.tuple (Array.mk []), Value.tuple (Array.mk []), Value.map (some (nat_lit 0)), Value.agg (Array.mk [Value.slice none (nat_lit 0) (nat_lit 0), Value.map (some (nat_lit 0))]),
      Value.pointer (some (Addr.mk (nat_lit 1) (nat_lit 0) none)),
      Value.iface (nat_lit 1000000) (Value.tuple (Array.mk [Value.int IntKind.i64 (↑(List.length xs) : Int), Value.agg (Array.mk (lblsL xs))])), Value.int IntKind.i64 (↑(List.length xs) : Int),
      Value.int IntKind.i64 (0 : Int), Value.tuple (Array.mk []), Value.tuple (Array.mk []), Value.tuple (Array.mk []), Value.tuple (Array.mk []), Value.tuple (Array.mk []), Value.tuple (Array.mk []),
      Value.tuple (Array.mk []), Value.tuple (Array.mk []), Value.tuple (Array.mk []), Value.tuple (Array.mk []), Value.tuple (Array.mk []), Value.tuple (Array.mk []), Value.tuple (Array.mk []),
      Value.tuple (Array.mk []), Value.tuple (Array.mk []), Value.tuple (Array.mk []), Value.tuple (Array.mk []), Value.tuple (Array.mk []), Value.tuple (Array.mk []), Value.tuple (Array.mk []),
      Value.tuple (Array.mk []), Value.tuple (Array.mk []), Value.tuple (Array.mk []), Value.tuple (Array.mk []), Value.tuple (Array.mk []), Value.tuple (Array.mk []), Value.tuple (Array.mk []),
      Value.tuple (Array.mk []), Value.tuple (Array.mk []), Value.tuple (Array.mk []), Value.tuple (Array.mk []), Value.tuple (Array.mk []), Value.tuple (Array.mk []), Value.tuple (Array.mk []),
      Value.tuple (Array.mk []), Value.tuple (Array.mk []), Value.tuple (Array.mk []), Value.tuple (Array.mk []), Value.tuple (Array.mk []), Value.tuple (Array.mk []), Value.tuple (Array.mk []),
      Value.tuple (Array.mk []), Value.tuple (Array.mk []), Value.tuple (Array.mk []), Value.tuple (Array.mk []), Value.tuple (Array.mk [])]
    (Heap.mk (nat_lit 3)
      (Trie.node (some (Blk.map [] []))
        (Trie.node
          (some
            (Blk.cells
              [Value.iface (nat_lit 1000003) (Value.tuple (Array.mk [Value.int IntKind.i64 (2 : Int), Value.int IntKind.i64 (31 : Int), Value.int IntKind.i64 (0 : Int), Value.agg (Array.mk [])])),
                Value.map (some (nat_lit 0))]
              (nat_lit 167) Mode.fix))
          Trie.leaf Trie.leaf)
        (Trie.node (some (Blk.own (nat_lit 0) (nat_lit 44))) Trie.leaf Trie.leaf))) ∧
  ((List.length xs + (0 : Nat) = List.length xs ∧ (0 : Nat) ≤ (16 : Nat) ∧ ∀ (j : Nat), j < (0 : Nat) → lblBad xs j = (0 : Int)) ∧
      Value.int IntKind.i64 (0 : Int) = Value.int IntKind.i64 (0 : Int) ∧
        Heap.mk (nat_lit 3)
            (Trie.node (some (Blk.map [] []))
              (Trie.node
                (some
                  (Blk.cells
                    [Value.iface (nat_lit 1000003)
                        (Value.tuple (Array.mk [Value.int IntKind.i64 (2 : Int), Value.int IntKind.i64 (31 : Int), Value.int IntKind.i64 (0 : Int), Value.agg (Array.mk [])])),
                      Value.map (some (nat_lit 0))]
                    (nat_lit 167) Mode.fix))
                Trie.leaf Trie.leaf)
              (Trie.node (some (Blk.own (nat_lit 0) (nat_lit 44))) Trie.leaf Trie.leaf)) =
          Heap.mk (nat_lit 3)
            (Trie.node (some (Blk.map [] []))
              (Trie.node
                (some
                  (Blk.cells
                    [Value.iface (nat_lit 1000003)
                        (Value.tuple (Array.mk [Value.int IntKind.i64 (2 : Int), Value.int IntKind.i64 (31 : Int), Value.int IntKind.i64 (0 : Int), Value.agg (Array.mk [])])),
                      Value.map (some (nat_lit 0))]
                    (nat_lit 167) Mode.fix))
                Trie.leaf Trie.leaf)
              (Trie.node (some (Blk.own (nat_lit 0) (nat_lit 44))) Trie.leaf Trie.leaf))) ∧
    ∀ (i15 s15 : Nat) (j15 : Nat → Value),
      (i15 + s15 = List.length xs ∧ s15 ≤ (16 : Nat) ∧ ∀ (j : Nat), j < s15 → lblBad xs j = (0 : Int)) →
        (decide ((↑s15 : Int) < (↑(List.length xs) : Int)) = true →
            ((0 : Int) ≤ (↑s15 : Int) ∧ (↑s15 : Int) < (↑(List.length xs) : Int)) ∧
              Ask.holds Try.prog (Ask.part (Array.toList (Array.mk (lblsL xs))) (Int.toNat (↑(Int.toNat (↑s15 : Int) * nat_lit 31) : Int)) (nat_lit 31) (lblL (List.getD xs s15 default))) ∧
                (keyHas (List.take s15 xs) (List.getD xs s15 default) = true →
                    (Ask.holds Try.prog
                          (Ask.get (nums s15) (Int.toNat (Int.ofNat (keyIdx (List.take s15 xs) (List.getD xs s15 default))))
                            (Value.int IntKind.i64 (↑(keyIdx (List.take s15 xs) (List.getD xs s15 default)) : Int))) ∧
                        Ask.holds Try.prog
                          (Ask.find (nat_lit 44) (Value.agg (Array.mk (lblL (List.getD xs s15 default)))) (lblKeys (List.take s15 xs))
                            (some (Int.toNat (Int.ofNat (keyIdx (List.take s15 xs) (List.getD xs s15 default))))))) ∧
                      CallK Try.prog (nat_lit 114) [Value.iface (nat_lit 1000000) (Value.tuple (Array.mk [Value.int IntKind.i64 (1 : Int), Value.agg (Array.mk (lblL (List.getD xs s15 default)))]))]
                          (Value.bool (rightL (List.getD xs s15 default))) ∧
                        (rightL (List.getD xs s15 default) = true →
                            (decide ((↑s15 : Int) ≥ (16 : Int)) = true →
                                (List.all (nums s15) flat = true ∧ True) ∧
                                  Value.tuple (Array.mk [Value.pointer none, Value.int IntKind.i64 (↑s15 : Int), Value.int IntKind.i64 (5 : Int)]) =
                                    Value.tuple (Array.mk [Value.pointer none, Value.int IntKind.i64 (Prod.fst (lblsChk xs)), Value.int IntKind.i64 (Prod.snd (lblsChk xs))])) ∧
                              (decide ((↑s15 : Int) ≥ (16 : Int)) = false →
                                (List.all (nums s15) flat = true ∧ True) ∧
                                  Value.tuple (Array.mk [Value.pointer none, Value.int IntKind.i64 (↑s15 : Int), Value.int IntKind.i64 (7 : Int)]) =
                                    Value.tuple (Array.mk [Value.pointer none, Value.int IntKind.i64 (Prod.fst (lblsChk xs)), Value.int IntKind.i64 (Prod.snd (lblsChk xs))]))) ∧
                          (rightL (List.getD xs s15 default) = false →
                            (List.all (nums s15) flat = true ∧ True) ∧
                              Value.tuple (Array.mk [Value.pointer none, Value.int IntKind.i64 (↑s15 : Int), Value.int IntKind.i64 (1 : Int)]) =
                                Value.tuple (Array.mk [Value.pointer none, Value.int IntKind.i64 (Prod.fst (lblsChk xs)), Value.int IntKind.i64 (Prod.snd (lblsChk xs))]))) ∧
                  (keyHas (List.take s15 xs) (List.getD xs s15 default) = false →
                    Ask.holds Try.prog (Ask.find (nat_lit 44) (Value.agg (Array.mk (lblL (List.getD xs s15 default)))) (lblKeys (List.take s15 xs)) none) ∧
                      CallK Try.prog (nat_lit 114) [Value.iface (nat_lit 1000000) (Value.tuple (Array.mk [Value.int IntKind.i64 (1 : Int), Value.agg (Array.mk (lblL (List.getD xs s15 default)))]))]
                          (Value.bool (rightL (List.getD xs s15 default))) ∧
                        (rightL (List.getD xs s15 default) = true →
                            (decide ((↑s15 : Int) ≥ (16 : Int)) = true →
                                (List.all (nums s15) flat = true ∧ True) ∧
                                  Value.tuple (Array.mk [Value.pointer none, Value.int IntKind.i64 (↑s15 : Int), Value.int IntKind.i64 (5 : Int)]) =
                                    Value.tuple (Array.mk [Value.pointer none, Value.int IntKind.i64 (Prod.fst (lblsChk xs)), Value.int IntKind.i64 (Prod.snd (lblsChk xs))])) ∧
                              (decide ((↑s15 : Int) ≥ (16 : Int)) = false →
                                (List.length (Array.toList (Array.mk (lblsL (List.take s15 xs)))) = s15 * (31 : Nat) ∧
                                    ((↑s15 : Int) + (↑(nat_lit 1) : Int)) * ((↑(TypeInfo.bytes (Tables.types (Program.toTables Try.prog))[(44 : Nat)]) : Int) + (1 : Int)) ≤ (1099511627776 : Int)) ∧
                                  Value.iface (nat_lit 1000003)
                                        (Value.tuple
                                          (Array.mk
                                            [Value.int IntKind.i64 (2 : Int), Value.int IntKind.i64 (31 : Int), Value.int IntKind.i64 (↑s15 : Int), Value.agg (Array.mk (lblsL (List.take s15 xs)))])) =
                                      Value.iface (nat_lit 1000003)
                                        (Value.tuple
                                          (Array.mk
                                            [Value.int IntKind.i64 (2 : Int), Value.int IntKind.i64 (31 : Int), Value.int IntKind.i64 (↑s15 : Int), Value.agg (Array.mk (lblsL (List.take s15 xs)))])) ∧
                                    Ask.holds Try.prog (Ask.find (nat_lit 44) (Value.agg (Array.mk (lblL (List.getD xs s15 default)))) (lblKeys (List.take s15 xs)) none) ∧
                                      ∃ (i15' : Nat),
                                        ∃ (s15' : Nat),
                                          i15' < i15 ∧
                                            (i15' + s15' = List.length xs ∧ s15' ≤ (16 : Nat) ∧ ∀ (j : Nat), j < s15' → lblBad xs j = (0 : Int)) ∧
                                              Value.int IntKind.i64 (IntKind.wrap IntKind.i64 ((↑s15 : Int) + (1 : Int))) = Value.int IntKind.i64 (↑s15' : Int) ∧
                                                (some
                                                        (Blk.own
                                                          (s15 * (31 : Nat) + List.length (List.take (nat_lit 1 * Int.toNat (31 : Int)) (List.drop (nat_lit 0) (lblL (List.getD xs s15 default)))))
                                                          (nat_lit 44)) =
                                                      some (Blk.own (s15' * (31 : Nat)) (nat_lit 44)) ∧
                                                    some
                                                          (Blk.cells
                                                            [Value.iface (nat_lit 1000003)
                                                                (Value.tuple
                                                                  (Array.mk
                                                                    [Value.int IntKind.i64 (2 : Int), Value.int IntKind.i64 (31 : Int), Value.int IntKind.i64 ((↑s15 : Int) + (↑(nat_lit 1) : Int)),
                                                                      Value.agg
                                                                        (Array.mk
                                                                          (Array.toList (Array.mk (lblsL (List.take s15 xs))) ++
                                                                            List.take (nat_lit 1 * Int.toNat (31 : Int)) (List.drop (nat_lit 0) (lblL (List.getD xs s15 default)))))])),
                                                              Value.map (some (nat_lit 0))]
                                                            (nat_lit 167) Mode.fix) =
                                                        some
                                                          (Blk.cells
                                                            [Value.iface (nat_lit 1000003)
                                                                (Value.tuple
                                                                  (Array.mk
                                                                    [Value.int IntKind.i64 (2 : Int), Value.int IntKind.i64 (31 : Int), Value.int IntKind.i64 (↑s15' : Int),
                                                                      Value.agg (Array.mk (lblsL (List.take s15' xs)))])),
                                                              Value.map (some (nat_lit 0))]
                                                            (nat_lit 167) Mode.fix) ∧
                                                      some
                                                            (Blk.map (lblKeys (List.take s15 xs) ++ [Value.agg (Array.mk (lblL (List.getD xs s15 default)))])
                                                              (nums s15 ++ [Value.int IntKind.i64 (↑s15 : Int)])) =
                                                          some (Blk.map (lblKeys (List.take s15' xs)) (nums s15')) ∧
                                                        True) ∧
                                                  true = true ∧ true = true ∧ List.all (nums s15') (refsOK (nat_lit 8) (nat_lit 3)) = true ∧ True)) ∧
                          (rightL (List.getD xs s15 default) = false →
                            (List.all (nums s15) flat = true ∧ True) ∧
                              Value.tuple (Array.mk [Value.pointer none, Value.int IntKind.i64 (↑s15 : Int), Value.int IntKind.i64 (1 : Int)]) =
                                Value.tuple (Array.mk [Value.pointer none, Value.int IntKind.i64 (Prod.fst (lblsChk xs)), Value.int IntKind.i64 (Prod.snd (lblsChk xs))])))) ∧
          (decide ((↑s15 : Int) < (↑(List.length xs) : Int)) = false →
            (List.all (nums s15) flat = true ∧ True) ∧
              Value.tuple
                  (Array.mk
                    [Value.iface (nat_lit 1000001)
                        (Value.tuple
                          (Array.mk
                            [Value.int IntKind.i64 (0 : Int),
                              Value.agg
                                (Array.mk
                                  [Value.iface (nat_lit 1000000) (Value.tuple (Array.mk [Value.int IntKind.i64 (↑s15 : Int), Value.agg (Array.mk (lblsL (List.take s15 xs)))])),
                                    Value.iface (nat_lit 1000004) (Value.tuple (Array.mk [Value.agg (Array.mk (lblKeys (List.take s15 xs))), Value.agg (Array.mk (nums s15))]))])])),
                      Value.int IntKind.i64 (↑(List.length xs) : Int), Value.int IntKind.i64 (0 : Int)]) =
                Value.tuple (Array.mk [Value.pointer none, Value.int IntKind.i64 (Prod.fst (lblsChk xs)), Value.int IntKind.i64 (Prod.snd (lblsChk xs))]))) (by kernel_rfl) (by
    refine ⟨Weak.ownAt' 1 0 31 44 (by rfl) (by rfl) (by rfl) (by rfl), ⟨⟨by omega, by omega, fun j hj => by omega⟩, rfl, rfl⟩, fun i k j ⟨q1, q2, q3⟩ => ⟨fun h1 => ?_, fun h1 => ?_⟩⟩
    · have hk : k < xs.length := by simpa using h1
      have hlen : (lblsL (xs.take k)).length = k * 31 := by rw [lblsL_length, List.length_take_of_le (by omega)]
      have hkeys : (xs.take k).length = k := List.length_take_of_le (by omega)
      refine ⟨⟨by omega, by omega⟩, lbls_part hk, fun h2 => ⟨⟨?_, key_find h2⟩, lblRight1_w _, fun h3 => ⟨fun h4 => ?_, fun h4 => ?_⟩, fun h3 => ?_⟩, fun h2 => ⟨key_none h2, lblRight1_w _, fun h3 => ⟨fun h4 => ?_, fun h4 => ?_⟩, fun h3 => ?_⟩⟩
      · have := key_get h2; rw [hkeys] at this; exact this
      · exact ⟨⟨nums_flat _, trivial⟩, tbl_err hk (bad5 h3 (by have := of_decide_eq_true h4; omega)) (by decide) q3⟩
      · exact ⟨⟨nums_flat _, trivial⟩, tbl_err hk (bad7 h3 (by have := of_decide_eq_false h4; omega) h2) (by decide) q3⟩
      · exact ⟨⟨nums_flat _, trivial⟩, tbl_err hk (bad1 h3) (by decide) q3⟩
      · exact ⟨⟨nums_flat _, trivial⟩, tbl_err hk (bad5 h3 (by have := of_decide_eq_true h4; omega)) (by decide) q3⟩
      · have h16 : ¬ 16 ≤ k := by have := of_decide_eq_false h4; omega
        have hbt := lbl_bytes
        obtain ⟨r1, r2, r3⟩ := tbl_round hk
        refine ⟨⟨hlen, ?_⟩, rfl, key_none h2, i - 1, k + 1, by omega, ⟨by omega, by omega, fun j hj => ?_⟩, congrArg _ (wrap_in (by omega) (by omega)), ⟨r2, r1, r3, trivial⟩, rfl, ⟨rfl, nums_refs _ _, trivial⟩⟩
        · exact mul_room 17 1000 (show (k : Int) + 1 ≤ 17 by omega) (by omega) (by omega) (by decide) (by decide)
        · rcases Nat.lt_or_ge j k with hj2 | hj2
          · exact q3 j hj2
          · obtain rfl : j = k := by omega
            exact bad0 h3 h16 h2
      · exact ⟨⟨nums_flat _, trivial⟩, tbl_err hk (bad1 h3) (by decide) q3⟩
    · have hk : k = xs.length := by simp at h1; omega
      subst hk
      rw [okT_yes q3] at h; cases h)
end Go.Proofs.Ytepijhnfeafmaaa

end
