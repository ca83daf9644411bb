/- What the functions of rules answer: a rule is right. -/
import Derived.Test.YtepijhnfeafmaaaAPrg
import Derived.Test.YtepijhnfeafmaaaCRule
set_option linter.unusedVariables false
set_option linter.unusedSimpArgs false
set_option maxRecDepth 100000
namespace Go.Proofs.Ytepijhnfeafmaaa
open Go Go.Ideal
theorem ruleIn_w (n most : Int) : CallK Try.prog 152 [.int .i64 n, .int .i64 most] (.bool (decide (-1 ≤ n) && decide (n ≤ most))) :=
  CallK.via progOK (pfs []) [] 100 (Adv.split (2 : Nat) (Adv.split (6 : Nat) Adv.nil Adv.nil) Adv.nil) (by kernel_rfl) (by kernel_rfl) (p := (decide (n ≥ (-1 : Int)) = true →
    (decide (n ≤ most) = true → Value.bool true = Value.bool (decide ((-1 : Int) ≤ n) && decide (n ≤ most))) ∧
      (decide (n ≤ most) = false → Value.bool false = Value.bool (decide ((-1 : Int) ≤ n) && decide (n ≤ most)))) ∧
  (decide (n ≥ (-1 : Int)) = false → Value.bool false = Value.bool (decide ((-1 : Int) ≤ n) && decide (n ≤ most)))) (by kernel_rfl) (by
    simp only [Value.bool.injEq]
    repeat' (first | apply And.intro | intro)
    all_goals grind)
theorem all7_w (a b c d e f g : Bool) : CallK Try.prog 153 [vsl 7 (Array.mk [.bool a, .bool b, .bool c, .bool d, .bool e, .bool f, .bool g])] (.bool (a && b && c && d && e && f && g)) :=
  CallK.via progOK (pfs []) [] 100 (Adv.split (18 : Nat)
  (Adv.split (29 : Nat) (Adv.split (40 : Nat) (Adv.split (51 : Nat) (Adv.split (62 : Nat) (Adv.split (73 : Nat) (Adv.split (84 : Nat) Adv.nil Adv.nil) Adv.nil) Adv.nil) Adv.nil) Adv.nil) Adv.nil)
  Adv.nil) (by kernel_rfl) (by kernel_rfl) (p := (a = true →
    (b = true →
        (c = true →
            (d = true →
                (e = true →
                    (f = true → (g = true → Value.bool true = Value.bool (a && b && c && d && e && f && g)) ∧ (g = false → Value.bool false = Value.bool (a && b && c && d && e && f && g))) ∧
                      (f = false → Value.bool false = Value.bool (a && b && c && d && e && f && g))) ∧
                  (e = false → Value.bool false = Value.bool (a && b && c && d && e && f && g))) ∧
              (d = false → Value.bool false = Value.bool (a && b && c && d && e && f && g))) ∧
          (c = false → Value.bool false = Value.bool (a && b && c && d && e && f && g))) ∧
      (b = false → Value.bool false = Value.bool (a && b && c && d && e && f && g))) ∧
  (a = false → Value.bool false = Value.bool (a && b && c && d && e && f && g))) (by kernel_rfl) (by
    simp only [Value.bool.injEq]
    repeat' (first | apply And.intro | intro)
    all_goals grind)
theorem rule_w (r : Rule) : CallK Try.prog 139 [ruleV r] (.bool (ruleR r)) :=
  CallK.via progOK (pfs [152, 106, 154]) [] 100 (Adv.pur (6 : Nat) (Value.bool (decide ((-1 : Int) ≤ Rule.inp r) && decide (Rule.inp r ≤ (7 : Int))))
  (Adv.pur (10 : Nat) (Value.bool (decide ((-1 : Int) ≤ Rule.out r) && decide (Rule.out r ≤ (7 : Int))))
    (Adv.pur (14 : Nat) (Value.bool (decide ((-1 : Int) ≤ Rule.proto r) && decide (Rule.proto r ≤ (255 : Int))))
      (Adv.pur (17 : Nat) (Value.bool (pfxR (Rule.src r)))
        (Adv.pur (20 : Nat) (Value.bool (pfxR (Rule.dst r)))
          (Adv.pur (25 : Nat) (Value.bool (spanB (Rule.sportLo r) (Rule.sportHi r)))
            (Adv.pur (30 : Nat) (Value.bool (spanB (Rule.dportLo r) (Rule.dportHi r)))
              (Adv.bors (32 : Nat)
                (decide ((-1 : Int) ≤ Rule.inp r) && decide (Rule.inp r ≤ (7 : Int)) && (decide ((-1 : Int) ≤ Rule.out r) && decide (Rule.out r ≤ (7 : Int))) &&
                          (decide ((-1 : Int) ≤ Rule.proto r) && decide (Rule.proto r ≤ (255 : Int))) &&
                        pfxR (Rule.src r) &&
                      pfxR (Rule.dst r) &&
                    spanB (Rule.sportLo r) (Rule.sportHi r) &&
                  spanB (Rule.dportLo r) (Rule.dportHi r))
                Adv.nil Adv.nil)))))))) (by kernel_rfl) (by kernel_rfl) (p := CallK Try.prog (nat_lit 152) [Value.int IntKind.i64 (Rule.inp r), Value.int IntKind.i64 (7 : Int)] (Value.bool (decide ((-1 : Int) ≤ Rule.inp r) && decide (Rule.inp r ≤ (7 : Int)))) ∧
  CallK Try.prog (nat_lit 152) [Value.int IntKind.i64 (Rule.out r), Value.int IntKind.i64 (7 : Int)] (Value.bool (decide ((-1 : Int) ≤ Rule.out r) && decide (Rule.out r ≤ (7 : Int)))) ∧
    CallK Try.prog (nat_lit 152) [Value.int IntKind.i64 (Rule.proto r), Value.int IntKind.i64 (255 : Int)] (Value.bool (decide ((-1 : Int) ≤ Rule.proto r) && decide (Rule.proto r ≤ (255 : Int)))) ∧
      CallK Try.prog (nat_lit 106) [Value.agg (Array.mk (pfxL (Rule.src r)))] (Value.bool (pfxR (Rule.src r))) ∧
        CallK Try.prog (nat_lit 106) [Value.agg (Array.mk (pfxL (Rule.dst r)))] (Value.bool (pfxR (Rule.dst r))) ∧
          CallK Try.prog (nat_lit 154) [Value.int IntKind.i64 (Rule.sportLo r), Value.int IntKind.i64 (Rule.sportHi r)] (Value.bool (spanB (Rule.sportLo r) (Rule.sportHi r))) ∧
            CallK Try.prog (nat_lit 154) [Value.int IntKind.i64 (Rule.dportLo r), Value.int IntKind.i64 (Rule.dportHi r)] (Value.bool (spanB (Rule.dportLo r) (Rule.dportHi r))) ∧
              CallK Try.prog (nat_lit 153)
                  [Value.iface (nat_lit 1000000)
                      (Value.tuple
                        (Array.mk
                          [Value.int IntKind.i64 (7 : Int),
                            Value.agg
                              (Array.mk
                                [Value.bool (decide ((-1 : Int) ≤ Rule.inp r) && decide (Rule.inp r ≤ (7 : Int))), Value.bool (decide ((-1 : Int) ≤ Rule.out r) && decide (Rule.out r ≤ (7 : Int))),
                                  Value.bool (decide ((-1 : Int) ≤ Rule.proto r) && decide (Rule.proto r ≤ (255 : Int))), Value.bool (pfxR (Rule.src r)), Value.bool (pfxR (Rule.dst r)),
                                  Value.bool (spanB (Rule.sportLo r) (Rule.sportHi r)), Value.bool (spanB (Rule.dportLo r) (Rule.dportHi r))])]))]
                  (Value.bool
                    (decide ((-1 : Int) ≤ Rule.inp r) && decide (Rule.inp r ≤ (7 : Int)) && (decide ((-1 : Int) ≤ Rule.out r) && decide (Rule.out r ≤ (7 : Int))) &&
                              (decide ((-1 : Int) ≤ Rule.proto r) && decide (Rule.proto r ≤ (255 : Int))) &&
                            pfxR (Rule.src r) &&
                          pfxR (Rule.dst r) &&
                        spanB (Rule.sportLo r) (Rule.sportHi r) &&
                      spanB (Rule.dportLo r) (Rule.dportHi r))) ∧
                ((decide ((-1 : Int) ≤ Rule.inp r) && decide (Rule.inp r ≤ (7 : Int)) && (decide ((-1 : Int) ≤ Rule.out r) && decide (Rule.out r ≤ (7 : Int))) &&
                                (decide ((-1 : Int) ≤ Rule.proto r) && decide (Rule.proto r ≤ (255 : Int))) &&
                              pfxR (Rule.src r) &&
                            pfxR (Rule.dst r) &&
                          spanB (Rule.sportLo r) (Rule.sportHi r) &&
                        spanB (Rule.dportLo r) (Rule.dportHi r)) =
                      true →
                    True ∧ Value.bool true = Value.bool (ruleR r)) ∧
                  ((decide ((-1 : Int) ≤ Rule.inp r) && decide (Rule.inp r ≤ (7 : Int)) && (decide ((-1 : Int) ≤ Rule.out r) && decide (Rule.out r ≤ (7 : Int))) &&
                                (decide ((-1 : Int) ≤ Rule.proto r) && decide (Rule.proto r ≤ (255 : Int))) &&
                              pfxR (Rule.src r) &&
                            pfxR (Rule.dst r) &&
                          spanB (Rule.sportLo r) (Rule.sportHi r) &&
                        spanB (Rule.dportLo r) (Rule.dportHi r)) =
                      false →
                    True ∧ Value.bool false = Value.bool (ruleR r))) (by kernel_rfl) (by
    simp only [Value.bool.injEq]
    repeat' (first | exact ruleIn_w _ _ | exact pfxRight_w _ | exact span_w _ _ | exact all7_w _ _ _ _ _ _ _ | apply And.intro | intro)
    all_goals grind [ruleR])
end Go.Proofs.Ytepijhnfeafmaaa
