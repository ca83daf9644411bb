/-
  No cell of these rows narrows 'for every input' (looked for: loops, veiled, ifaces, maps, wideKeys, modest, calm, conditions, laid).
  DERIVED. THE GIVEN ROWS OF THIS SEAT. 12 by the template 'for every input the law returns true; each argument reads behind the call as it read before'; 0 by the template 'total and deterministic' (their statements: YtepijhnfeafmaaaTotals.lean).
  GIVEN WITH THE SEED: the statements are not yours to turn. If you find one false, say at which input.
  Laid BY PROGRAM, IN A SANDBOX (cutbox-rows.mjs): the forced cells as the released guide's own fill.sh prints them over the translation 1a48f7cec98b2129… (all of the seat's roots in one cut). By AI agents, Wed Nov 11 2026. No macro, syntax, notation, axiom, sorry.
-/
import Derived.Test.YtepijhnfeafmaaaChecked
import GoSem.Claim
import GoSem.ClaimJoined
import GoSem.ClaimMapViews
import Derived.JoinedTies
import Derived.KernelRfl
namespace Go.Proofs.Ytepijhnfeafmaaa
/- THE CELL 'sum', in the pinned program and in every row, IS THE sha256 OF THE DUMP (.gsa) THAT YtepijhnfeafmaaaProg.lean LOADS. Nothing in Lean hashes anything: it is a label: what it is worth is what the hold of that sum in a sandbox is worth. -/
noncomputable def Try.pinned : Pinned := { name := "ytepijhnfeafmaaa", sum := "1a48f7cec98b212971093a0aeb1c091df08d47393a288588335c1efd760ec15c", checked := Try.checked }
namespace Rows
def none {H : Type} : Left H := { results := [], args := [] }

/-- 'gueritelaw17.ConfigChecks': WHATEVER THE INPUT: true; the input reads as it did. -/
def configChecksSpec : ChangeSpec := { name := "configChecks", fn := fun _ => fun
  | [d] => { results := [.lit (.bool true)], args := [d] }
  | _ => none }
def configChecksRow : OpenClaim := { program := "ytepijhnfeafmaaa", sum := "1a48f7cec98b212971093a0aeb1c091df08d47393a288588335c1efd760ec15c", func := "guerite/gueritelaw17.ConfigChecks", spec := "configChecks", unfollowed := true, recurses := true, plainKeys := false, apart := false }
def ConfigChecksSaid : Prop := configChecksRow.holds Try.pinned (OpenSpec.ofChange configChecksSpec)

/-- ITS FALSE NEIGHBOUR: 'it returns false'. Refute it at one input. -/
def configChecksWrong : ChangeSpec := { name := "configChecks", fn := fun _ => fun
  | [d] => { results := [.lit (.bool false)], args := [d] }
  | _ => none }
def ConfigChecksWrongFalsely : Prop := configChecksRow.holds Try.pinned (OpenSpec.ofChange configChecksWrong)

/-- 'gueritelaw17.ConfigClones': WHATEVER THE INPUT: true; the input reads as it did. -/
def configClonesSpec : ChangeSpec := { name := "configClones", fn := fun _ => fun
  | [d] => { results := [.lit (.bool true)], args := [d] }
  | _ => none }
def configClonesRow : OpenClaim := { program := "ytepijhnfeafmaaa", sum := "1a48f7cec98b212971093a0aeb1c091df08d47393a288588335c1efd760ec15c", func := "guerite/gueritelaw17.ConfigClones", spec := "configClones", unfollowed := true, recurses := true, plainKeys := false, apart := false }
def ConfigClonesSaid : Prop := configClonesRow.holds Try.pinned (OpenSpec.ofChange configClonesSpec)

/-- ITS FALSE NEIGHBOUR: 'it returns false'. Refute it at one input. -/
def configClonesWrong : ChangeSpec := { name := "configClones", fn := fun _ => fun
  | [d] => { results := [.lit (.bool false)], args := [d] }
  | _ => none }
def ConfigClonesWrongFalsely : Prop := configClonesRow.holds Try.pinned (OpenSpec.ofChange configClonesWrong)

/-- 'gueritelaw17.ConfigLabels': WHATEVER THE INPUT: true; the input reads as it did. -/
def configLabelsSpec : ChangeSpec := { name := "configLabels", fn := fun _ => fun
  | [d1, d2, d3] => { results := [.lit (.bool true)], args := [d1, d2, d3] }
  | _ => none }
def configLabelsRow : OpenClaim := { program := "ytepijhnfeafmaaa", sum := "1a48f7cec98b212971093a0aeb1c091df08d47393a288588335c1efd760ec15c", func := "guerite/gueritelaw17.ConfigLabels", spec := "configLabels", unfollowed := true, recurses := true, plainKeys := false, apart := false }
def ConfigLabelsSaid : Prop := configLabelsRow.holds Try.pinned (OpenSpec.ofChange configLabelsSpec)

/-- ITS FALSE NEIGHBOUR: 'it returns false'. Refute it at one input. -/
def configLabelsWrong : ChangeSpec := { name := "configLabels", fn := fun _ => fun
  | [d1, d2, d3] => { results := [.lit (.bool false)], args := [d1, d2, d3] }
  | _ => none }
def ConfigLabelsWrongFalsely : Prop := configLabelsRow.holds Try.pinned (OpenSpec.ofChange configLabelsWrong)

/-- 'gueritelaw33.PlanWaits': WHATEVER THE INPUT: true; the input reads as it did. -/
def planWaitsSpec : ChangeSpec := { name := "planWaits", fn := fun _ => fun
  | [d1, d2, d3, d4, d5] => { results := [.lit (.bool true)], args := [d1, d2, d3, d4, d5] }
  | _ => none }
def planWaitsRow : OpenClaim := { program := "ytepijhnfeafmaaa", sum := "1a48f7cec98b212971093a0aeb1c091df08d47393a288588335c1efd760ec15c", func := "guerite/gueritelaw33.PlanWaits", spec := "planWaits", unfollowed := true, recurses := true, plainKeys := false, apart := false }
def PlanWaitsSaid : Prop := planWaitsRow.holds Try.pinned (OpenSpec.ofChange planWaitsSpec)

/-- ITS FALSE NEIGHBOUR: 'it returns false'. Refute it at one input. -/
def planWaitsWrong : ChangeSpec := { name := "planWaits", fn := fun _ => fun
  | [d1, d2, d3, d4, d5] => { results := [.lit (.bool false)], args := [d1, d2, d3, d4, d5] }
  | _ => none }
def PlanWaitsWrongFalsely : Prop := planWaitsRow.holds Try.pinned (OpenSpec.ofChange planWaitsWrong)

/-- 'gueritelaw33.PlanShares': WHATEVER THE INPUT: true; the input reads as it did. -/
def planSharesSpec : ChangeSpec := { name := "planShares", fn := fun _ => fun
  | [d1, d2, d3, d4, d5] => { results := [.lit (.bool true)], args := [d1, d2, d3, d4, d5] }
  | _ => none }
def planSharesRow : OpenClaim := { program := "ytepijhnfeafmaaa", sum := "1a48f7cec98b212971093a0aeb1c091df08d47393a288588335c1efd760ec15c", func := "guerite/gueritelaw33.PlanShares", spec := "planShares", unfollowed := true, recurses := true, plainKeys := false, apart := false }
def PlanSharesSaid : Prop := planSharesRow.holds Try.pinned (OpenSpec.ofChange planSharesSpec)

/-- ITS FALSE NEIGHBOUR: 'it returns false'. Refute it at one input. -/
def planSharesWrong : ChangeSpec := { name := "planShares", fn := fun _ => fun
  | [d1, d2, d3, d4, d5] => { results := [.lit (.bool false)], args := [d1, d2, d3, d4, d5] }
  | _ => none }
def PlanSharesWrongFalsely : Prop := planSharesRow.holds Try.pinned (OpenSpec.ofChange planSharesWrong)

/-- 'gueritelaw33.PlanNone': WHATEVER THE INPUT: true; the input reads as it did. -/
def planNoneSpec : ChangeSpec := { name := "planNone", fn := fun _ => fun
  | [d1, d2, d3] => { results := [.lit (.bool true)], args := [d1, d2, d3] }
  | _ => none }
def planNoneRow : OpenClaim := { program := "ytepijhnfeafmaaa", sum := "1a48f7cec98b212971093a0aeb1c091df08d47393a288588335c1efd760ec15c", func := "guerite/gueritelaw33.PlanNone", spec := "planNone", unfollowed := true, recurses := true, plainKeys := false, apart := false }
def PlanNoneSaid : Prop := planNoneRow.holds Try.pinned (OpenSpec.ofChange planNoneSpec)

/-- ITS FALSE NEIGHBOUR: 'it returns false'. Refute it at one input. -/
def planNoneWrong : ChangeSpec := { name := "planNone", fn := fun _ => fun
  | [d1, d2, d3] => { results := [.lit (.bool false)], args := [d1, d2, d3] }
  | _ => none }
def PlanNoneWrongFalsely : Prop := planNoneRow.holds Try.pinned (OpenSpec.ofChange planNoneWrong)

/-- 'gueritelaw32.ReachClosure': WHATEVER THE INPUT: true; the input reads as it did. -/
def reachClosureSpec : ChangeSpec := { name := "reachClosure", fn := fun _ => fun
  | [d] => { results := [.lit (.bool true)], args := [d] }
  | _ => none }
def reachClosureRow : OpenClaim := { program := "ytepijhnfeafmaaa", sum := "1a48f7cec98b212971093a0aeb1c091df08d47393a288588335c1efd760ec15c", func := "guerite/gueritelaw32.ReachClosure", spec := "reachClosure", unfollowed := true, recurses := true, plainKeys := false, apart := false }
def ReachClosureSaid : Prop := reachClosureRow.holds Try.pinned (OpenSpec.ofChange reachClosureSpec)

/-- ITS FALSE NEIGHBOUR: 'it returns false'. Refute it at one input. -/
def reachClosureWrong : ChangeSpec := { name := "reachClosure", fn := fun _ => fun
  | [d] => { results := [.lit (.bool false)], args := [d] }
  | _ => none }
def ReachClosureWrongFalsely : Prop := reachClosureRow.holds Try.pinned (OpenSpec.ofChange reachClosureWrong)

/-- 'gueritelaw32.ReachAgain': WHATEVER THE INPUT: true; the input reads as it did. -/
def reachAgainSpec : ChangeSpec := { name := "reachAgain", fn := fun _ => fun
  | [d] => { results := [.lit (.bool true)], args := [d] }
  | _ => none }
def reachAgainRow : OpenClaim := { program := "ytepijhnfeafmaaa", sum := "1a48f7cec98b212971093a0aeb1c091df08d47393a288588335c1efd760ec15c", func := "guerite/gueritelaw32.ReachAgain", spec := "reachAgain", unfollowed := true, recurses := true, plainKeys := false, apart := false }
def ReachAgainSaid : Prop := reachAgainRow.holds Try.pinned (OpenSpec.ofChange reachAgainSpec)

/-- ITS FALSE NEIGHBOUR: 'it returns false'. Refute it at one input. -/
def reachAgainWrong : ChangeSpec := { name := "reachAgain", fn := fun _ => fun
  | [d] => { results := [.lit (.bool false)], args := [d] }
  | _ => none }
def ReachAgainWrongFalsely : Prop := reachAgainRow.holds Try.pinned (OpenSpec.ofChange reachAgainWrong)

/-- 'gueritelaw24.QueueApart': WHATEVER THE INPUT: true; the input reads as it did. -/
def queueApartSpec : ChangeSpec := { name := "queueApart", fn := fun _ => fun
  | [d1, d2, d3] => { results := [.lit (.bool true)], args := [d1, d2, d3] }
  | _ => none }
def queueApartRow : OpenClaim := { program := "ytepijhnfeafmaaa", sum := "1a48f7cec98b212971093a0aeb1c091df08d47393a288588335c1efd760ec15c", func := "guerite/gueritelaw24.QueueApart", spec := "queueApart", unfollowed := true, recurses := true, plainKeys := false, apart := false }
def QueueApartSaid : Prop := queueApartRow.holds Try.pinned (OpenSpec.ofChange queueApartSpec)

/-- ITS FALSE NEIGHBOUR: 'it returns false'. Refute it at one input. -/
def queueApartWrong : ChangeSpec := { name := "queueApart", fn := fun _ => fun
  | [d1, d2, d3] => { results := [.lit (.bool false)], args := [d1, d2, d3] }
  | _ => none }
def QueueApartWrongFalsely : Prop := queueApartRow.holds Try.pinned (OpenSpec.ofChange queueApartWrong)

/-- 'gueritelaw24.QueueWhen': WHATEVER THE INPUT: true; the input reads as it did. -/
def queueWhenSpec : ChangeSpec := { name := "queueWhen", fn := fun _ => fun
  | [d1, d2, d3] => { results := [.lit (.bool true)], args := [d1, d2, d3] }
  | _ => none }
def queueWhenRow : OpenClaim := { program := "ytepijhnfeafmaaa", sum := "1a48f7cec98b212971093a0aeb1c091df08d47393a288588335c1efd760ec15c", func := "guerite/gueritelaw24.QueueWhen", spec := "queueWhen", unfollowed := true, recurses := true, plainKeys := false, apart := false }
def QueueWhenSaid : Prop := queueWhenRow.holds Try.pinned (OpenSpec.ofChange queueWhenSpec)

/-- ITS FALSE NEIGHBOUR: 'it returns false'. Refute it at one input. -/
def queueWhenWrong : ChangeSpec := { name := "queueWhen", fn := fun _ => fun
  | [d1, d2, d3] => { results := [.lit (.bool false)], args := [d1, d2, d3] }
  | _ => none }
def QueueWhenWrongFalsely : Prop := queueWhenRow.holds Try.pinned (OpenSpec.ofChange queueWhenWrong)

/-- 'gueritelaw24.QueuePlays': WHATEVER THE INPUT: true; the input reads as it did. -/
def queuePlaysSpec : ChangeSpec := { name := "queuePlays", fn := fun _ => fun
  | [d1, d2, d3, d4] => { results := [.lit (.bool true)], args := [d1, d2, d3, d4] }
  | _ => none }
def queuePlaysRow : OpenClaim := { program := "ytepijhnfeafmaaa", sum := "1a48f7cec98b212971093a0aeb1c091df08d47393a288588335c1efd760ec15c", func := "guerite/gueritelaw24.QueuePlays", spec := "queuePlays", unfollowed := true, recurses := true, plainKeys := false, apart := false }
def QueuePlaysSaid : Prop := queuePlaysRow.holds Try.pinned (OpenSpec.ofChange queuePlaysSpec)

/-- ITS FALSE NEIGHBOUR: 'it returns false'. Refute it at one input. -/
def queuePlaysWrong : ChangeSpec := { name := "queuePlays", fn := fun _ => fun
  | [d1, d2, d3, d4] => { results := [.lit (.bool false)], args := [d1, d2, d3, d4] }
  | _ => none }
def QueuePlaysWrongFalsely : Prop := queuePlaysRow.holds Try.pinned (OpenSpec.ofChange queuePlaysWrong)

/-- 'gueritelaw24.QueueNone': WHATEVER THE INPUT: true; the input reads as it did. -/
def queueNoneSpec : ChangeSpec := { name := "queueNone", fn := fun _ => fun
  | [d1, d2] => { results := [.lit (.bool true)], args := [d1, d2] }
  | _ => none }
def queueNoneRow : OpenClaim := { program := "ytepijhnfeafmaaa", sum := "1a48f7cec98b212971093a0aeb1c091df08d47393a288588335c1efd760ec15c", func := "guerite/gueritelaw24.QueueNone", spec := "queueNone", unfollowed := true, recurses := true, plainKeys := false, apart := false }
def QueueNoneSaid : Prop := queueNoneRow.holds Try.pinned (OpenSpec.ofChange queueNoneSpec)

/-- ITS FALSE NEIGHBOUR: 'it returns false'. Refute it at one input. -/
def queueNoneWrong : ChangeSpec := { name := "queueNone", fn := fun _ => fun
  | [d1, d2] => { results := [.lit (.bool false)], args := [d1, d2] }
  | _ => none }
def QueueNoneWrongFalsely : Prop := queueNoneRow.holds Try.pinned (OpenSpec.ofChange queueNoneWrong)

/- THE SECOND FORM. 'bulk': how many values and letters a reading holds, each counted each time it is reached (what is shared counts as often as it is met; a slice's spare places count too). A statement '..UptoSaid' is the law's where the arguments, and the package variables that the reading takes, are together of bulk at most 1048576: NARROWER than '..Said'. Prove '..Said' where nothing that the law and all that it calls make is longer than what came in: it says more and counts as full. Else prove '..UptoSaid'. A law counts once. -/
mutual
def uptoBulk {H : Type} : DataW H → Nat
  | .lit (.string bytes) => bytes.length + 1
  | .lit _ => 1
  | .nil => 1
  | .ptr d => uptoBulk d + 1
  | .slice elems spare => uptoBulkAll elems + uptoBulkAll spare + 1
  | .agg parts => uptoBulkAll parts + 1
  | .iface _ d => uptoBulk d + 1
  | .map entries => uptoBulkEntries entries + 1
  | .held _ => 1
def uptoBulkAll {H : Type} : List (DataW H) → Nat
  | [] => 0
  | d :: r => uptoBulk d + uptoBulkAll r
def uptoBulkEntries {H : Type} : List (Lit × DataW H) → Nat
  | [] => 0
  | x :: r => uptoBulkEntry x + uptoBulkEntries r
def uptoBulkEntry {H : Type} : Lit × DataW H → Nat
  | (.string bytes, d) => bytes.length + uptoBulk d + 1
  | (_, d) => uptoBulk d + 1
 end
def uptoSmall : (H : Type) → List (DataW H) → Bool := fun _ ds => decide (uptoBulkAll ds ≤ 1048576)
def OpenSpec.upto (s : _root_.Go.ChangeSpec) : _root_.Go.OpenSpec := { _root_.Go.OpenSpec.ofChange s with cond := some uptoSmall }

/-- 'gueritelaw17.ConfigChecks', WHERE WHAT IT READS IS OF BULK AT MOST 1048576: true; the input reads as it did. -/
def configChecksUptoRow : OpenClaim := { program := "ytepijhnfeafmaaa", sum := "1a48f7cec98b212971093a0aeb1c091df08d47393a288588335c1efd760ec15c", func := "guerite/gueritelaw17.ConfigChecks", spec := "configChecks", unfollowed := true, recurses := true, plainKeys := false, apart := false, narrowed := true }
def ConfigChecksUptoSaid : Prop := configChecksUptoRow.holds Try.pinned (OpenSpec.upto configChecksSpec)

/-- 'gueritelaw17.ConfigClones', WHERE WHAT IT READS IS OF BULK AT MOST 1048576: true; the input reads as it did. -/
def configClonesUptoRow : OpenClaim := { program := "ytepijhnfeafmaaa", sum := "1a48f7cec98b212971093a0aeb1c091df08d47393a288588335c1efd760ec15c", func := "guerite/gueritelaw17.ConfigClones", spec := "configClones", unfollowed := true, recurses := true, plainKeys := false, apart := false, narrowed := true }
def ConfigClonesUptoSaid : Prop := configClonesUptoRow.holds Try.pinned (OpenSpec.upto configClonesSpec)

/-- 'gueritelaw17.ConfigLabels', WHERE WHAT IT READS IS OF BULK AT MOST 1048576: true; the input reads as it did. -/
def configLabelsUptoRow : OpenClaim := { program := "ytepijhnfeafmaaa", sum := "1a48f7cec98b212971093a0aeb1c091df08d47393a288588335c1efd760ec15c", func := "guerite/gueritelaw17.ConfigLabels", spec := "configLabels", unfollowed := true, recurses := true, plainKeys := false, apart := false, narrowed := true }
def ConfigLabelsUptoSaid : Prop := configLabelsUptoRow.holds Try.pinned (OpenSpec.upto configLabelsSpec)

/-- 'gueritelaw33.PlanWaits', WHERE WHAT IT READS IS OF BULK AT MOST 1048576: true; the input reads as it did. -/
def planWaitsUptoRow : OpenClaim := { program := "ytepijhnfeafmaaa", sum := "1a48f7cec98b212971093a0aeb1c091df08d47393a288588335c1efd760ec15c", func := "guerite/gueritelaw33.PlanWaits", spec := "planWaits", unfollowed := true, recurses := true, plainKeys := false, apart := false, narrowed := true }
def PlanWaitsUptoSaid : Prop := planWaitsUptoRow.holds Try.pinned (OpenSpec.upto planWaitsSpec)

/-- 'gueritelaw33.PlanShares', WHERE WHAT IT READS IS OF BULK AT MOST 1048576: true; the input reads as it did. -/
def planSharesUptoRow : OpenClaim := { program := "ytepijhnfeafmaaa", sum := "1a48f7cec98b212971093a0aeb1c091df08d47393a288588335c1efd760ec15c", func := "guerite/gueritelaw33.PlanShares", spec := "planShares", unfollowed := true, recurses := true, plainKeys := false, apart := false, narrowed := true }
def PlanSharesUptoSaid : Prop := planSharesUptoRow.holds Try.pinned (OpenSpec.upto planSharesSpec)

/-- 'gueritelaw33.PlanNone', WHERE WHAT IT READS IS OF BULK AT MOST 1048576: true; the input reads as it did. -/
def planNoneUptoRow : OpenClaim := { program := "ytepijhnfeafmaaa", sum := "1a48f7cec98b212971093a0aeb1c091df08d47393a288588335c1efd760ec15c", func := "guerite/gueritelaw33.PlanNone", spec := "planNone", unfollowed := true, recurses := true, plainKeys := false, apart := false, narrowed := true }
def PlanNoneUptoSaid : Prop := planNoneUptoRow.holds Try.pinned (OpenSpec.upto planNoneSpec)

/-- 'gueritelaw32.ReachClosure', WHERE WHAT IT READS IS OF BULK AT MOST 1048576: true; the input reads as it did. -/
def reachClosureUptoRow : OpenClaim := { program := "ytepijhnfeafmaaa", sum := "1a48f7cec98b212971093a0aeb1c091df08d47393a288588335c1efd760ec15c", func := "guerite/gueritelaw32.ReachClosure", spec := "reachClosure", unfollowed := true, recurses := true, plainKeys := false, apart := false, narrowed := true }
def ReachClosureUptoSaid : Prop := reachClosureUptoRow.holds Try.pinned (OpenSpec.upto reachClosureSpec)

/-- 'gueritelaw32.ReachAgain', WHERE WHAT IT READS IS OF BULK AT MOST 1048576: true; the input reads as it did. -/
def reachAgainUptoRow : OpenClaim := { program := "ytepijhnfeafmaaa", sum := "1a48f7cec98b212971093a0aeb1c091df08d47393a288588335c1efd760ec15c", func := "guerite/gueritelaw32.ReachAgain", spec := "reachAgain", unfollowed := true, recurses := true, plainKeys := false, apart := false, narrowed := true }
def ReachAgainUptoSaid : Prop := reachAgainUptoRow.holds Try.pinned (OpenSpec.upto reachAgainSpec)

/-- 'gueritelaw24.QueueApart', WHERE WHAT IT READS IS OF BULK AT MOST 1048576: true; the input reads as it did. -/
def queueApartUptoRow : OpenClaim := { program := "ytepijhnfeafmaaa", sum := "1a48f7cec98b212971093a0aeb1c091df08d47393a288588335c1efd760ec15c", func := "guerite/gueritelaw24.QueueApart", spec := "queueApart", unfollowed := true, recurses := true, plainKeys := false, apart := false, narrowed := true }
def QueueApartUptoSaid : Prop := queueApartUptoRow.holds Try.pinned (OpenSpec.upto queueApartSpec)

/-- 'gueritelaw24.QueueWhen', WHERE WHAT IT READS IS OF BULK AT MOST 1048576: true; the input reads as it did. -/
def queueWhenUptoRow : OpenClaim := { program := "ytepijhnfeafmaaa", sum := "1a48f7cec98b212971093a0aeb1c091df08d47393a288588335c1efd760ec15c", func := "guerite/gueritelaw24.QueueWhen", spec := "queueWhen", unfollowed := true, recurses := true, plainKeys := false, apart := false, narrowed := true }
def QueueWhenUptoSaid : Prop := queueWhenUptoRow.holds Try.pinned (OpenSpec.upto queueWhenSpec)

/-- 'gueritelaw24.QueuePlays', WHERE WHAT IT READS IS OF BULK AT MOST 1048576: true; the input reads as it did. -/
def queuePlaysUptoRow : OpenClaim := { program := "ytepijhnfeafmaaa", sum := "1a48f7cec98b212971093a0aeb1c091df08d47393a288588335c1efd760ec15c", func := "guerite/gueritelaw24.QueuePlays", spec := "queuePlays", unfollowed := true, recurses := true, plainKeys := false, apart := false, narrowed := true }
def QueuePlaysUptoSaid : Prop := queuePlaysUptoRow.holds Try.pinned (OpenSpec.upto queuePlaysSpec)

/-- 'gueritelaw24.QueueNone', WHERE WHAT IT READS IS OF BULK AT MOST 1048576: true; the input reads as it did. -/
def queueNoneUptoRow : OpenClaim := { program := "ytepijhnfeafmaaa", sum := "1a48f7cec98b212971093a0aeb1c091df08d47393a288588335c1efd760ec15c", func := "guerite/gueritelaw24.QueueNone", spec := "queueNone", unfollowed := true, recurses := true, plainKeys := false, apart := false, narrowed := true }
def QueueNoneUptoSaid : Prop := queueNoneUptoRow.holds Try.pinned (OpenSpec.upto queueNoneSpec)

end Rows
end Go.Proofs.Ytepijhnfeafmaaa
