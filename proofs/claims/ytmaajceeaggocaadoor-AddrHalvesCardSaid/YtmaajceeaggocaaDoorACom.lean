/- What the closings share. -/
import Derived.Test.YtmaajceeaggocaaDoorALaid
import Derived.Test.YtmaajceeaggocaaDoorICard
import Derived.Test.YtmaajceeaggocaaDoorCards
import Derived.WalkKit
import Derived.Deep.DeepHandedRow
import Derived.Lib.LaidTab
import Derived.Lib.SmallJoins
set_option linter.unusedVariables false
set_option linter.unusedSimpArgs false
namespace Go.Proofs.YtmaajceeaggocaaDoor
open Go Go.Ideal Go.ChangeShapes Go.WideShapes Go.ChangeAt Go.RowKit

theorem own : ownKnob Tryd.prog.godebug = none := by kernel_rfl
theorem globsLe {W : World} (h : W.ShapedOpen Tryd.prog) : Tryd.prog.globals.size ≤ W.heap.size := globs_le 7 globals8 (by kernel_rfl) h
theorem laidOut : laidOutB Tryd.prog = true := by kernel_rfl
theorem mapsOK : mapsRowed Tryd.prog = true := by kernel_rfl
theorem slicesOK : ((List.range Tryd.prog.types.size).all fun t => match Tryd.prog.underlying t with | some (.slice e) => decide (0 < Tryd.prog.cellsOf e) | _ => true) = true := by kernel_rfl

theorem u32_nat {n : Int} (h : (Lit.int .u32 n).wf = true) : ∃ A : Nat, n = A ∧ A < 2 ^ 32 := by
  simp only [Lit.wf, Bool.and_eq_true, decide_eq_true_eq] at h
  have h0 : (0 : Int) ≤ n := h.1
  have h1 : n ≤ 4294967295 := h.2
  exact ⟨n.toNat, by omega, by omega⟩

set_option maxRecDepth 100000
/-- A prefix, opened. -/
theorem open_prefix {H : Type} {enc : TypeId × Value → H} {W : World} {sp : Nat → Bool} {held : Bool} {base b0 : Nat} {r : Reach} {v : Value} {d : DataW H} {p : List MemPlace}
    (hv : Value.okWide Tryd.prog W r b0 24 v) (h : DataW.Trod enc Tryd.prog W base sp held 24 v d p) : ∃ (A : Nat) (b : Int), A < 2 ^ 32 ∧ v = pfxV A b ∧ d = .agg [.lit (.int .u32 A), .lit (.int .i64 b)] ∧ p = [] := by
  obtain ⟨v0, v1, y0, y1, n, rfl, rfl, rfl, h0, h1⟩ := Joins.open_agg2 Tryd.underlying24 (by kernel_rfl) (by kernel_rfl) hv h
  obtain ⟨k0, e0, x0, w0⟩ := DataW.trod_int Tryd.underlying22 h0
  obtain ⟨k1, e1, x1, w1⟩ := DataW.trod_int Tryd.underlying3 h1
  obtain ⟨A, rfl, hA⟩ := u32_nat w0
  simp only [List.cons.injEq, and_true] at e0 e1
  subst e0; subst e1
  subst x0; subst x1
  exact ⟨A, k1, hA, rfl, rfl, rfl⟩

end Go.Proofs.YtmaajceeaggocaaDoor
