/- The walk of the law of halves. -/
import Derived.Test.YtmaajceeaggocaaDoorAWalks2
import Derived.Test.YtmaajceeaggocaaDoorIAdv
set_option linter.unusedVariables false
set_option linter.unusedSimpArgs false
namespace Go.Proofs.YtmaajceeaggocaaDoor
open Go Go.Ideal
attribute [local irreducible] Wp WpOps WpPut CallW RetQ
set_option maxRecDepth 100000

theorem halves_out_w (a b k : Int) (hk : k < 0 ∨ k > 31) : CallW Tryd.prog O9 5 [.int .u32 a, .int .u32 b, .int .i64 k] E0 fun v _ => v = .bool true := by
  by_cases h0 : k < 0
  · refine CallW.text (fn := Tryd.f5) rfl rfl Tryd.func5 rfl (by simp only [Tryd.ntmps5, List.length_cons, List.length_nil, Nat.reduceAdd, Nat.reduceSub, List.replicate_succ, List.replicate_zero, List.cons_append, List.nil_append]; rfl) ?_
    repeat (first | refine WpPut.mk (by first | (simp (disch := omega) only [h0, decide_true]; done) | (simp (disch := omega) only [h0, decide_true]; rfl) | rfl) (by simp only [putI, evI, List.set_cons_zero, List.set_cons_succ, List.getD_cons_zero, List.getD_cons_succ]; rfl) ?_ | refine Wp.ret ?_ | refine Wp.seq ?_ | refine Wp.block ?_ | refine Wp.scope ?_ | refine Wp.exit ?_ | refine Wp.skip ?_ | refine Wp.label ?_ | refine Wp.region ?_ | refine Wp.draw (by rfl) ?_ | refine WpOps.nil ?_ | refine WpOps.op (by rfl) (fun _ => by rfl) (by first | (simp (disch := omega) only [h0, decide_true]; done) | (simp (disch := omega) only [h0, decide_true]; rfl) | rfl) (by simp only [putI, evI, List.set_cons_zero, List.set_cons_succ, List.getD_cons_zero, List.getD_cons_succ]; rfl) ?_ | refine WpOps.off (by rfl) (by simp only [putI, evI, List.set_cons_zero, List.set_cons_succ, List.getD_cons_zero, List.getD_cons_succ]; rfl) ?_ | refine WpOps.call (by rfl) (fun _ => by rfl) (CallW.pure (by rfl) (by rfl) ?_) | refine Wp.cond_true (by rfl) ?_ | refine Wp.cond_false (by rfl) ?_)
    refine CallW.done (by first | exact .inr rfl | exact .inl rfl) (by rfl) (by first | (simp (disch := omega) only [tupleI, List.getD_cons_zero, List.getD_cons_succ]; rfl) | rfl) ?_
    rfl
  · refine CallW.text (fn := Tryd.f5) rfl rfl Tryd.func5 rfl (by simp only [Tryd.ntmps5, List.length_cons, List.length_nil, Nat.reduceAdd, Nat.reduceSub, List.replicate_succ, List.replicate_zero, List.cons_append, List.nil_append]; rfl) ?_
    repeat (first | refine WpPut.mk (by first | (simp (disch := omega) only [h0, hk.resolve_left h0, decide_true, decide_false]; done) | (simp (disch := omega) only [h0, hk.resolve_left h0, decide_true, decide_false]; rfl) | rfl) (by simp only [putI, evI, List.set_cons_zero, List.set_cons_succ, List.getD_cons_zero, List.getD_cons_succ]; rfl) ?_ | refine Wp.ret ?_ | refine Wp.seq ?_ | refine Wp.block ?_ | refine Wp.scope ?_ | refine Wp.exit ?_ | refine Wp.skip ?_ | refine Wp.label ?_ | refine Wp.region ?_ | refine Wp.draw (by rfl) ?_ | refine WpOps.nil ?_ | refine WpOps.op (by rfl) (fun _ => by rfl) (by first | (simp (disch := omega) only [h0, hk.resolve_left h0, decide_true, decide_false]; done) | (simp (disch := omega) only [h0, hk.resolve_left h0, decide_true, decide_false]; rfl) | rfl) (by simp only [putI, evI, List.set_cons_zero, List.set_cons_succ, List.getD_cons_zero, List.getD_cons_succ]; rfl) ?_ | refine WpOps.off (by rfl) (by simp only [putI, evI, List.set_cons_zero, List.set_cons_succ, List.getD_cons_zero, List.getD_cons_succ]; rfl) ?_ | refine WpOps.call (by rfl) (fun _ => by rfl) (CallW.pure (by rfl) (by rfl) ?_) | refine Wp.cond_true (by rfl) ?_ | refine Wp.cond_false (by rfl) ?_)
    refine CallW.done (by first | exact .inr rfl | exact .inl rfl) (by rfl) (by first | (simp (disch := omega) only [tupleI, List.getD_cons_zero, List.getD_cons_succ]; rfl) | rfl) ?_
    rfl
def c0 (k : Int) : Int := clampI k
def c1 (k : Int) : Int := clampI (IntKind.i64.wrap (k + 1))
def m0 (a k : Int) : Int := andI a (maskI (c0 k))
def x0 (a k : Int) : Int := andI (m0 a k) (maskI (c1 k))
def y0 (a k : Int) : Int := andI (orI (m0 a k) (IntKind.u32.wrap (1 * 2 ^ min (IntKind.i64.wrap (31 - k)).toNat 32))) (maskI (c1 k))
def oweH (a k : Int) : List Prop := [Value.bool (!withinB (m0 a k) (c0 k) (x0 a k) (c1 k)) = Value.bool true, Value.bool (withinB (y0 a k) (c1 k) (m0 a k) (c0 k)) = Value.bool true,
  Value.bool (withinB (x0 a k) (c1 k) (m0 a k) (c0 k)) = Value.bool true, Value.bool (!(x0 a k == y0 a k && c1 k == c1 k)) = Value.bool true, True, ¬ IntKind.i64.wrap (31 - k) < 0,
  Value.bool (decide (k > 31)) = Value.bool false, Value.bool (decide (k < 0)) = Value.bool false]
def sayH : List (Nat × Say) := [(3, .put (.bool false)), (8, .put (.bool false)), (26, .chk none), (35, .chk none), (36, .put (.bool true)), (44, .put (.bool true)), (52, .put (.bool true)), (62, .put (.bool true))]

theorem halves_a (a b k : Int) (ho : AllP (oweH a k)) (h1 : holdsB (x0 a k) (c1 k) b = true) (h2 : holdsB (m0 a k) (c0 k) b = true) (h3 : holdsB (y0 a k) (c1 k) b = false) : CallW Tryd.prog O9 5 [.int .u32 a, .int .u32 b, .int .i64 k] E0 fun v _ => v = .bool true :=
  CallW.adv 100 (sayH ++ [(76, .put (.bool true)), (85, .put (.bool true)), (93, .put (.bool true)), (105, .put (.bool true))])
    ((Value.bool (!holdsB (y0 a k) (c1 k) b) = Value.bool true) :: (Value.bool (holdsB (x0 a k) (c1 k) b) = Value.bool true) :: (Value.bool (holdsB (m0 a k) (c0 k) b == true) = Value.bool true) ::
      (Value.bool (holdsB (x0 a k) (c1 k) b) = Value.bool true) :: oweH a k) (.bool true) (by kernel_rfl) ⟨by rw [h3]; rfl, by rw [h1], by rw [h2]; rfl, by rw [h1], ho⟩ fun _ => rfl
theorem halves_b (a b k : Int) (ho : AllP (oweH a k)) (h1 : holdsB (x0 a k) (c1 k) b = false) (h2 : holdsB (m0 a k) (c0 k) b = holdsB (y0 a k) (c1 k) b) : CallW Tryd.prog O9 5 [.int .u32 a, .int .u32 b, .int .i64 k] E0 fun v _ => v = .bool true :=
  CallW.adv 100 (sayH ++ [(76, .put (.bool false)), (88, .put (.bool true)), (96, .put (.bool false))])
    ((Value.bool (holdsB (x0 a k) (c1 k) b) = Value.bool false) :: (Value.bool (holdsB (m0 a k) (c0 k) b == holdsB (y0 a k) (c1 k) b) = Value.bool true) ::
      (Value.bool (holdsB (x0 a k) (c1 k) b) = Value.bool false) :: oweH a k) (.bool true) (by kernel_rfl) ⟨by rw [h1], by rw [h2, beq_self_eq_true], by rw [h1], ho⟩ fun _ => rfl

theorem halves_w (a b k : Int) (h0 : 0 ≤ k) (h1 : k ≤ 31) (hne : lowI a k ≠ highI a k) (hwx : withinB (lowI a k) (k + 1) (andI a (maskI k)) k = true) (hwy : withinB (highI a k) (k + 1) (andI a (maskI k)) k = true)
    (hnw : withinB (andI a (maskI k)) k (lowI a k) (k + 1) = false) (hb : holdsB (andI a (maskI k)) k b = (holdsB (lowI a k) (k + 1) b || holdsB (highI a k) (k + 1) b)) (hbb : (holdsB (lowI a k) (k + 1) b && holdsB (highI a k) (k + 1) b) = false) :
    CallW Tryd.prog O9 5 [.int .u32 a, .int .u32 b, .int .i64 k] E0 fun v _ => v = .bool true := by
  have hw : IntKind.i64.wrap (k + 1) = k + 1 := wrap_in (by omega) (by omega)
  have hw2 : IntKind.i64.wrap (31 - k) = 31 - k := wrap_in (by omega) (by omega)
  have e0 : c0 k = k := clamp_id h0 (by omega)
  have e1 : c1 k = k + 1 := by unfold c1; rw [hw, clamp_id (by omega) (by omega)]
  have em : m0 a k = andI a (maskI k) := by unfold m0; rw [e0]
  have ex : x0 a k = lowI a k := by unfold x0 lowI; rw [em, e1]
  have ey : y0 a k = highI a k := by unfold y0 highI oneI; rw [em, e1, hw2]
  have ho : AllP (oweH a k) := by
    refine ⟨?_, ?_, ?_, ?_, trivial, ?_, ?_, ?_, trivial⟩
    · rw [em, e0, ex, e1, hnw]; rfl
    · rw [ey, e1, em, e0, hwy]
    · rw [ex, e1, em, e0, hwx]
    · rw [ex, ey, beq_eq_false_iff_ne.2 hne]; rfl
    · rw [hw2]; omega
    · rw [decide_eq_false (by omega)]
    · rw [decide_eq_false (by omega)]
  have f1 : holdsB (m0 a k) (c0 k) b = holdsB (andI a (maskI k)) k b := by rw [em, e0]
  have f2 : holdsB (x0 a k) (c1 k) b = holdsB (lowI a k) (k + 1) b := by rw [ex, e1]
  have f3 : holdsB (y0 a k) (c1 k) b = holdsB (highI a k) (k + 1) b := by rw [ey, e1]
  cases X : holdsB (lowI a k) (k + 1) b
  · rw [X, Bool.false_or] at hb
    exact halves_b a b k ho (f2.trans X) (by rw [f1, f3, hb])
  · rw [X, Bool.true_or] at hb
    rw [X, Bool.true_and] at hbb
    exact halves_a a b k ho (f2.trans X) (f1.trans hb) (f3.trans hbb)

end Go.Proofs.YtmaajceeaggocaaDoor
