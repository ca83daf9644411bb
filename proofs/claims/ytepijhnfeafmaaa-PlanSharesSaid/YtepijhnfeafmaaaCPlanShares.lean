/- PROVED HERE: PlanShares: how many of any first slots are any label's; how many slots drain queues of any lengths: by going from slot to slot: the law answers true at every input, and changes nothing. Conditions: none beyond the statement's own. -/
import Derived.Test.YtepijhnfeafmaaaZ22
set_option linter.unusedVariables false
set_option linter.unusedSimpArgs false
namespace Go.Proofs.Ytepijhnfeafmaaa.planShares
open Go Go.Ideal Go.ChangeShapes Go.WideShapes Go.ChangeAt Go.RowKit
set_option maxRecDepth 100000
set_option linter.unusedVariables false
theorem lifted (os : Os) (started : os.Started) (H : Type) (enc : TypeId × Value → H) :
    ReturnsInHanded {} Try.checked os 7 .any (Rows.planSharesSpec.pre6 enc Try.prog Try.f7 Rows.planSharesRow.domain false) (Rows.planSharesSpec.post enc Try.prog Try.f7 false true false false) := by
  refine returnsInHanded_of_change (C := Try.checked) own started (by kernel_rfl) Try.func7
    (ChangeSpec.witness6 (enc := enc) (C := Try.checked) false ⟨#[], #[.agg #[.slice none 0 0, .slice none 0 0, .slice none 0 0, .slice none 0 0, .slice none 0 0, .slice none 0 0, .int .i64 0, .int .i64 0, .int .i64 0, .int .i64 0, .int .i64 0, .int .i64 0, .int .i64 0, .int .i64 0, .int .i64 0], .int .i64 0, .int .i64 0, .int .u8 0, .slice none 0 0], []⟩ 8 (by kernel_rfl) (by kernel_rfl) (by kernel_rfl) (by kernel_rfl)) ?_
  intro W base args ds gs before hval0 hW hcnd _
  have hval : ∀ (j : Nat) t v, Try.f7.params[j]? = some t → args[j]? = some v → Value.okWide Try.prog W .any base t v := hval0
  have hW' := hW
  obtain ⟨p, q, hA0, hV, rfl, hfz, hnd⟩ := hW
  have hA : DataW.TrodAll enc Try.prog W 0 (fun _ => true) true Try.f7.params.toList args.toList ds p := hA0
  rw [Try.params7] at hA hval
  obtain ⟨v0, vs0, d0, ds0, p0, q0, hargs, rfl, rfl, h0, r0⟩ := trodAll_cons hA
  obtain ⟨v1, vs1, d1, ds1, p1, q1, rfl, rfl, rfl, h1, r1⟩ := trodAll_cons r0
  obtain ⟨v2, vs2, d2, ds2, p2, q2, rfl, rfl, rfl, h2, r2⟩ := trodAll_cons r1
  obtain ⟨v3, vs3, d3, ds3, p3, q3, rfl, rfl, rfl, h3, r3⟩ := trodAll_cons r2
  obtain ⟨v4, vs4, d4, ds4, p4, q4, rfl, rfl, rfl, h4, r4⟩ := trodAll_cons r3
  obtain ⟨rfl, rfl, rfl⟩ := trodAll_nil r4
  obtain rfl : args = #[v0, v1, v2, v3, v4] := by cases args; simp_all
  obtain ⟨rfl, rfl⟩ := trodVars_none hV
  obtain ⟨a0, w0, f0⟩ := ReadsAs.argN (rd_Conf (base := 0) (spare := fun _ => true) (held := true)) (fun a _ => by rw [confL_length]; decide) h0
  obtain ⟨a1, rfl, rfl, rfl, w1⟩ := open_int Try.underlying3 (hval 1 3 v1 rfl rfl) h1
  obtain ⟨a2, rfl, rfl, rfl, w2⟩ := open_int Try.underlying3 (hval 2 3 v2 rfl rfl) h2
  obtain ⟨a3, rfl, rfl, rfl, w3⟩ := open_int Try.underlying5 (hval 3 5 v3 rfl rfl) h3
  obtain ⟨a4, w4, f4⟩ := ReadsAs.arg1 (rd_U8s (base := 0) (spare := fun _ => true) (held := true)) (okWide_slice Try.underlying71 (hval 4 71 v4 rfl rfl)) h4
  have walk : Calls Try.prog 7 #[v0, .int .i64 a1, .int .i64 a2, .int .u8 a3, v4] W fun e w' => e = .returned (.bool true) ∧ Below W.heap.size W w' :=
    CallK.calls (shares_w a0 a1 a2 a3 a4 w0 (u8_range w3) w4.1) rfl (memF_ok W) (globsLe W) fun τ hτ => .cons (FRel.vrel (σ := τ) (hτ ▸ f0)) (.cons (.int _ _) (.cons (.int _ _) (.cons (.int _ _) (.cons (FRel.vrel (σ := τ) (hτ ▸ f4)) (.nil)))))
  refine walk.mono fun e W' ⟨he, hb⟩ => ?_
  exact ⟨_, he, post_true laidOut mapsOK slicesOK (by kernel_rfl) rfl rfl Try.underlying4 hW' hb rfl rfl rfl⟩
theorem planShares_holds : Rows.PlanSharesSaid :=
  OpenClaim.holds_of_wide 7 Try.f7 rfl rfl rfl rfl rfl rfl rfl ⟨rfl, rfl, rfl, rfl, rfl⟩ rfl rfl rfl rfl rfl (by kernel_rfl) Try.func7 (by kernel_rfl)
    (of_decide_eq_true (by kernel_rfl)) (by unfold Func.isWrapper; first | (rw [if_pos (by decide +kernel)]; kernel_rfl) | (rw [if_neg (by decide +kernel)]; exact ⟨rfl, rfl⟩))
    (fun os started H enc _ => lifted os started H enc)
#print axioms planShares_holds
end Go.Proofs.Ytepijhnfeafmaaa.planShares
