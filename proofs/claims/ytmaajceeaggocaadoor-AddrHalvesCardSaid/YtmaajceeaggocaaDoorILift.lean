/- From a run of the ideal interpreter to what all callers may lean on. Over any program. -/
import Derived.Test.YtmaajceeaggocaaDoorIWp
set_option linter.unusedVariables false
set_option linter.unusedSimpArgs false
namespace Go.Ideal
open Go.RowKit

variable {P : Program} {B : Nat} {w0 : World}

theorem HRel.of_below {σ : Sg} {h : Heap} {w w1 : World} (H : HRel P B w0 σ h w) (hb : Below w.heap.size w w1) : HRel P B w0 σ h w1 := by
  have hs := H.size
  refine ⟨H.below.trans (hb.mono hs), Nat.le_trans hs hb.size, H.dom, fun i x hx => Nat.lt_of_lt_of_le (H.codom i x hx) hb.size, H.glob, fun i b hg => ?_, H.inj⟩
  exact (H.blk i b hg).mono (Sg.le_refl σ) fun x hx => hb.block _ (H.codom i x hx)

theorem HRel.globs {σ : Sg} {h : Heap} {w : World} (H : HRel P B w0 σ h w) : P.globals.size ≤ w.heap.size := by
  rcases Nat.eq_zero_or_pos P.globals.size with h0 | h0
  · omega
  · have := H.codom _ _ (H.glob (P.globals.size - 1) (by omega))
    simp only at this
    omega

theorem flats_eq {σ : Sg} {l l' : List Value} (hr : LRel σ l l') : l.all flat = true → l' = l := by
  induction hr with
  | nil => intro _; rfl
  | cons k _ ih => intro hh; simp only [List.all_cons, Bool.and_eq_true] at hh; rw [flat_eq hh.1 k, ih hh.2]

theorem flats_rel {l : List Value} (h : l.all flat = true) (σ : Sg) : LRel σ l l := by
  induction l with
  | nil => exact .nil
  | cons v l ih => simp only [List.all_cons, Bool.and_eq_true] at h; exact .cons (flat_rel h.1 σ) (ih h.2)

/-- A function of plain values, to a plain value. -/
theorem calls_plain (hP : ProgOK P) {O : Orc} (hO : ∀ B w0, OrcSound P B w0 O) {f : FuncId} {fn : Func} {c : Code} (hp : O.pure f = none) (hh : ∀ args h, O.heap f args h = none) (hf : P.funcs[f]? = some fn) (hb : fn.body = some c)
    {args : List Value} {v : Value} (ha : args.all flat = true) (hv : flat v = true) (hc : CallW P O f args (Heap.empty P.globals.size) fun v' _ => v' = v) {w : World} (hw : P.globals.size ≤ w.heap.size) :
    Calls P f args.toArray w fun e w' => e = .returned v ∧ Below w.heap.size w w' := by
  obtain ⟨v1, h1, ⟨n, hn⟩, rfl⟩ := hc
  refine (callI_sound hP (hO w.heap.size w) hf hb hp (hh _ _) hn (HRel.start (Nat.le_refl _) w hw) (by simpa using flats_rel ha _)).mono fun e w' he => ?_
  obtain ⟨v', rfl, σ', _, k1, k2⟩ := he
  exact ⟨by rw [flat_eq hv k1], k2.below⟩

def Orc.add (O : Orc) (f : FuncId) (g : List Value → Option Value) : Orc := ⟨fun f' => if f' = f then some g else O.pure f', O.heap⟩

theorem Orc.add_sound (hP : ProgOK P) {O : Orc} (hO : ∀ B w0, OrcSound P B w0 O) {f : FuncId} {fn : Func} {c : Code} {g : List Value → Option Value} (hp : O.pure f = none) (hh : ∀ args h, O.heap f args h = none) (hf : P.funcs[f]? = some fn) (hb : fn.body = some c)
    (hg : ∀ args v, g args = some v → args.all flat = true ∧ flat v = true ∧ CallW P O f args (Heap.empty P.globals.size) fun v' _ => v' = v) : ∀ B w0, OrcSound P B w0 (O.add f g) := fun B w0 => by
  refine ⟨fun f' args h v h' he σ w args' H ha o a K Q ho hK => ?_, (hO B w0).heap⟩
  simp only [Orc.add] at he
  by_cases e : f' = f
  · subst e
    simp only [if_true] at he
    cases hgv : g args with
    | none => simp [hgv] at he
    | some u =>
      simp only [hgv, Option.some.injEq, Prod.mk.injEq] at he; obtain ⟨rfl, rfl⟩ := he
      obtain ⟨k1, k2, k3⟩ := hg args u hgv
      have hargs : args' = args.toArray := by
        apply Array.toList_inj.1
        rw [flats_eq ha k1]
      subst hargs
      refine Calls.wp_enter hP hf hb ho (R := fun v' w' => v' = u ∧ Below w.heap.size w w') ((calls_plain hP hO hp hh hf hb k1 k2 k3 H.globs).mono fun e w' he => ⟨u, he.1, rfl, he.2⟩) fun v' w' hR => ?_
      obtain ⟨rfl, hb2⟩ := hR
      exact hK σ w' v' (Sg.le_refl σ) (flat_rel k2 σ) (H.of_below hb2)
  · simp only [if_neg e] at he
    exact (hO B w0).pure f' args h v h' he σ w args' H ha o a K Q ho hK

end Go.Ideal
