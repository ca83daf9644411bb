/- Texts packed together: CAtoi. -/
import Derived.Lib.AppendIntMem
import Derived.Test.YtidlganponfccaaDoorZ21
section
/- Numbers told in texts: what Go's library answers. -/
set_option linter.unusedVariables false
set_option linter.unusedSimpArgs false
set_option maxRecDepth 100000
namespace Go.Proofs.YtidlganponfccaaDoor
open Go Go.Ideal Go.RowKit
/-- An error that is there. -/
def errV : Value := .iface 144 vany
def atoiOk (s : ByteArray) : Bool := match Lib.atoiAll s.data.toList with
  | .ok _ => true
  | _ => false
def atoiN (s : ByteArray) : Int := match Lib.atoiAll s.data.toList with
  | .ok v => v
  | .range => Lib.atoiSat s.data.toList
  | _ => 0
theorem one_arg {σ : Sg} {v : Value} {args' : Array Value} (hf : flat v = true) (h : LRel σ [v] args'.toList) : args' = #[v] := by
  generalize hl : args'.toList = l at h
  cases h with
  | cons h1 h2 => cases h2; rw [← flat_eq hf h1]; exact Array.toList_inj.1 hl
theorem err_rel (σ : Sg) (n : Int) (b : Nat) : VRel σ (.tuple (Array.mk [.int .i64 n, errV])) (.tuple (Array.mk [.int .i64 n, .iface 144 (.pointer (some ⟨b, 0, none⟩))])) :=
  FRel.vrel (σ := σ) (FRel.tuple rfl fun j hj => by
    match j, hj with
    | 0, _ => exact .int _ _
    | 1, _ => exact FRel.iface 144 rfl (.any rfl))
theorem sentErr {w : World} (h : SentAt Tryd.prog w.heap.size w) {g : Nat} {x : Global} (hg : Tryd.prog.globals[g]? = some x) (hx : x.name = "strconv.ErrSyntax" ∨ x.name = "strconv.ErrRange") : ∃ t p, w.cell? ⟨g, 0, none⟩ = some (.iface t p) := ((h g x hg).1 hx).2
theorem atoi_t (s : ByteArray) (hs : s.size ≤ 3000) (h : atoiOk s = true) : CallK Tryd.prog 64 [.string s] (.tuple (Array.mk [.int .i64 (atoiN s), .nilIface])) := CallK.ofBelow rfl fun σ w args' hF hr => by
  obtain rfl := one_arg rfl hr
  unfold atoiOk at h
  unfold atoiN
  cases e : Lib.atoiAll s.data.toList with
  | ok v =>
    simp only
    refine (Shelf.strconv_Atoi_ok s (by omega) v e w).mono fun e' w' ⟨k1, k2⟩ => ⟨k1, ?_⟩
    rcases k2 with rfl | ⟨t, rfl⟩
    · exact Below.refl _ _
    · exact Lib.bytesWorld_below _ _ _
  | range => rw [e] at h; cases h
  | _ => rw [e] at h; cases h
theorem atoi_f (s : ByteArray) (hs : s.size ≤ 3000) (h : atoiOk s = false) : CallK Tryd.prog 64 [.string s] (.tuple (Array.mk [.int .i64 (atoiN s), errV])) := CallK.ofGoes fun σ w args' hS hF hr => by
  obtain rfl := one_arg rfl hr
  unfold atoiOk at h
  unfold atoiN
  cases e : Lib.atoiAll s.data.toList with
  | ok v => rw [e] at h; cases h
  | range =>
    simp only
    obtain ⟨t, p, hc⟩ := sentErr hS (g := 2) rfl (.inr rfl)
    refine (Shelf.strconv_Atoi_range s (by omega) e _ w hc (.inr ⟨t, p, rfl⟩)).mono fun e' w' ⟨N, k1, _, _, k2⟩ => ⟨_, k1, fun τ => err_rel τ _ _, k2⟩
  | _ =>
    simp only
    obtain ⟨t, p, hc⟩ := sentErr hS (g := 1) rfl (.inl rfl)
    refine (Shelf.strconv_Atoi_syntax s (by omega) (by rw [e]; intro v hv; cases hv) (by rw [e]; intro hv; cases hv) _ w hc (.inr ⟨t, p, rfl⟩)).mono fun e' w' ⟨N, k1, _, _, k2⟩ => ⟨_, k1, fun τ => err_rel τ _ _, k2⟩
/-- A number's digits. -/
theorem itoaAny_w (n : Int) (h0 : 0 ≤ n) (h1 : n ≤ 1000000) : CallK Tryd.prog 62 [.int .i64 n] (.string (bs (Lib.itoa n))) := CallK.ofGoes fun σ w args' hS hF hr => by
  obtain rfl := one_arg rfl hr
  refine (Shelf.strconv_Itoa n (by omega) (by omega) w ?_).mono fun e' w' ⟨k1, k, os, k2⟩ => ⟨_, k1, fun τ => flat_rel rfl τ, ?_⟩
  · obtain ⟨t, fz, hc⟩ := ((hS 3 _ rfl).2 rfl).2
    refine Eq.trans (congrArg (Option.bind · _) (show Tryd.prog.globalNamed _ = some 3 from rfl)) ?_
    simp only [Option.bind_some, hc]
    rfl
  · subst k2
    exact Lib.below_grow _ _ (Nat.le_refl _) _ _
end Go.Proofs.YtidlganponfccaaDoor

end
