/- Texts packed together: CSentD CReadsT. -/
import Derived.ChangeMaps5
import Derived.Test.YtidlganponfccaaDoorZ18
section
/- What the row lists of the library's errors and of its table, as the walks want it. -/
set_option linter.unusedVariables false
set_option linter.unusedVariables false
set_option linter.unusedSimpArgs false
namespace Go.Proofs.YtidlganponfccaaDoor
open Go Go.Ideal Go.RowKit
theorem laidVars_at {P : Program} {W : World} : ∀ {laid : List (String × DataW Unit)} {ps : List MemPlace}, DataW.LaidVars P W laid ps → ∀ {k : Nat} {n : String} {d : DataW Unit}, laid[k]? = some (n, d) →
    ∃ g t cs fuel p, P.globalNamed n = some g ∧ (P.globals[g]?).map (·.type) = some t ∧ W.var? P n = some cs ∧ DataW.trod (fun _ => ()) P W 0 (fun _ => true) false fuel t cs.toList = some (d, p)
  | [], _, _, k, n, d, hk => by simp at hk
  | (n', d') :: r, ps, h, k, n, d, hk => by
    obtain ⟨g, t, cs, fuel, p, q, h1, h2, h3, h4, h5, -⟩ := h
    cases k with
    | zero =>
      simp only [List.getElem?_cons_zero, Option.some.injEq, Prod.mk.injEq] at hk
      obtain ⟨rfl, rfl⟩ := hk
      exact ⟨g, t, cs, fuel, p, h1, h2, h3, h4⟩
    | succ k => exact laidVars_at h5 (by simpa using hk)
theorem laid_vars {P : Program} {laid : List (String × DataW Unit)} {W : World} (h : laidMetH P laid W) (hf : (laid.filter fun x => x.2.handleName?.isSome).isEmpty = true) : ∃ ps, DataW.LaidVars P W laid ps := by
  rw [List.isEmpty_iff] at hf
  unfold laidMetH at h
  rw [hf] at h
  obtain ⟨ps, h1, -⟩ := h
  exact ⟨ps, h1⟩
theorem trod_isIface {P : Program} {W : World} {b fuel : Nat} {sp : Nat → Bool} {t : TypeId} {ms : _} {cs : List Value} {n : String} {d : DataW Unit} {p : List MemPlace} (ht : P.underlying t = some (.interface ms))
    (h : DataW.trod (fun _ => ()) P W b sp false fuel t cs = some (.iface n d, p)) : ∃ u v, cs = [.iface u v] := by
  cases fuel with
  | zero => simp [DataW.trod] at h
  | succ fuel =>
    simp only [DataW.trod, ht] at h
    split at h <;> simp_all
theorem var_block {P : Program} {W : World} {n : String} {g : Nat} {cs : Array Value} (hg : P.globalNamed n = some g) (h : W.var? P n = some cs) : ∃ t fz, W.heap[g]? = some (.cells cs t fz) := by
  simp only [World.var?, hg, Option.bind_some] at h
  split at h
  · rename_i c t fz hh
    obtain rfl := Option.some.inj h
    exact ⟨t, fz, hh⟩
  · cases h
def powsZ : List Int := (List.range 20).map fun i => ((10 ^ i : Nat) : Int)
def isIfaceD : DataW Unit → Bool
  | .iface _ _ => true
  | _ => false
/-- The names of the listed variables, by their places. -/
def nameAt (laid : List (String × DataW Unit)) (k : Nat) : String := ((laid[k]?).map (·.1)).getD ""
def sentGlobs (P : Program) (gs gr gp : Nat) : Bool := (List.range P.globals.size).all fun g => match P.globals[g]? with
  | some x => ((x.name != "strconv.ErrSyntax") || g == gs) && ((x.name != "strconv.ErrRange") || g == gr) && ((x.name.length != 28) || g == gp)
  | none => true
theorem laid_split {laid : List (String × DataW Unit)} {k : Nat} {d : DataW Unit} (h : (laid[k]?).map (·.2) = some d) : laid[k]? = some (nameAt laid k, d) := by
  unfold nameAt
  cases e : laid[k]? with
  | none => rw [e] at h; cases h
  | some x =>
    rw [e] at h
    obtain rfl := Option.some.inj h
    rfl
theorem iface_at {P : Program} {laid : List (String × DataW Unit)} {ps : List MemPlace} {W : World} {k g : Nat} {t : TypeId} {ms : _} (hv : DataW.LaidVars P W laid ps)
    (hk : ((laid[k]?).map (·.2)).any isIfaceD = true) (hg : P.globalNamed (nameAt laid k) = some g) (ht : (P.globals[g]?).map (·.type) = some t) (hu : P.underlying t = some (.interface ms)) :
    ∃ t p, W.cell? ⟨g, 0, none⟩ = some (.iface t p) := by
  cases e : (laid[k]?).map (·.2) with
  | none => rw [e] at hk; cases hk
  | some d =>
    rw [e] at hk
    obtain ⟨g', t', cs, fuel, p, h1, h2, h3, h4⟩ := laidVars_at hv (laid_split e)
    obtain rfl := Option.some.inj (hg.symm.trans h1)
    obtain rfl := Option.some.inj (ht.symm.trans h2)
    have hd : ∃ n d', d = .iface n d' := by
      cases d <;> first | (exact ⟨_, _, rfl⟩) | (exact Bool.noConfusion hk)
    obtain ⟨n, d', rfl⟩ := hd
    obtain ⟨u, v, k5⟩ := trod_isIface hu h4
    refine ⟨u, v, ?_⟩
    rw [World.var?_cell h1 h3 0, ← Array.getElem?_toList, k5]
    rfl
theorem SentAt.ofLaid {P : Program} {laid : List (String × DataW Unit)} {W : World} (hl : laidMetH P laid W) (hsz : P.globals.size ≤ W.heap.size) (k1 k2 k3 : Nat) {gs gr gp : Nat} {t1 t2 t3 e3 : TypeId} {m1 m2 : _}
    (hf : (laid.filter fun x => x.2.handleName?.isSome).isEmpty = true)
    (hG : sentGlobs P gs gr gp = true)
    (hs : ((laid[k1]?).map (·.2)).any isIfaceD = true) (hs1 : P.globalNamed (nameAt laid k1) = some gs) (hs2 : (P.globals[gs]?).map (·.type) = some t1) (hs3 : P.underlying t1 = some (.interface m1))
    (hr : ((laid[k2]?).map (·.2)).any isIfaceD = true) (hr1 : P.globalNamed (nameAt laid k2) = some gr) (hr2 : (P.globals[gr]?).map (·.type) = some t2) (hr3 : P.underlying t2 = some (.interface m2))
    (hp : (laid[k3]?).map (·.2) = some (Lib.tabData .u64 powsZ)) (hp1 : P.globalNamed (nameAt laid k3) = some gp) (hp2 : (P.globals[gp]?).map (·.type) = some t3)
    (hp3 : P.underlying t3 = some (.array 20 e3)) (hp4 : P.underlying e3 = some (.int .u64)) (hp5 : P.cellsOf e3 = 1) (hp6 : P.cellsOf t3 = 20) : SentAt P W.heap.size W := by
  obtain ⟨ps, hv⟩ := laid_vars hl hf
  have hpw : ∃ t fz, W.heap[gp]? = some (.cells pow10Cells t fz) := by
    obtain ⟨g', t', cs, fuel, p, h1, h2, h3, h4⟩ := laidVars_at hv (laid_split hp)
    obtain rfl := Option.some.inj (hp1.symm.trans h1)
    obtain rfl := Option.some.inj (hp2.symm.trans h2)
    have h5 := Lib.cells_of_tab hp3 hp4 hp5 hp6 h4
    have h6 : cs = pow10Cells := by
      apply Array.ext'
      rw [h5]
      simp only [pow10Cells, powsZ, List.map_map]
      rfl
    subst h6
    exact var_block h1 h3
  intro g x hx
  have hlt : g < P.globals.size := (Array.getElem?_eq_some_iff.1 hx).1
  have hb := List.all_eq_true.1 hG g (List.mem_range.2 hlt)
  rw [hx] at hb
  simp only [Bool.and_eq_true, Bool.or_eq_true, bne_iff_ne, ne_eq, beq_iff_eq] at hb
  obtain ⟨⟨b1, b2⟩, b3⟩ := hb
  refine ⟨fun hn => ⟨Nat.lt_of_lt_of_le hlt hsz, ?_⟩, fun hn => ⟨Nat.lt_of_lt_of_le hlt hsz, ?_⟩⟩
  · rcases hn with hn | hn
    · rcases b1 with b1 | b1
      · exact absurd hn b1
      · subst b1; exact iface_at hv hs hs1 hs2 hs3
    · rcases b2 with b2 | b2
      · exact absurd hn b2
      · subst b2; exact iface_at hv hr hr1 hr2 hr3
  · rcases b3 with b3 | b3
    · exact absurd hn b3
    · subst b3; exact hpw
end Go.Proofs.YtidlganponfccaaDoor

end
section
/- What a law of texts is handed, read as plain data; what the row lists. -/
set_option linter.unusedVariables false
set_option linter.unusedSimpArgs false
namespace Go.Proofs.YtidlganponfccaaDoor
end Go.Proofs.YtidlganponfccaaDoor

end
