/- Texts packed together: ICard. -/
import Derived.Below
import Derived.ChangeSame
import Derived.ReadAgain
import Derived.ChangeBears
import Derived.ProofKit
import Derived.OpenShut
import Derived.Test.YtidlganponfccaaDoorZ14
section
/- From what a call answers to a row's 'post': for laws that answer true and change nothing. Over any program. -/
set_option linter.unusedVariables false
set_option linter.unusedSimpArgs false
namespace Go.Ideal
open Go.RowKit Go.WideShapes Go.ChangeShapes

section
variable {H : Type} {enc : TypeId × Value → H} {P : Program}

theorem trodAll_carry {W W' : World} {sp : Nat → Bool} {held : Bool} {base : Nat} : ∀ {ts : List TypeId} {vs : List Value} {ds : List (DataW H)} {ps : List MemPlace}, DataW.TrodAll enc P W base sp held ts vs ds ps → (∀ p ∈ ps, W.sameAt W' p) → DataW.TrodAll enc P W' base sp held ts vs ds ps
  | [], [], [], _, h, _ => h
  | _ :: _, _ :: _, _ :: _, _, ⟨p, q, ⟨n, h1⟩, h2, e⟩, hs =>
    ⟨p, q, ⟨n, DataW.trod_carry n _ _ _ h1 fun x hx => hs x (by rw [e]; exact List.mem_append_left _ hx)⟩, trodAll_carry h2 (fun x hx => hs x (by rw [e]; exact List.mem_append_right _ hx)), e⟩

theorem post_true (hl : laidOutB P = true) (hm : mapsRowed P = true) (hz : ((List.range P.types.size).all fun t => match P.underlying t with | some (.slice e) => decide (0 < P.cellsOf e) | _ => true) = true)
    {f : Func} {s : ChangeSpec} {fresh handsOn again : Bool} {W W' : World} {args : Array Value} {ds gs : List (DataW H)} {before : List MemPlace} {tb : TypeId} (hT : (f.params.toList.all fun t => decide (t < P.types.size)) = true)
    (hv : s.vars = []) (hrt : f.resultTypes = #[tb]) (htb : P.underlying tb = some .bool) (hW : DataW.Whole enc P f.params.toList s.vars false W args.toList ds gs before) (hb : Below W.heap.size W W')
    (h1 : (s.fn H (ds ++ gs)).results = [.lit (.bool true)]) (h2 : (s.fn H (ds ++ gs)).args = ds) (h3 : (s.fn H (ds ++ gs)).vars = []) :
    s.post enc P f false fresh handsOn again W args (.bool true) W' := by
  have hlt : ∀ p ∈ before, p.block < W.heap.size := fun p hp => hW.lt p hp
  have hold : ∀ p ∈ before, (fun b => decide (b < W.heap.size)) p.block = true := fun p hp => by simpa using hlt p hp
  have hW0 := hW
  obtain ⟨p, q, hA, hV, hpq, hz2, hn⟩ := hW
  rw [hv] at hV
  obtain ⟨rfl, rfl⟩ := trodVars_none hV
  obtain rfl : before = p := by rw [hpq]; simp
  have K := kids_rows hl hm
  have hargs : ∀ sp : Nat → Bool, (∀ p ∈ before, sp p.block = true) → DataW.TrodAll enc P W' 0 sp true f.params.toList args.toList ds before := fun sp hsp =>
    DataW.TrodAll.respare K (slices_full_of P hz) (fun t ht => by simpa using List.all_eq_true.1 hT t ht) (trodAll_carry hA fun x hx => hb.same (hlt x hx)) hsp
  have hres : ∀ (b : Nat) (sp : Nat → Bool) (hd : Bool), DataW.TrodAll enc P W' b sp hd f.resultTypes.toList ((Value.bool true).resultList f.resultTypes.size) (s.fn H (ds ++ [])).results [] := fun b sp hd => by
    rw [hrt, h1]
    exact trodAll_mk1 (shut_bool htb true)
  have hok : ∀ (j : Nat) (t : TypeId) (r : Value), f.resultTypes[j]? = some t → ((Value.bool true).resultList f.resultTypes.size)[j]? = some r → Value.okWide P W' .any 0 t r := by
    intro j t r hj hr
    rw [hrt] at hj hr
    cases j with
    | zero =>
      obtain rfl : tb = t := by simpa using hj
      have : r = .bool true := by
        have h0 : ((Value.bool true).resultList 1)[0]? = some r := hr
        exact (Option.some.inj h0).symm
      subst this
      exact okWide_bool_mk htb true
    | succ j => simp at hj
  have hargs' : ∀ sp : Nat → Bool, (∀ p ∈ before, sp p.block = true) → DataW.TrodAll enc P W' 0 sp true f.params.toList args.toList (s.fn H (ds ++ [])).args before := fun sp hsp => by rw [h2]; exact hargs sp hsp
  have hvars : ∀ sp : Nat → Bool, (∀ p ∈ before, sp p.block = true) → DataW.TrodVars enc P W' sp s.vars (s.fn H (ds ++ [])).vars [] := fun sp _ => by rw [hv, h3]; rfl
  refine ⟨ds, [], before, [], before, [], hW0, hres _ _ _, hargs' _ hold, hvars _ hold, World.keptBut_mono (fun p hp => ⟨hp, Or.inr (Or.inl hp)⟩) (hb.frame (· ∈ before)), fun _ => ?_⟩
  refine ⟨hok, _, _, ([] ++ before) ++ [], ⟨[] ++ before, [], trodAll_append (hargs' _ (fun _ _ => rfl)) (hres _ _ _), hvars _ (fun _ _ => rfl), rfl, ?_, ?_⟩, ?_⟩
  · intro b off hp
    have hin : MemPlace.cell b off ∈ before := by simpa using hp
    rw [hb.frozen (hlt _ hin)]
    exact hz2 b off hin
  · intro ha
    cases ha
  · intro p hp _
    simpa using hp

theorem globs_le {W : World} (n : Nat) (hs : P.globals.size = n + 1) (h : (((begin P (fun _ _ => 0) default).world.heap[n]?).bind Obj.row?).isSome = true) (hW : W.ShapedOpen P) : P.globals.size ≤ W.heap.size := by
  obtain ⟨⟨z, t⟩, hzt⟩ := Option.isSome_iff_exists.1 h
  obtain ⟨cs, hcs, _⟩ := hW.1 n z t (by omega) hzt
  have := (Array.getElem?_eq_some_iff.1 hcs).1
  omega
end
end Go.Ideal

end
