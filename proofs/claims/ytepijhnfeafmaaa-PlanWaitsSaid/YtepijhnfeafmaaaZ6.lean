/- Texts packed together: IEqD IOwn. -/
import Derived.Laws.StructEq
import Derived.Test.YtepijhnfeafmaaaZ5
section
/- Whether two plain values are alike, as one Bool: as the model says. Over any program. -/
set_option linter.unusedVariables false
set_option linter.unusedSimpArgs false
namespace Go.Ideal

section
variable {P : Program}
theorem pr_bind {α β : Type} (k : α → Sem β) : ∀ (e : Sem α), pureRun P (e >>= k) = (pureRun P e).bind fun a => pureRun P (k a)
  | .pure a => rfl
  | .program f => pr_bind k (f P)
  | .mark m e => pr_bind k e
  | .load _ _ _ => rfl
  | .store _ _ _ _ => rfl
  | .new _ _ => rfl
  | .shape _ _ => rfl
  | .freeze _ _ _ => rfl
  | .frozen _ _ => rfl
  | .getObj _ _ => rfl
  | .setObj _ _ _ => rfl
  | .choose _ _ => rfl
  | .sys _ _ => rfl
  | .halt _ => rfl
theorem pr_pure {α : Type} (a : α) : pureRun P (pure a) = some a := rfl
theorem pr_ite {α : Type} (c : Prop) [Decidable c] (x y : Sem α) : pureRun P (if c then x else y) = if c then pureRun P x else pureRun P y := by split <;> rfl

theorem eqFs_fields {d : Nat} {eq : TypeId → Value → Value → Option Bool} (ih : ∀ t x y b, eq t x y = some b → pureRun P (Op.equalIn d t x y) = some b) (xs ys : Array Value) : ∀ (fs : List Field) (b : Bool), eqFs P eq xs ys fs = some b → pureRun P (Op.eqFields d xs ys fs) = some b
  | [], b, h => by rw [eqFs] at h; exact h
  | f :: fs, b, h => by
    rw [eqFs] at h
    split at h
    · rename_i hn
      have hn' : ¬ (f.name ≠ "_") := by simpa using hn
      rw [Op.eqFields, if_neg hn']
      exact eqFs_fields ih xs ys fs b h
    · rename_i hn
      have hn' : f.name ≠ "_" := by simpa using hn
      rw [Op.eqFields, if_pos hn']
      split at h
      · rename_i va vb ha hb
        simp only [pr_bind, ha, hb, Option.bind_some]
        split at h
        · rename_i r he
          cases h
          simp only [ih _ _ _ _ he, Option.bind_some, pr_ite, Op.eqFields]
          cases b <;> rfl
        · rename_i r f' fs' he
          split at h
          · rename_i s hs
            cases h
            simp only [ih _ _ _ _ he, Option.bind_some, pr_ite]
            rw [eqFs_fields ih xs ys (f' :: fs') s hs]
            cases r <;> rfl
          · cases h
        · cases h
      · cases h

theorem equalIn_fields {d : Nat} {t : TypeId} {fs : Array Field} {xs ys : Array Value} (ht : P.underlying t = some (.struct fs)) (hp : P.stoodInHeld t = false) :
    pureRun P (Op.equalIn (d + 1) t (.agg xs) (.agg ys)) = pureRun P (Op.eqFields d xs ys fs.toList) := by
  have hu : pureRun P (underlying t) = some (.struct fs) := by simp [underlying, pr_bind, program, pureRun, ht]; rfl
  simp only [Op.equalIn, pr_bind, hu, Option.bind_some]
  rw [← Array.forIn_toList]
  simp only [program, pureRun, Option.bind_some, hp, Bool.false_eq_true, if_false]
  generalize fs.toList = l
  clear ht hu
  induction l with
  | nil => rfl
  | cons f l ih =>
    simp only [List.forIn_cons, Op.eqFields]
    split
    · simp only [pr_bind]
      cases pureRun P (part f.type xs f.offset) with
      | none => rfl
      | some a =>
        cases pureRun P (part f.type ys f.offset) with
        | none => rfl
        | some b =>
          simp only [Option.bind_some]
          cases pureRun P (Op.equalIn d f.type a b) with
          | none => rfl
          | some r =>
            cases r
            · rfl
            · simp only [pr_bind] at ih
              simpa [pr_bind, pr_pure] using ih
    · simpa [pr_bind, pr_pure] using ih

theorem pr_underlying {t : TypeId} {D : TypeDesc} (ht : P.underlying t = some D) : pureRun P (underlying t) = some D := by simp [underlying, pr_bind, program, pureRun, ht]; rfl

theorem eqEs_loop {d : Nat} {eq : TypeId → Value → Value → Option Bool} (ih : ∀ t x y b, eq t x y = some b → pureRun P (Op.equalIn d t x y) = some b) (elem : TypeId) (size : Nat) (xs ys : Array Value) : ∀ (k i : Nat) (b : Bool), eqEs P eq elem size xs ys i k = some b →
    (pureRun P (forIn (List.range' i k) ((none, ()) : Option Bool × Unit) fun i r => do
      let a ← part elem xs (i * size)
      let b ← part elem ys (i * size)
      let c ← Op.equalIn d elem a b
      if (!c) = true then pure (ForInStep.done (some false, ())) else pure (ForInStep.yield (none, ())))) = some (if b then (none, ()) else (some false, ()))
  | 0, i, b, h => by
    rw [eqEs] at h; cases h
    rfl
  | k + 1, i, b, h => by
    rw [eqEs] at h
    rw [List.range'_succ, List.forIn_cons]
    split at h
    · rename_i va vb ha hb
      simp only [pr_bind, ha, hb, Option.bind_some]
      split at h
      · rename_i r he
        cases h
        simp only [ih _ _ _ _ he, Option.bind_some, pr_ite]
        cases b
        · rfl
        · rfl
      · rename_i r k' he
        split at h
        · rename_i s hs
          cases h
          simp only [ih _ _ _ _ he, Option.bind_some, pr_ite]
          cases r
          · rfl
          · have := eqEs_loop ih elem size xs ys (k' + 1) (i + 1) s hs
            simp only [Bool.true_and]
            exact this
        · cases h
      · cases h
    · cases h

theorem eqD_sound : ∀ (d : Nat) (t : TypeId) (x y : Value) (b : Bool), eqD P d t x y = some b → pureRun P (Op.equalIn d t x y) = some b
  | 0, _, _, _, _, h => by cases h
  | d + 1, t, x, y, b, h => by
    simp only [eqD] at h
    split at h
    · rename_i fs xs ys ht
      split at h
      · cases h
      · rename_i hp
        rw [equalIn_fields ht hp]
        exact eqFs_fields (eqD_sound d) xs ys _ _ h
    · rename_i len elem xs ys ht
      split at h
      · rename_i size hsz
        have hs : pureRun P (sizeOf elem) = some size := by
          unfold sizeI at hsz
          cases hi : P.info? elem with
          | none => simp [hi] at hsz
          | some ti =>
            simp only [hi, Option.map_some, Option.some.injEq] at hsz
            simp [sizeOf, typeInfo, pr_bind, program, pureRun, hi, hsz, pr_pure]
        simp only [Op.equalIn, pr_bind, pr_underlying ht, Option.bind_some, hs]
        have := eqEs_loop (eqD_sound d) elem size xs ys len 0 b h
        rw [Std.Legacy.Range.forIn_eq_forIn_range']
        simp only [Std.Legacy.Range.size, Nat.sub_zero, Nat.add_sub_cancel, Nat.div_one]
        rw [this]
        cases b <;> rfl
      · cases h
    · rename_i a b' ht
      simp only [Op.equalIn, pr_bind, pr_underlying ht, Option.bind_some]
      exact h
    · rename_i k0 k a k' a' ht
      split at h
      · rename_i hk
        have hk : k = k' := by simpa using hk
        subst hk
        simp only [Op.equalIn, pr_bind, pr_underlying ht, Option.bind_some, if_true]
        exact h
      · cases h
    · rename_i a b' ht
      simp only [Op.equalIn, pr_bind, pr_underlying ht, Option.bind_some]
      exact h
    · cases h

end
end Go.Ideal

end
section
/- Arrays that one slice appends to, and maps: the ideal heap and the model's stay related. Over any program. -/
set_option linter.unusedVariables false
set_option linter.unusedSimpArgs false
namespace Go.Ideal
open Go.RowKit

variable {P : Program} {B : Nat} {w0 : Org}

def Fz.add (F : Fz) (b lo : Nat) (l : List Value) : Fz := { F with c := fun b' o => if b' = b ∧ lo ≤ o ∧ o < lo + l.length then l[o - lo]? else F.c b' o }
theorem Fz.add_ne {F : Fz} {b lo b' : Nat} {l : List Value} (h : b' ≠ b) : (F.add b lo l).c b' = F.c b' := by
  funext o; simp [Fz.add, h]
theorem Fz.add_in {F : Fz} {b lo : Nat} {l : List Value} {j : Nat} (h : j < l.length) : (F.add b lo l).c b (lo + j) = some l[j] := by
  have h1 : lo ≤ lo + j ∧ lo + j < lo + l.length := by omega
  simp only [Fz.add, true_and, if_pos h1, Nat.add_sub_cancel_left, List.getElem?_eq_getElem h]
theorem Fz.add_out {F : Fz} {b lo o : Nat} {l : List Value} (h : o < lo ∨ lo + l.length ≤ o) : (F.add b lo l).c b o = F.c b o := by
  simp only [Fz.add]; rw [if_neg (by omega)]
theorem Fz.le_add {F : Fz} {b lo : Nat} {l : List Value} (h : ∀ o, lo ≤ o → F.c b o = none) : F.le (F.add b lo l) := by
  refine ⟨fun b' o v hv => ?_, fun _ _ h => h⟩
  by_cases e : b' = b
  · subst e
    rw [Fz.add_out]; exact hv
    rcases Nat.lt_or_ge o lo with k | k
    · exact .inl k
    · rw [h o k] at hv; cases hv
  · rw [Fz.add_ne e]; exact hv

def Sg.own (σ : Sg) (tok m b sz lo : Nat) (l : List Value) : Sg := { σ with f := σ.f.add b lo l, T := fun i n => if i = tok ∧ n = m then some (b, sz) else σ.T i n }

theorem HRel.own {w w' : World} {σ : Sg} {h : Heap} (H : HRel P B w0 σ h w) {tok m m2 b sz lo : Nat} {t : TypeId} {l : List Value} (hg : h.get tok = some (.own m t)) (hm : m < m2) (hB : B ≤ b)
    (hbelow : Below B w0.w w') (hsize : w.heap.size ≤ w'.heap.size) (hother : ∀ j, j ≠ b → j < w.heap.size → w'.heap[j]? = w.heap[j]?)
    {cc : Array Value} {t' : TypeId} {fz : Nat × Nat} (hb : w'.heap[b]? = some (.cells cc t' fz)) (hsz : cc.size = sz) (hfz : okFrozen cc.size fz) (hle : m2 ≤ cc.size) (hlo : lo + l.length = m2)
    (hnew : ∀ j, j < l.length → cc[lo + j]? = l[j]?) (hold : ∀ o v, σ.f.c b o = some v → cc[o]? = some v) (hfree : (Blk.own m t).loc σ tok 0 = some b ∨ w.heap.size ≤ b) (hF : ∀ o, lo ≤ o → σ.f.c b o = none) (hFm : σ.f.m b = none) :
    HRel P B w0 (σ.own tok m2 b sz lo l) (h.set tok (.own m2 t)) w' ∧ σ.le (σ.own tok m2 b sz lo l) := by
  have hT : ∀ i n x, σ.T i n = some x → ¬ (i = tok ∧ n = m2) := fun i n x hx ⟨e1, e2⟩ => by
    subst e1; subst e2
    rcases H.blk _ _ hg with ⟨_, h2⟩ | ⟨_, _, _, _, _, h2, _⟩
    · rw [h2] at hx; cases hx
    · have := h2 _ _ hx; omega
  have hle' : σ.le (σ.own tok m2 b sz lo l) := ⟨fun _ _ h => h, Fz.le_add hF, fun i n x hx => by show (if _ then _ else _) = _; rw [if_neg (hT i n x hx)]; exact hx⟩
  have lt : tok < h.next := Heap.lt_of_get hg
  have locne : ∀ {j r : Nat} {blk : Blk}, j ≠ tok → blk.loc (σ.own tok m2 b sz lo l) j r = blk.loc σ j r := fun {j r blk} hj => by
    cases blk with
    | cells cs t m => cases m <;> rfl
    | own n t => simp [Blk.loc, Sg.own, hj]
    | pool rows => simp [Blk.loc, Sg.own, hj]
    | _ => rfl
  have apart : ∀ {j r y : Nat} {blk : Blk}, j ≠ tok → h.get j = some blk → blk.loc σ j r = some y → y ≠ b := fun {j r y blk} hj hgj hl e => by
    subst e
    rcases hfree with k | k
    · exact hj (H.inj _ _ _ _ _ _ y hgj hg hl k hB)
    · have := H.blk_lt hgj hl; omega
  refine ⟨⟨hbelow, Nat.le_trans H.size hsize, fun i x hx => H.dom i x hx, fun i x hx => Nat.lt_of_lt_of_le (H.codom i x hx) hsize, H.glob, fun j blk hj => ?_, fun i j r s bi bj y hi hj li lj hy => ?_, ⟨fun b' o v hv => ?_, fun b' es he => ?_⟩, fun b' hb' => ?_, fun i n x hx => ?_⟩, hle'⟩
  · rw [Heap.get_set lt] at hj
    split at hj
    · rename_i e
      simp only [Option.some.injEq] at hj; subst hj; subst e
      refine .inr ⟨b, cc, t', fz, by simp [Sg.own, hsz], fun n x hx => ?_, hB, hb, hfz, hle, fun o ho => ?_, hFm⟩
      · simp only [Sg.own] at hx
        split at hx
        · rename_i e; omega
        · rcases H.blk _ _ hg with ⟨_, h2⟩ | ⟨_, _, _, _, _, h2, _⟩
          · rw [h2] at hx; cases hx
          · have := h2 _ _ hx; omega
      · show (σ.f.add b lo l).c b o = none
        rw [Fz.add_out (.inr (by omega))]; exact hF o (by omega)
    · rename_i e
      refine (H.blk j blk hj).mono hle' (fun r y hy => hother y (apart e hj hy) (H.blk_lt hj hy)) (fun r y _ hy => ⟨Fz.add_ne (apart e hj hy), rfl⟩) fun n => ?_
      show (if _ then _ else _) = _
      rw [if_neg (fun h => e h.1)]
  · have self : ∀ {r y : Nat}, (Blk.own m2 t).loc (σ.own tok m2 b sz lo l) tok r = some y → y = b := fun {r y} hl => by simpa [Blk.loc, Sg.own] using hl.symm
    rw [Heap.get_set lt] at hi hj
    split at hi <;> split at hj
    · rename_i e1 e2; rw [e1, e2]
    · rename_i e1 e2
      simp only [Option.some.injEq] at hi; subst hi; subst e1
      rw [locne e2] at lj
      exact absurd (self li) (apart e2 hj lj)
    · rename_i e1 e2
      simp only [Option.some.injEq] at hj; subst hj; subst e2
      rw [locne e1] at li
      exact absurd (self lj) (apart e1 hi li)
    · rename_i e1 e2
      rw [locne e1] at li; rw [locne e2] at lj
      exact H.inj i j r s bi bj y hi hj li lj hy
  · by_cases e : b' = b
    · subst e
      by_cases hin : lo ≤ o ∧ o < lo + l.length
      · obtain ⟨j, rfl⟩ := Nat.exists_eq_add_of_le hin.1
        have hj : j < l.length := by omega
        have : (σ.f.add b' lo l).c b' (lo + j) = some v := hv
        rw [Fz.add_in hj] at this
        exact ⟨cc, t', fz, hb, by rw [hnew j hj, List.getElem?_eq_getElem hj]; exact this⟩
      · have : (σ.f.add b' lo l).c b' o = some v := hv
        rw [Fz.add_out (by omega)] at this
        exact ⟨cc, t', fz, hb, hold o v this⟩
    · have : (σ.f.add b lo l).c b' o = some v := hv
      rw [Fz.add_ne e] at this
      obtain ⟨cc2, t2, fz2, k1, k2⟩ := H.frz.c _ _ _ this
      exact ⟨cc2, t2, fz2, by rw [hother b' e (Array.getElem?_eq_some_iff.1 k1).1]; exact k1, k2⟩
  · have hem : σ.f.m b' = some es := he
    have hne : b' ≠ b := fun e => by subst e; rw [hFm] at hem; cases hem
    obtain ⟨cl, k⟩ := H.frz.m _ _ hem
    exact ⟨cl, by rw [hother b' hne (Array.getElem?_eq_some_iff.1 k).1]; exact k⟩
  · have hne : b' ≠ b := by omega
    obtain ⟨k1, k2⟩ := H.old b' hb'
    exact ⟨(Fz.add_ne hne).trans k1, k2⟩
  · simp only [Sg.own] at hx
    split at hx
    · rename_i e; rw [e.1]; exact lt
    · exact H.tdom i n x hx

theorem clo_frel : ∀ (n : Nat) {v : Value}, cloN n v = true → ∀ {σ : Sg} {v' : Value}, VRel σ v v' → FRel σ.f v v'
  | 0, v, h, _, _, _ => by simp [cloN] at h
  | n + 1, v, h, σ, v', hv => by
    have lst : ∀ {l l' : List Value}, l.all (cloN n) = true → LRel σ l l' → ∀ j : Nat, FRel σ.f (l.getD j Go.undef) (l'.getD j Go.undef) := fun {l l'} hl hr => by
      induction hr with
      | nil => intro j; simpa using FRel.undef σ.f
      | cons h _ ih =>
        simp only [List.all_cons, Bool.and_eq_true] at hl
        intro j
        cases j with
        | zero => simpa using clo_frel n hl.1 h
        | succ j => simpa using ih hl.2 j
    cases v with
    | agg cs => cases hv with
      | agg ha hh =>
        simp only [cloN] at h
        exact .agg ha fun j => by simpa using lst h (VRel.agg_list (.agg ha hh)) j
    | tuple cs => cases hv with
      | tuple ha hh =>
        simp only [cloN] at h
        exact .tuple ha fun j _ => by simpa using lst h (VRel.tuple_list (.tuple ha hh)) j
    | func fn a c => cases hv with
      | func _ ha hc h1 h2 =>
        simp only [cloN, Bool.and_eq_true] at h
        obtain ⟨_, k1, k2⟩ := VRel.func_lists (.func fn ha hc h1 h2)
        exact .func fn ha hc (fun j => by simpa using lst h.1 k1 j) fun j => by simpa using lst h.2 k2 j
    | iface t v =>
      cases hv with
      | iface _ ht hh => simp only [cloN, ht] at h; exact .iface t ht (clo_frel n h hh)
      | frz _ ht hh => exact hh
      | osnil => simp [cloN, isV] at h
      | osome => simp [cloN, isV] at h
      | rsl => simp [cloN, isV] at h
      | rnil => simp [cloN, isV] at h
      | rpt => simp [cloN, isV] at h
      | rch => simp [cloN, isV] at h
    | pointer a => cases hv <;> first | exact .pnil | simp [cloN] at h
    | slice a x y => cases hv <;> first | exact .snil _ _ | simp [cloN] at h
    | map r => cases hv <;> first | exact .mnil | simp [cloN] at h
    | chan r => cases hv; exact .cnil
    | bool b => cases hv; exact .bool _
    | int k x => cases hv; exact .int _ _
    | float k x => cases hv; exact .float _ _
    | complex k x y => cases hv; exact .complex _ _ _
    | string s => cases hv; exact .string _
    | nilFunc => cases hv; exact .nilFunc
    | nilIface => cases hv; exact .nilIface

/-! ### append: what the model does -/
section
variable {w : World} {argTypes : Array TypeId} {st xt elem ty : TypeId} {ti : TypeInfo} {zv : Value} {x' : Value} {base' : Option Addr} {sl cap' n : Nat} {old' new' : List Value}

theorem run_fits (h0 : argTypes[0]? = some st) (h1 : argTypes[1]? = some xt) (hus : P.underlying st = some (.slice elem)) (hux : ∃ e, P.underlying xt = some (.slice e)) (hti : P.info? elem = some ti)
    (hlen : ∀ w, (Builtin.lenOf x').run P w = .ok n w) (hfit : sl + n ≤ cap') (hnew : (Builtin.firstCells ti.size n x').run P w = .ok new'.toArray w) {w' : World}
    (hst : ((match base' with | some a => storeCells (a.add (sl * ti.size)) new' | none => pure ()) : Sem Unit).run P w = .ok () w') :
    (Builtin.append_ argTypes ty #[.slice base' sl cap', x']).run P w = .ok (.slice base' (sl + n) cap') w' := by
  have hsz : sizeI P elem = some ti.size := by simp [sizeI, hti]
  unfold Builtin.append_
  simp only [h0, List.getElem?_toArray, List.getElem?_cons_zero, List.getElem?_cons_succ, Sem.run_bind, run_underlying hus, Result.andThen_ok]
  simp only [sizeOf_run hsz, Result.andThen_ok, h1]
  obtain ⟨e, hx2⟩ := hux
  simp only [Sem.run_bind, run_underlying hx2, Result.andThen_ok, Sem.run_pure, Bool.false_eq_true, if_false, hlen, hfit, if_true, Bool.not_false, hnew]
  cases base' with
  | none => simp only [Sem.run_pure] at hst; simp at hst; subst hst; simp
  | some a => simp only at hst; simp only [Sem.run_bind, hst, Result.andThen_ok, Sem.run_pure]

/-- The room of a new array, as the tape has it. -/
def roomOf (w : World) (need cap' : Nat) (elem : TypeId) : Nat := (Question.appendCap need cap' elem).cut (w.tape w.drawn (Question.appendCap need cap' elem))
theorem roomOf_ge (w : World) (need cap' : Nat) (elem : TypeId) : need ≤ roomOf w need cap' elem := cap_ge _ _ _ _
def restOf (zv : Value) (k : Nat) : List Value := (Builtin.zeroCells zv.cells k).toList
theorem restOf_length (zv : Value) (k : Nat) : (restOf zv k).length = k * zv.cells.size := by simp [restOf, Builtin.zeroCells]

theorem run_grows (h0 : argTypes[0]? = some st) (h1 : argTypes[1]? = some xt) (hus : P.underlying st = some (.slice elem)) (hux : ∃ e, P.underlying xt = some (.slice e)) (hti : P.info? elem = some ti)
    (hz : ti.zero = some zv) (hlen : ∀ w, (Builtin.lenOf x').run P w = .ok n w) (hneed : cap' < sl + n) (hbig : (sl + n) * (ti.bytes + 1) ≤ 1099511627776)
    (hold : (Builtin.firstCells ti.size sl (.slice base' sl cap')).run P { w with drawn := w.drawn + 1 } = .ok old'.toArray { w with drawn := w.drawn + 1 })
    (hnew : (Builtin.firstCells ti.size n x').run P { w with drawn := w.drawn + 1 } = .ok new'.toArray { w with drawn := w.drawn + 1 }) :
    (Builtin.append_ argTypes ty #[.slice base' sl cap', x']).run P w =
      .ok (.slice (some ⟨w.heap.size, 0, none⟩) (sl + n) (roomOf w (sl + n) cap' elem)) (World.alloc { w with drawn := w.drawn + 1 } (.cells (old' ++ new' ++ restOf zv (roomOf w (sl + n) cap' elem - (sl + n))).toArray elem)) := by
  have hb1 : (sl + n) * ti.bytes ≤ 1099511627776 := Nat.le_trans (Nat.mul_le_mul_left _ (by omega)) hbig
  have hb2 : sl + n ≤ 1099511627776 := Nat.le_trans (Nat.le_mul_of_pos_right _ (by omega)) hbig
  have hsz : sizeI P elem = some ti.size := by simp [sizeI, hti]
  have hnn : ¬ (sl + n ≤ cap') := by omega
  have hnext : ¬ (Builtin.nextslicecap (sl + n) cap' * ti.bytes > 2 ^ 48) := by
    have := nextcap_le (sl + n) cap' hneed
    have h3 : Builtin.nextslicecap (sl + n) cap' * ti.bytes ≤ 5 * (sl + n) * ti.bytes := Nat.mul_le_mul_right _ this
    rw [Nat.mul_assoc] at h3
    omega
  have hmax : ¬ (((sl + n : Nat) : Int) > IntKind.i64.max) := by rw [IntKind.max_i64]; omega
  have hzr : ∀ w, (zeroValue elem).run P w = .ok zv w := fun w => by simp [zeroValue, typeInfo, hti, hz]
  have hz64 : ∀ w, (typeInfo elem).run P w = .ok ti w := fun w => by simp [typeInfo, hti]
  have hb0 : ¬ (((sl + n : Nat) : Int) > IntKind.i64.max ∧ (False ∨ ti.bytes = 0)) := fun h => hmax h.1
  have hch : (choose (Question.appendCap (sl + n) cap' elem)).run P w = .ok (roomOf w (sl + n) cap' elem) { w with drawn := w.drawn + 1 } := by simp [choose, Sem.run, Question.forced, roomOf]
  obtain ⟨e, hx⟩ := hux
  unfold Builtin.append_
  simp only [h0, List.getElem?_toArray, List.getElem?_cons_zero, List.getElem?_cons_succ, Sem.run_bind, run_underlying hus, Result.andThen_ok]
  simp only [sizeOf_run hsz, Result.andThen_ok, h1]
  simp only [Sem.run_bind, run_underlying hx, Result.andThen_ok, Sem.run_pure, Bool.false_eq_true, if_false, hlen, hnn, hz64, hb0, hnext, hch, askRoom_run, hold, Bool.not_false, if_true, hnew, hzr]
  simp only [newRow, newObj, Sem.run_bind, Sem.run, Result.andThen_ok, Sem.run_pure]
  have he : old'.toArray ++ new'.toArray ++ Builtin.zeroCells zv.cells (roomOf w (sl + n) cap' elem - (sl + n)) = (old' ++ new' ++ restOf zv (roomOf w (sl + n) cap' elem - (sl + n))).toArray := by
    apply Array.toList_inj.1; simp [restOf]
  rw [he]
  rfl
end

theorem HRel.set_same {w : World} {σ : Sg} {h : Heap} (H : HRel P B w0 σ h w) {i : Nat} {b : Blk} (hg : h.get i = some b) : HRel P B w0 σ (h.set i b) w := by
  have e : ∀ j, (h.set i b).get j = h.get j := fun j => by
    rw [Heap.get_set (Heap.lt_of_get hg)]
    split
    · rename_i e; subst e; exact hg.symm
    · rfl
  exact ⟨H.below, H.size, H.dom, H.codom, H.glob, fun j b hj => H.blk j b (by rw [← e]; exact hj), fun i j r s bi bj b hi hj => H.inj i j r s bi bj b (by rw [← e]; exact hi) (by rw [← e]; exact hj), H.frz, H.old, H.tdom⟩

/-- Reading. -/
theorem rd_sound_d {P : Program} {B : Nat} {w0 : Org} {w : World} {σ : Sg} {h : Heap} (H : HRel P B w0 σ h w) {a a' : Addr} {n : Nat} {cs : List Value}
    (hr : rdCells h a n = some cs) (ha : ARel σ a a') : ∃ cs', (∀ d, (loadCells a' n).run P { w with drawn := d } = .ok cs'.toArray { w with drawn := d }) ∧ LRel σ cs cs' ∧ cs.length = n := by
  unfold rdCells at hr
  split at hr
  · rename_i cells t m hg hs
    have key : m ≠ .dead → (if a.off + n ≤ cells.length then some ((cells.drop a.off).take n) else none) = some cs →
        ∃ cs', (∀ d, (loadCells a' n).run P { w with drawn := d } = .ok cs'.toArray { w with drawn := d }) ∧ LRel σ cs cs' ∧ cs.length = n := fun hm hr => by
      split at hr
      · rename_i hle
        simp only [Option.some.injEq] at hr
        obtain ⟨b, o, k, cc, t', fz, h1, h2, h3, h4⟩ := (H.blk _ _ hg).read hm
        obtain ⟨b', o', k', g1, _, rfl⟩ := ha
        rw [h1] at g1; simp only [Option.some.injEq, Spot.mk.injEq] at g1
        obtain ⟨rfl, rfl, rfl⟩ := g1
        have hlen : ((((cc.toList.drop o).take cells.length).drop a.off).take n).length = n := by simp; omega
        refine ⟨(((cc.toList.drop o).take cells.length).drop a.off).take n, ?_, ?_, ?_⟩
        · intro d
          have h2' : ({ w with drawn := d } : World).heap[b]? = some (.cells cc t' fz) := h2
          have := run_loadCells_list (P := P) (w := { w with drawn := d }) ⟨b, o + a.off, none⟩ ((((cc.toList.drop o).take cells.length).drop a.off).take n) (fun j v hv => by
            rw [Addr.add_none, cell_of h2']
            have hj : j < n := by
              have := (List.getElem?_eq_some_iff.1 hv).1
              omega
            rw [List.getElem?_take_of_lt hj, List.getElem?_drop, List.getElem?_take_of_lt (by omega), List.getElem?_drop] at hv
            rw [← hv, Array.getElem?_toList]
            congr 1; omega)
          rw [hlen] at this
          exact this
        · rw [← hr]; exact (h4.drop _).take _
        · rw [← hr]; simp; omega
      · cases hr
    cases m with
    | dead => simp at hr
    | ro => exact key (by simp) hr
    | fix => exact key (by simp) hr
    | grow => exact key (by simp) hr
  · cases hr

theorem first_sound_d {w : World} {σ : Sg} {h : Heap} (H : HRel P B w0 σ h w) {size n len : Nat} {x x' : Value} {new : List Value} (hf : firstI h size n x = some new) (hl : lenI x = some len) (hn : n ≤ len) (hx : VRel σ x x') :
    ∃ new', (∀ d, (Builtin.firstCells size n x').run P { w with drawn := d } = .ok new'.toArray { w with drawn := d }) ∧ LRel σ new new' ∧ ((∃ a l c, x = .slice (some a) l c) → new.length = n * size) := by
  cases x <;> simp only [firstI] at hf <;> try (cases hf; done)
  case string s =>
    cases hx
    simp only [Option.some.injEq] at hf; subst hf
    refine ⟨_, ?_, LRel.map (f := fun b : UInt8 => Value.int .u8 b.toNat) (g := fun b : UInt8 => Value.int .u8 b.toNat) fun b _ => .int _ _, fun ⟨a, l, c, e⟩ => by cases e⟩
    intro d
    simp only [Builtin.firstCells, Sem.run_pure]
    congr 1
    apply Array.toList_inj.1
    rw [Array.toList_map, bytes_take]
  case slice a l c =>
    simp only [lenI, Option.some.injEq] at hl; subst hl
    cases a with
    | none =>
      simp only [Option.some.injEq] at hf; subst hf
      cases hx
      exact ⟨[], by simp [Builtin.firstCells], .nil, fun ⟨a, l, c, e⟩ => by cases e⟩
    | some ad =>
      obtain ⟨ad', c', rfl, hA⟩ := slice_inv hx
      cases n with
      | zero =>
        simp only [Option.some.injEq] at hf; subst hf
        exact ⟨[], by simp [Builtin.firstCells, loadCells, loadCellsFrom], .nil, fun _ => by simp⟩
      | succ n =>
        obtain ⟨cs', k1, k2, k3⟩ := rd_sound_d H hf (hA (by omega))
        exact ⟨cs', fun d => by simp only [Builtin.firstCells]; exact k1 d, k2, fun _ => k3⟩

theorem getD_append_frel {F : Fz} {a a' : Array Value} {b b' : List Value} (hs : a.size = a'.size) (h : ∀ j : Nat, FRel F (a.getD j undef) (a'.getD j undef)) (k : ∀ j : Nat, FRel F (b.getD j undef) (b'.getD j undef)) :
    ∀ j : Nat, FRel F ((a ++ b.toArray).getD j undef) ((a' ++ b'.toArray).getD j undef) := fun j => by
  have e : ∀ (a : Array Value) (b : List Value), (a ++ b.toArray).getD j undef = if j < a.size then a.getD j undef else b.getD (j - a.size) undef := fun a b => by
    simp only [Array.getD_eq_getD_getElem?, Array.getElem?_append, List.getElem?_toArray, List.getD]
    split <;> rfl
  rw [e, e, ← hs]
  by_cases hj : j < a.size
  · rw [if_pos hj, if_pos hj]; exact h j
  · rw [if_neg hj, if_neg hj]; exact k _

/-- append, to an array that this slice alone appends to. -/
theorem own_append {w : World} {σ : Sg} {h : Heap} (H : HRel P B w0 σ h w) {argTypes : Array TypeId} {st xt elem ty t : TypeId} {ti : TypeInfo} {zv : Value} {s' x' : Value} {tok m n k : Nat} {cs : Array Value} {new new' : List Value}
    (h0 : argTypes[0]? = some st) (h1 : argTypes[1]? = some xt) (hus : P.underlying st = some (.slice elem)) (hux : ∃ e, P.underlying xt = some (.slice e)) (hti : P.info? elem = some ti)
    (hz : ti.zero = some zv) (hzs : zv.cells.size = ti.size) (hpos : 1 ≤ ti.size) (hg : h.get tok = some (.own m t)) (hs : VRel σ (osl tok ti.size n cs) s') (hcm : cs.size = m)
    (hlen : ∀ w, (Builtin.lenOf x').run P w = .ok k w) (hbig : (n + k) * (ti.bytes + 1) ≤ 1099511627776)
    (hnew : ∀ d, (Builtin.firstCells ti.size k x').run P { w with drawn := d } = .ok new'.toArray { w with drawn := d }) (hrel : ∀ j : Nat, FRel σ.f (new.getD j undef) (new'.getD j undef)) (hln : new.length = k * ti.size) (hln' : new'.length = k * ti.size) (hone : new'.all Go.Ideal.oneCell = true) :
    ∃ σ' w' v', σ.le σ' ∧ (Builtin.append_ argTypes ty #[s', x']).run P w = .ok v' w' ∧ VRel σ' (osl tok ti.size ((n + k : Nat) : Int) (cs ++ new.toArray)) v' ∧ HRel P B w0 σ' (h.set tok (.own (m + new.length) t)) w' := by
  have hnew0 : (Builtin.firstCells ti.size k x').run P w = .ok new'.toArray w := hnew w.drawn
  -- what s' is
  have shape : ∃ (base' : Option Addr) (cap' : Nat) (ms : Array Value), s' = .slice base' n cap' ∧ n * ti.size = m ∧ n ≤ cap' ∧ cs.size = ms.size ∧ (∀ j : Nat, FRel σ.f (cs.getD j undef) (ms.getD j undef)) ∧
      ((base' = none ∧ n = 0 ∧ cap' = 0) ∨ ∃ b sz, base' = some ⟨b, 0, none⟩ ∧ σ.T tok m = some (b, sz) ∧ cap' * ti.size ≤ sz ∧ ∀ j, j < ms.size → σ.f.c b j = some (ms.getD j undef)) := by
    generalize ho : osl tok ti.size n cs = q at hs
    cases hs with
    | osnil tok2 es2 =>
      simp only [osl, Value.iface.injEq, Value.tuple.injEq, Array.mk.injEq, List.cons.injEq, Value.int.injEq, Value.agg.injEq, true_and, and_true] at ho
      obtain ⟨e1, e2, e3, e4⟩ := ho
      subst e4
      have : n = 0 := by omega
      subst this
      exact ⟨none, 0, #[], rfl, by simpa using hcm, Nat.le_refl _, rfl, fun j => by simpa using FRel.undef σ.f, .inl ⟨rfl, rfl, rfl⟩⟩
    | osome hs hF hh hT hp hn hc hnc =>
      rename_i cells ms tok2 es2 b sz n2 c'
      simp only [osl, Value.iface.injEq, Value.tuple.injEq, Array.mk.injEq, List.cons.injEq, Value.int.injEq, Value.agg.injEq, true_and, and_true] at ho
      obtain ⟨e1, e2, e3, e4⟩ := ho
      have e1 : tok = tok2 := by omega
      have e2 : ti.size = es2 := by omega
      have e3 : n = n2 := by omega
      subst e1; subst e2; subst e3; subst e4
      exact ⟨_, c', ms, rfl, by rw [hn, hcm], hnc, hs, hh, .inr ⟨b, sz, rfl, by rw [← hcm]; exact hT, hc, hF⟩⟩
    | frz t' ht hf => exact absurd ho (by intro ho; cases ho; cases hf with | iface _ h0 _ => rw [ht] at h0; cases h0)
    | iface t' ht _ => exact absurd ho (by intro ho; cases ho; simp [isV] at ht)
    | _ => cases ho
  obtain ⟨base', cap', ms, rfl, hnm, hncap, hsz, hcells, hbase⟩ := shape
  have hm2 : m + new.length = (n + k) * ti.size := by rw [hln, ← hnm, Nat.add_mul]
  have hcs2 : (cs ++ new.toArray).size = m + new.length := by simp [hcm]
  have hfrel := getD_append_frel hsz hcells hrel
  by_cases hk : k = 0
  · subst hk
    have en : new = [] := List.length_eq_zero_iff.1 (by simpa using hln)
    have en' : new' = [] := List.length_eq_zero_iff.1 (by simpa using hln')
    subst en; subst en'
    refine ⟨σ, w, _, Sg.le_refl σ, run_fits (base' := base') (new' := []) h0 h1 hus hux hti hlen (by omega) hnew0 ?_, by simpa using hs, by simpa using H.set_same hg⟩
    cases base' with
    | none => simp
    | some a => simp [storeCells]
  have hlt : m < m + new.length := by
    have : 0 < k * ti.size := Nat.mul_pos (by omega) (by omega)
    omega
  have anew : cap' < n + k → (Builtin.firstCells ti.size n (.slice base' n cap')).run P { w with drawn := w.drawn + 1 } = .ok ms.toList.toArray { w with drawn := w.drawn + 1 } → 
      ∃ σ' w' v', σ.le σ' ∧ (Builtin.append_ argTypes ty #[.slice base' n cap', x']).run P w = .ok v' w' ∧ VRel σ' (osl tok ti.size ((n + k : Nat) : Int) (cs ++ new.toArray)) v' ∧ HRel P B w0 σ' (h.set tok (.own (m + new.length) t)) w' := fun hneed hold => by
    have hrun := run_grows (ty := ty) h0 h1 hus hux hti hz hlen hneed hbig hold (hnew _)
    have hge := roomOf_ge w (n + k) cap' elem
    have hall : (ms.toList ++ new' ++ restOf zv (roomOf w (n + k) cap' elem - (n + k))).length = roomOf w (n + k) cap' elem * ti.size := by
      simp only [List.length_append, restOf_length, hzs, Array.length_toList, ← hsz, hcm, hln']
      rw [← hnm, ← Nat.add_mul, ← Nat.add_mul]; congr 1; omega
    have hB2 := HRel.own (σ := σ) (w := w) (w' := World.alloc { w with drawn := w.drawn + 1 } (.cells (ms.toList ++ new' ++ restOf zv (roomOf w (n + k) cap' elem - (n + k))).toArray elem)) H hg (m2 := m + new.length) (b := w.heap.size) (lo := 0) (l := ms.toList ++ new') (sz := roomOf w (n + k) cap' elem * ti.size) hlt H.size
      (H.drew.below.alloc H.size _) (by show w.heap.size ≤ (w.heap.push _).size; rw [Array.size_push]; omega)
      (fun j hj hlt => by show (w.heap.push _)[j]? = _; rw [Array.getElem?_push, if_neg hj])
      (cc := (ms.toList ++ new' ++ restOf zv (roomOf w (n + k) cap' elem - (n + k))).toArray) (t' := elem) (fz := (0, 0)) (by show (w.heap.push _)[w.heap.size]? = _; simp) (by rw [List.size_toArray, hall]) (okFrozen_zero _) (by rw [List.size_toArray, hall, hm2]; exact Nat.mul_le_mul_right _ hge)
      (by simp only [List.length_append, Array.length_toList, ← hsz, hcm, hln, hln']; omega)
      (fun j hj => by rw [List.getElem?_toArray, Nat.zero_add, List.getElem?_append_left hj]) (fun o v hv => by rw [(H.frz.off (Nat.le_refl _)).1] at hv; cases hv) (.inr (Nat.le_refl _)) (fun o _ => (H.frz.off (Nat.le_refl _)).1 o) (H.frz.off (Nat.le_refl _)).2
    refine ⟨_, _, _, hB2.2, hrun, ?_, hB2.1⟩
    refine .osome (ms := ms ++ new'.toArray) (b := w.heap.size) (sz := roomOf w (n + k) cap' elem * ti.size) (by simp [hsz, hln, hln']) (fun j hj => ?_) (fun j => (hfrel j).mono hB2.2.f) (by rw [hcs2]; simp [Sg.own]) (by rw [hcs2]; omega) (by rw [hcs2, hm2]) (Nat.le_refl _) hge
    have hj' : j < (ms.toList ++ new').length := by simpa using hj
    have := Fz.add_in (F := σ.f) (b := w.heap.size) (lo := 0) hj'
    rw [Nat.zero_add] at this
    refine this.trans ?_
    simp only [Array.getD_eq_getD_getElem?, Array.getElem?_append, List.getElem?_toArray]
    rw [← List.getElem?_eq_getElem hj', List.getElem?_append]
    simp only [Array.length_toList, Array.getElem?_toList]
    split
    · rename_i hl; simp [Array.getElem?_eq_getElem hl]
    · rename_i hl
      have : j - ms.size < new'.length := by simp at hj; omega
      simp [List.getElem?_eq_getElem this]
  rcases hbase with ⟨rfl, rfl, rfl⟩ | ⟨b, sz, rfl, hT, hcsz, hF⟩
  · refine anew (by omega) ?_
    have : ms = #[] := by
      have : ms.size = 0 := by rw [← hsz, hcm]; omega
      exact Array.eq_empty_of_size_eq_zero this
    subst this
    simp [Builtin.firstCells]
  · -- the block
    obtain ⟨cc, t', fz, q2, q3, q4, q5, q6, q7, q8, hccs⟩ : ∃ cc t' fz, (∀ m' x, σ.T tok m' = some x → m' ≤ m) ∧ B ≤ b ∧ w.heap[b]? = some (.cells cc t' fz) ∧ okFrozen cc.size fz ∧ m ≤ cc.size ∧ (∀ o, m ≤ o → σ.f.c b o = none) ∧ σ.f.m b = none ∧ cc.size = sz := by
      rcases H.blk _ _ hg with ⟨_, h2⟩ | ⟨b2, cc, t', fz, p1, p2, p3, p4, p5, p6, p7, p8⟩
      · rw [h2] at hT; cases hT
      · rw [hT] at p1; simp only [Option.some.injEq, Prod.mk.injEq] at p1; obtain ⟨rfl, rfl⟩ := p1
        exact ⟨cc, t', fz, p2, p3, p4, p5, p6, p7, p8, rfl⟩
    have hbs : b < w.heap.size := (Array.getElem?_eq_some_iff.1 q4).1
    have hloc : (Blk.own m t).loc σ tok 0 = some b := by simp [Blk.loc, hT]
    have hms : ∀ j, j < ms.size → cc[j]? = some (ms.getD j undef) := fun j hj => by
      obtain ⟨cc2, t2, fz2, k1, k2⟩ := H.frz.c _ _ _ (hF j hj)
      rw [q4] at k1; simp only [Option.some.injEq, Obj.cells.injEq] at k1
      obtain ⟨rfl, _, _⟩ := k1
      exact k2
    by_cases hfit : n + k ≤ cap'
    · have hsp : m + new'.length ≤ cc.size := by
        rw [hln', ← hln, hm2, hccs]
        exact Nat.le_trans (Nat.mul_le_mul_right _ hfit) hcsz
      have hrun := run_storeCells_put (P := P) (p := m) new' 0 cc w q4 (by omega) q5 hone
      have hsl : (splice cc.toList m new').length = cc.size := by rw [splice_length _ _ _ (by simp; omega)]; simp
      have hget : ∀ o, (splice cc.toList m new').toArray[o]? = if o < m then cc[o]? else if o < m + new'.length then new'[o - m]? else cc[o]? := fun o => by
        rw [List.getElem?_toArray]
        unfold splice
        rw [List.append_assoc, List.getElem?_append]
        have e1 : (List.take m cc.toList).length = m := by simp; omega
        rw [e1]
        split
        · rename_i hl; rw [List.getElem?_take_of_lt hl, Array.getElem?_toList]
        · rename_i hl
          rw [List.getElem?_append]
          split
          · rename_i hl2; rw [if_pos (by omega)]
          · rename_i hl2
            rw [if_neg (by omega), List.getElem?_drop, Array.getElem?_toList]
            congr 1; omega
      have hB2 := HRel.own (σ := σ) (w := w) (w' := putBlock w b (.cells (splice cc.toList m new').toArray t' fz)) H hg (m2 := m + new.length) (b := b) (lo := m) (l := new') (sz := sz) hlt q3 (below_putBlock H.below q3 _) (by simp [putBlock])
        (fun j hj _ => by rw [putBlock_get _ hbs, if_neg hj]) (cc := (splice cc.toList m new').toArray) (t' := t') (fz := fz) (by rw [putBlock_get _ hbs, if_pos rfl]) (by rw [List.size_toArray, hsl, hccs]) (by rw [List.size_toArray, hsl]; exact q5)
        (by rw [List.size_toArray, hsl, hln, ← hln']; exact hsp) (by rw [hln, hln']) (fun j hj => by rw [hget, if_neg (by omega), if_pos (by omega), Nat.add_sub_cancel_left])
        (fun o v hv => by
          have ho : o < m := by
            rcases Nat.lt_or_ge o m with h | h
            · exact h
            · rw [q7 o h] at hv; cases hv
          obtain ⟨cc2, t2, fz2, k1, k2⟩ := H.frz.c _ _ _ hv
          rw [q4] at k1; simp only [Option.some.injEq, Obj.cells.injEq] at k1
          obtain ⟨rfl, _, _⟩ := k1
          rw [hget, if_pos ho]; exact k2) (.inl hloc) q7 q8
      refine ⟨_, _, _, hB2.2, run_fits (base' := some ⟨b, 0, none⟩) (w' := putBlock w b (.cells (splice cc.toList m new').toArray t' fz)) h0 h1 hus hux hti hlen hfit hnew0 ?_, ?_, hB2.1⟩
      · simp only [Addr.add_none, Nat.zero_add, hnm]
        simpa using hrun
      · refine .osome (ms := ms ++ new'.toArray) (b := b) (sz := sz) (by simp [hsz, hln, hln']) (fun j hj => ?_) (fun j => (hfrel j).mono hB2.2.f) (by rw [hcs2]; simp [Sg.own]) (by rw [hcs2]; omega) (by rw [hcs2, hm2]) hcsz hfit
        show (σ.f.add b m new').c b j = _
        have hmss : ms.size = m := by rw [← hsz, hcm]
        rcases Nat.lt_or_ge j m with hjm | hjm
        · rw [Fz.add_out (.inl hjm), hF j (by omega)]
          simp only [Array.getD_eq_getD_getElem?, Array.getElem?_append, if_pos (show j < ms.size by omega)]
        · obtain ⟨i, rfl⟩ := Nat.exists_eq_add_of_le hjm
          have hi : i < new'.length := by simp at hj; omega
          rw [Fz.add_in hi]
          simp only [Array.getD_eq_getD_getElem?, Array.getElem?_append, if_neg (show ¬ m + i < ms.size by omega), hmss, Nat.add_sub_cancel_left, List.getElem?_toArray, List.getElem?_eq_getElem hi, Option.getD_some]
          rw [if_neg (by omega)]; rfl
    · refine anew (by omega) ?_
      have hl := run_loadCells_list (P := P) (w := { w with drawn := w.drawn + 1 }) ⟨b, 0, none⟩ ms.toList (fun j v hv => by
        have hj : j < ms.size := by have := (List.getElem?_eq_some_iff.1 hv).1; simpa using this
        rw [Addr.add_none, Nat.zero_add]
        have : ({ w with drawn := w.drawn + 1 } : World).cell? ⟨b, j, none⟩ = cc[j]? := cell_of (w := { w with drawn := w.drawn + 1 }) q4
        rw [this, hms j hj]
        rw [Array.getElem?_toList] at hv
        simp only [Array.getD_eq_getD_getElem?, hv, Option.getD_some])
      rw [Array.length_toList, ← hsz, hcm, ← hnm] at hl
      simp only [Builtin.firstCells]
      exact hl

end Go.Ideal

end
