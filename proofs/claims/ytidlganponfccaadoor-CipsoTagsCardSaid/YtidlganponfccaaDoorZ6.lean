/- Texts packed together: IEqD IOwn IPool. -/
import Derived.Laws.StructEq
import Derived.Test.YtidlganponfccaaDoorZ5
section
/- Whether two plain values are alike, as one Bool: as the model says. Over any program. -/
set_option linter.unusedVariables false
set_option linter.unusedSimpArgs false
namespace Go.Ideal

section
variable {P : Program}
theorem pr_bind {α β : Type} (k : α → Sem β) : ∀ (e : Sem α), pureRun P (e >>= k) = (pureRun P e).bind fun a => pureRun P (k a)
  | .pure a => rfl
  | .program f => pr_bind k (f P)
  | .mark m e => pr_bind k e
  | .load _ _ _ => rfl
  | .store _ _ _ _ => rfl
  | .new _ _ => rfl
  | .shape _ _ => rfl
  | .freeze _ _ _ => rfl
  | .frozen _ _ => rfl
  | .getObj _ _ => rfl
  | .setObj _ _ _ => rfl
  | .choose _ _ => rfl
  | .sys _ _ => rfl
  | .halt _ => rfl
theorem pr_pure {α : Type} (a : α) : pureRun P (pure a) = some a := rfl
theorem pr_ite {α : Type} (c : Prop) [Decidable c] (x y : Sem α) : pureRun P (if c then x else y) = if c then pureRun P x else pureRun P y := by split <;> rfl

theorem eqFs_fields {d : Nat} {eq : TypeId → Value → Value → Option Bool} (ih : ∀ t x y b, eq t x y = some b → pureRun P (Op.equalIn d t x y) = some b) (xs ys : Array Value) : ∀ (fs : List Field) (b : Bool), eqFs P eq xs ys fs = some b → pureRun P (Op.eqFields d xs ys fs) = some b
  | [], b, h => by rw [eqFs] at h; exact h
  | f :: fs, b, h => by
    rw [eqFs] at h
    split at h
    · rename_i hn
      have hn' : ¬ (f.name ≠ "_") := by simpa using hn
      rw [Op.eqFields, if_neg hn']
      exact eqFs_fields ih xs ys fs b h
    · rename_i hn
      have hn' : f.name ≠ "_" := by simpa using hn
      rw [Op.eqFields, if_pos hn']
      split at h
      · rename_i va vb ha hb
        simp only [pr_bind, ha, hb, Option.bind_some]
        split at h
        · rename_i r he
          cases h
          simp only [ih _ _ _ _ he, Option.bind_some, pr_ite, Op.eqFields]
          cases b <;> rfl
        · rename_i r f' fs' he
          split at h
          · rename_i s hs
            cases h
            simp only [ih _ _ _ _ he, Option.bind_some, pr_ite]
            rw [eqFs_fields ih xs ys (f' :: fs') s hs]
            cases r <;> rfl
          · cases h
        · cases h
      · cases h

theorem equalIn_fields {d : Nat} {t : TypeId} {fs : Array Field} {xs ys : Array Value} (ht : P.underlying t = some (.struct fs)) (hp : P.stoodInHeld t = false) :
    pureRun P (Op.equalIn (d + 1) t (.agg xs) (.agg ys)) = pureRun P (Op.eqFields d xs ys fs.toList) := by
  have hu : pureRun P (underlying t) = some (.struct fs) := by simp [underlying, pr_bind, program, pureRun, ht]; rfl
  simp only [Op.equalIn, pr_bind, hu, Option.bind_some]
  rw [← Array.forIn_toList]
  simp only [program, pureRun, Option.bind_some, hp, Bool.false_eq_true, if_false]
  generalize fs.toList = l
  clear ht hu
  induction l with
  | nil => rfl
  | cons f l ih =>
    simp only [List.forIn_cons, Op.eqFields]
    split
    · simp only [pr_bind]
      cases pureRun P (part f.type xs f.offset) with
      | none => rfl
      | some a =>
        cases pureRun P (part f.type ys f.offset) with
        | none => rfl
        | some b =>
          simp only [Option.bind_some]
          cases pureRun P (Op.equalIn d f.type a b) with
          | none => rfl
          | some r =>
            cases r
            · rfl
            · simp only [pr_bind] at ih
              simpa [pr_bind, pr_pure] using ih
    · simpa [pr_bind, pr_pure] using ih

theorem pr_underlying {t : TypeId} {D : TypeDesc} (ht : P.underlying t = some D) : pureRun P (underlying t) = some D := by simp [underlying, pr_bind, program, pureRun, ht]; rfl

theorem eqEs_loop {d : Nat} {eq : TypeId → Value → Value → Option Bool} (ih : ∀ t x y b, eq t x y = some b → pureRun P (Op.equalIn d t x y) = some b) (elem : TypeId) (size : Nat) (xs ys : Array Value) : ∀ (k i : Nat) (b : Bool), eqEs P eq elem size xs ys i k = some b →
    (pureRun P (forIn (List.range' i k) ((none, ()) : Option Bool × Unit) fun i r => do
      let a ← part elem xs (i * size)
      let b ← part elem ys (i * size)
      let c ← Op.equalIn d elem a b
      if (!c) = true then pure (ForInStep.done (some false, ())) else pure (ForInStep.yield (none, ())))) = some (if b then (none, ()) else (some false, ()))
  | 0, i, b, h => by
    rw [eqEs] at h; cases h
    rfl
  | k + 1, i, b, h => by
    rw [eqEs] at h
    rw [List.range'_succ, List.forIn_cons]
    split at h
    · rename_i va vb ha hb
      simp only [pr_bind, ha, hb, Option.bind_some]
      split at h
      · rename_i r he
        cases h
        simp only [ih _ _ _ _ he, Option.bind_some, pr_ite]
        cases b
        · rfl
        · rfl
      · rename_i r k' he
        split at h
        · rename_i s hs
          cases h
          simp only [ih _ _ _ _ he, Option.bind_some, pr_ite]
          cases r
          · rfl
          · have := eqEs_loop ih elem size xs ys (k' + 1) (i + 1) s hs
            simp only [Bool.true_and]
            exact this
        · cases h
      · cases h
    · cases h

theorem eqD_sound : ∀ (d : Nat) (t : TypeId) (x y : Value) (b : Bool), eqD P d t x y = some b → pureRun P (Op.equalIn d t x y) = some b
  | 0, _, _, _, _, h => by cases h
  | d + 1, t, x, y, b, h => by
    simp only [eqD] at h
    split at h
    · rename_i fs xs ys ht
      split at h
      · cases h
      · rename_i hp
        rw [equalIn_fields ht hp]
        exact eqFs_fields (eqD_sound d) xs ys _ _ h
    · rename_i len elem xs ys ht
      split at h
      · rename_i size hsz
        have hs : pureRun P (sizeOf elem) = some size := by
          unfold sizeI at hsz
          cases hi : P.info? elem with
          | none => simp [hi] at hsz
          | some ti =>
            simp only [hi, Option.map_some, Option.some.injEq] at hsz
            simp [sizeOf, typeInfo, pr_bind, program, pureRun, hi, hsz, pr_pure]
        simp only [Op.equalIn, pr_bind, pr_underlying ht, Option.bind_some, hs]
        have := eqEs_loop (eqD_sound d) elem size xs ys len 0 b h
        rw [Std.Legacy.Range.forIn_eq_forIn_range']
        simp only [Std.Legacy.Range.size, Nat.sub_zero, Nat.add_sub_cancel, Nat.div_one]
        rw [this]
        cases b <;> rfl
      · cases h
    · rename_i a b' ht
      simp only [Op.equalIn, pr_bind, pr_underlying ht, Option.bind_some]
      exact h
    · rename_i k0 k a k' a' ht
      split at h
      · rename_i hk
        have hk : k = k' := by simpa using hk
        subst hk
        simp only [Op.equalIn, pr_bind, pr_underlying ht, Option.bind_some, if_true]
        exact h
      · cases h
    · rename_i a b' ht
      simp only [Op.equalIn, pr_bind, pr_underlying ht, Option.bind_some]
      exact h
    · cases h

end
end Go.Ideal

end
section
/- Arrays that one slice appends to, and maps: the ideal heap and the model's stay related. Over any program. -/
set_option linter.unusedVariables false
set_option linter.unusedSimpArgs false
namespace Go.Ideal
open Go.RowKit

variable {P : Program} {B : Nat} {w0 : Org}

def Fz.add (F : Fz) (b lo : Nat) (l : List Value) : Fz := { F with c := fun b' o => if b' = b ∧ lo ≤ o ∧ o < lo + l.length then l[o - lo]? else F.c b' o }
theorem Fz.add_ne {F : Fz} {b lo b' : Nat} {l : List Value} (h : b' ≠ b) : (F.add b lo l).c b' = F.c b' := by
  funext o; simp [Fz.add, h]
theorem Fz.add_in {F : Fz} {b lo : Nat} {l : List Value} {j : Nat} (h : j < l.length) : (F.add b lo l).c b (lo + j) = some l[j] := by
  have h1 : lo ≤ lo + j ∧ lo + j < lo + l.length := by omega
  simp only [Fz.add, true_and, if_pos h1, Nat.add_sub_cancel_left, List.getElem?_eq_getElem h]
theorem Fz.add_out {F : Fz} {b lo o : Nat} {l : List Value} (h : o < lo ∨ lo + l.length ≤ o) : (F.add b lo l).c b o = F.c b o := by
  simp only [Fz.add]; rw [if_neg (by omega)]
theorem Fz.le_add {F : Fz} {b lo : Nat} {l : List Value} (h : ∀ o, lo ≤ o → F.c b o = none) : F.le (F.add b lo l) := by
  refine ⟨fun b' o v hv => ?_, fun _ _ h => h⟩
  by_cases e : b' = b
  · subst e
    rw [Fz.add_out]; exact hv
    rcases Nat.lt_or_ge o lo with k | k
    · exact .inl k
    · rw [h o k] at hv; cases hv
  · rw [Fz.add_ne e]; exact hv

def Sg.own (σ : Sg) (tok m b sz lo : Nat) (l : List Value) : Sg := { σ with f := σ.f.add b lo l, T := fun i n => if i = tok ∧ n = m then some (b, sz) else σ.T i n }

theorem HRel.own {w w' : World} {σ : Sg} {h : Heap} (H : HRel P B w0 σ h w) {tok m m2 b sz lo : Nat} {t : TypeId} {l : List Value} (hg : h.get tok = some (.own m t)) (hm : m < m2) (hB : B ≤ b)
    (hbelow : Below B w0.w w') (hsize : w.heap.size ≤ w'.heap.size) (hother : ∀ j, j ≠ b → j < w.heap.size → w'.heap[j]? = w.heap[j]?)
    {cc : Array Value} {t' : TypeId} {fz : Nat × Nat} (hb : w'.heap[b]? = some (.cells cc t' fz)) (hsz : cc.size = sz) (hfz : okFrozen cc.size fz) (hle : m2 ≤ cc.size) (hlo : lo + l.length = m2)
    (hnew : ∀ j, j < l.length → cc[lo + j]? = l[j]?) (hold : ∀ o v, σ.f.c b o = some v → cc[o]? = some v) (hfree : (Blk.own m t).loc σ tok 0 = some b ∨ w.heap.size ≤ b) (hF : ∀ o, lo ≤ o → σ.f.c b o = none) (hFm : σ.f.m b = none) (hty : t' = t) :
    HRel P B w0 (σ.own tok m2 b sz lo l) (h.set tok (.own m2 t)) w' ∧ σ.le (σ.own tok m2 b sz lo l) := by
  have hT : ∀ i n x, σ.T i n = some x → ¬ (i = tok ∧ n = m2) := fun i n x hx ⟨e1, e2⟩ => by
    subst e1; subst e2
    rcases H.blk _ _ hg with ⟨_, h2⟩ | ⟨_, _, _, _, _, h2, _⟩
    · rw [h2] at hx; cases hx
    · have := h2 _ _ hx; omega
  have hle' : σ.le (σ.own tok m2 b sz lo l) := ⟨fun _ _ h => h, Fz.le_add hF, fun i n x hx => by show (if _ then _ else _) = _; rw [if_neg (hT i n x hx)]; exact hx⟩
  have lt : tok < h.next := Heap.lt_of_get hg
  have locne : ∀ {j r : Nat} {blk : Blk}, j ≠ tok → blk.loc (σ.own tok m2 b sz lo l) j r = blk.loc σ j r := fun {j r blk} hj => by
    cases blk with
    | cells cs t m => cases m <;> rfl
    | own n t => simp [Blk.loc, Sg.own, hj]
    | pool rows => simp [Blk.loc, Sg.own, hj]
    | _ => rfl
  have apart : ∀ {j r y : Nat} {blk : Blk}, j ≠ tok → h.get j = some blk → blk.loc σ j r = some y → y ≠ b := fun {j r y blk} hj hgj hl e => by
    subst e
    rcases hfree with k | k
    · exact hj (H.inj _ _ _ _ _ _ y hgj hg hl k hB)
    · have := H.blk_lt hgj hl; omega
  refine ⟨⟨hbelow, Nat.le_trans H.size hsize, fun i x hx => H.dom i x hx, fun i x hx => Nat.lt_of_lt_of_le (H.codom i x hx) hsize, H.glob, fun j blk hj => ?_, fun i j r s bi bj y hi hj li lj hy => ?_, ⟨fun b' o v hv => ?_, fun b' es he => ?_⟩, ?_, fun i n x hx => ?_⟩, hle'⟩
  · rw [Heap.get_set lt] at hj
    split at hj
    · rename_i e
      simp only [Option.some.injEq] at hj; subst hj; subst e
      refine .inr ⟨b, cc, t', fz, by simp [Sg.own, hsz], fun n x hx => ?_, hB, hb, hfz, hle, fun o ho => ?_, hFm, hty⟩
      · simp only [Sg.own] at hx
        split at hx
        · rename_i e; omega
        · rcases H.blk _ _ hg with ⟨_, h2⟩ | ⟨_, _, _, _, _, h2, _⟩
          · rw [h2] at hx; cases hx
          · have := h2 _ _ hx; omega
      · show (σ.f.add b lo l).c b o = none
        rw [Fz.add_out (.inr (by omega))]; exact hF o (by omega)
    · rename_i e
      refine (H.blk j blk hj).mono hle' (fun r y hy => hother y (apart e hj hy) (H.blk_lt hj hy)) (fun r y _ hy => ⟨Fz.add_ne (apart e hj hy), rfl⟩) fun n => ?_
      show (if _ then _ else _) = _
      rw [if_neg (fun h => e h.1)]
  · have self : ∀ {r y : Nat}, (Blk.own m2 t).loc (σ.own tok m2 b sz lo l) tok r = some y → y = b := fun {r y} hl => by simpa [Blk.loc, Sg.own] using hl.symm
    rw [Heap.get_set lt] at hi hj
    split at hi <;> split at hj
    · rename_i e1 e2; rw [e1, e2]
    · rename_i e1 e2
      simp only [Option.some.injEq] at hi; subst hi; subst e1
      rw [locne e2] at lj
      exact absurd (self li) (apart e2 hj lj)
    · rename_i e1 e2
      simp only [Option.some.injEq] at hj; subst hj; subst e2
      rw [locne e1] at li
      exact absurd (self lj) (apart e1 hi li)
    · rename_i e1 e2
      rw [locne e1] at li; rw [locne e2] at lj
      exact H.inj i j r s bi bj y hi hj li lj hy
  · by_cases e : b' = b
    · subst e
      by_cases hin : lo ≤ o ∧ o < lo + l.length
      · obtain ⟨j, rfl⟩ := Nat.exists_eq_add_of_le hin.1
        have hj : j < l.length := by omega
        have : (σ.f.add b' lo l).c b' (lo + j) = some v := hv
        rw [Fz.add_in hj] at this
        exact ⟨cc, t', fz, hb, by rw [hnew j hj, List.getElem?_eq_getElem hj]; exact this⟩
      · have : (σ.f.add b' lo l).c b' o = some v := hv
        rw [Fz.add_out (by omega)] at this
        exact ⟨cc, t', fz, hb, hold o v this⟩
    · have : (σ.f.add b lo l).c b' o = some v := hv
      rw [Fz.add_ne e] at this
      obtain ⟨cc2, t2, fz2, k1, k2⟩ := H.frz.c _ _ _ this
      exact ⟨cc2, t2, fz2, by rw [hother b' e (Array.getElem?_eq_some_iff.1 k1).1]; exact k1, k2⟩
  · have hem : σ.f.m b' = some es := he
    have hne : b' ≠ b := fun e => by subst e; rw [hFm] at hem; cases hem
    obtain ⟨cl, k⟩ := H.frz.m _ _ hem
    exact ⟨cl, by rw [hother b' hne (Array.getElem?_eq_some_iff.1 k).1]; exact k⟩
  · refine ⟨fun b' hb' => ?_, H.old.2⟩
    have hne : b' ≠ b := by omega
    obtain ⟨k1, k2⟩ := H.old.1 b' hb'
    exact ⟨(Fz.add_ne hne).trans k1, k2⟩
  · simp only [Sg.own] at hx
    split at hx
    · rename_i e; rw [e.1]; exact lt
    · exact H.tdom i n x hx

theorem clo_frel : ∀ (n : Nat) {v : Value}, cloN n v = true → ∀ {σ : Sg} {v' : Value}, VRel σ v v' → FRel σ.f v v'
  | 0, v, h, _, _, _ => by simp [cloN] at h
  | n + 1, v, h, σ, v', hv => by
    have lst : ∀ {l l' : List Value}, l.all (cloN n) = true → LRel σ l l' → ∀ j : Nat, FRel σ.f (l.getD j Go.undef) (l'.getD j Go.undef) := fun {l l'} hl hr => by
      induction hr with
      | nil => intro j; simpa using FRel.undef σ.f
      | cons h _ ih =>
        simp only [List.all_cons, Bool.and_eq_true] at hl
        intro j
        cases j with
        | zero => simpa using clo_frel n hl.1 h
        | succ j => simpa using ih hl.2 j
    cases v with
    | agg cs => cases hv with
      | agg ha hh =>
        simp only [cloN] at h
        exact .agg ha fun j => by simpa using lst h (VRel.agg_list (.agg ha hh)) j
    | tuple cs => cases hv with
      | tuple ha hh =>
        simp only [cloN] at h
        exact .tuple ha fun j _ => by simpa using lst h (VRel.tuple_list (.tuple ha hh)) j
    | func fn a c => cases hv with
      | func _ ha hc h1 h2 =>
        simp only [cloN, Bool.and_eq_true] at h
        obtain ⟨_, k1, k2⟩ := VRel.func_lists (.func fn ha hc h1 h2)
        exact .func fn ha hc (fun j => by simpa using lst h.1 k1 j) fun j => by simpa using lst h.2 k2 j
    | iface t v =>
      cases hv with
      | iface _ ht hh => simp only [cloN, ht] at h; exact .iface t ht (clo_frel n h hh)
      | frz _ ht hh => exact hh
      | osnil => simp [cloN, isV] at h
      | osome => simp [cloN, isV] at h
      | rsl => simp [cloN, isV] at h
      | rnil => simp [cloN, isV] at h
      | rpt => simp [cloN, isV] at h
      | rch => simp [cloN, isV] at h
    | pointer a => cases hv <;> first | exact .pnil | simp [cloN] at h
    | slice a x y => cases hv <;> first | exact .snil _ _ | simp [cloN] at h
    | map r => cases hv <;> first | exact .mnil | simp [cloN] at h
    | chan r => cases hv; exact .cnil
    | bool b => cases hv; exact .bool _
    | int k x => cases hv; exact .int _ _
    | float k x => cases hv; exact .float _ _
    | complex k x y => cases hv; exact .complex _ _ _
    | string s => cases hv; exact .string _
    | nilFunc => cases hv; exact .nilFunc
    | nilIface => cases hv; exact .nilIface

/-! ### append: what the model does -/
section
variable {w : World} {argTypes : Array TypeId} {st xt elem ty : TypeId} {ti : TypeInfo} {zv : Value} {x' : Value} {base' : Option Addr} {sl cap' n : Nat} {old' new' : List Value}

theorem run_fits (h0 : argTypes[0]? = some st) (h1 : argTypes[1]? = some xt) (hus : P.underlying st = some (.slice elem)) (hux : (∃ e, P.underlying xt = some (.slice e)) ∨ P.underlying xt = some .string) (hti : P.info? elem = some ti)
    (hlen : ∀ w, (Builtin.lenOf x').run P w = .ok n w) (hfit : sl + n ≤ cap') (hnew : (Builtin.firstCells ti.size n x').run P w = .ok new'.toArray w) {w' : World}
    (hst : ((match base' with | some a => storeCells (a.add (sl * ti.size)) new' | none => pure ()) : Sem Unit).run P w = .ok () w') :
    (Builtin.append_ argTypes ty #[.slice base' sl cap', x']).run P w = .ok (.slice base' (sl + n) cap') w' := by
  have hsz : sizeI P elem = some ti.size := by simp [sizeI, hti]
  unfold Builtin.append_
  simp only [h0, List.getElem?_toArray, List.getElem?_cons_zero, List.getElem?_cons_succ, Sem.run_bind, run_underlying hus, Result.andThen_ok]
  simp only [sizeOf_run hsz, Result.andThen_ok, h1]
  rcases hux with ⟨e, hx2⟩ | hx2 <;>
  (simp only [Sem.run_bind, run_underlying hx2, Result.andThen_ok, Sem.run_pure, Bool.false_eq_true, if_false, hlen, hfit, if_true, Bool.not_false, hnew]
   cases base' with
   | none => simp only [Sem.run_pure] at hst; simp at hst; subst hst; simp
   | some a => simp only at hst; simp only [Sem.run_bind, hst, Result.andThen_ok, Sem.run_pure])

/-- The room of a new array, as the tape has it. -/
def roomOf (w : World) (need cap' : Nat) (elem : TypeId) : Nat := (Question.appendCap need cap' elem).cut (w.tape w.drawn (Question.appendCap need cap' elem))
theorem roomOf_ge (w : World) (need cap' : Nat) (elem : TypeId) : need ≤ roomOf w need cap' elem := cap_ge _ _ _ _
def restOf (zv : Value) (k : Nat) : List Value := (Builtin.zeroCells zv.cells k).toList
theorem restOf_length (zv : Value) (k : Nat) : (restOf zv k).length = k * zv.cells.size := by simp [restOf, Builtin.zeroCells]

theorem run_grows (h0 : argTypes[0]? = some st) (h1 : argTypes[1]? = some xt) (hus : P.underlying st = some (.slice elem)) (hux : (∃ e, P.underlying xt = some (.slice e)) ∨ P.underlying xt = some .string) (hti : P.info? elem = some ti)
    (hz : ti.zero = some zv) (hlen : ∀ w, (Builtin.lenOf x').run P w = .ok n w) (hneed : cap' < sl + n) (hbig : (sl + n) * (ti.bytes + 1) ≤ 1099511627776)
    (hold : (Builtin.firstCells ti.size sl (.slice base' sl cap')).run P { w with drawn := w.drawn + 1 } = .ok old'.toArray { w with drawn := w.drawn + 1 })
    (hnew : (Builtin.firstCells ti.size n x').run P { w with drawn := w.drawn + 1 } = .ok new'.toArray { w with drawn := w.drawn + 1 }) :
    (Builtin.append_ argTypes ty #[.slice base' sl cap', x']).run P w =
      .ok (.slice (some ⟨w.heap.size, 0, none⟩) (sl + n) (roomOf w (sl + n) cap' elem)) (World.alloc { w with drawn := w.drawn + 1 } (.cells (old' ++ new' ++ restOf zv (roomOf w (sl + n) cap' elem - (sl + n))).toArray elem)) := by
  have hb1 : (sl + n) * ti.bytes ≤ 1099511627776 := Nat.le_trans (Nat.mul_le_mul_left _ (by omega)) hbig
  have hb2 : sl + n ≤ 1099511627776 := Nat.le_trans (Nat.le_mul_of_pos_right _ (by omega)) hbig
  have hsz : sizeI P elem = some ti.size := by simp [sizeI, hti]
  have hnn : ¬ (sl + n ≤ cap') := by omega
  have hnext : ¬ (Builtin.nextslicecap (sl + n) cap' * ti.bytes > 2 ^ 48) := by
    have := nextcap_le (sl + n) cap' hneed
    have h3 : Builtin.nextslicecap (sl + n) cap' * ti.bytes ≤ 5 * (sl + n) * ti.bytes := Nat.mul_le_mul_right _ this
    rw [Nat.mul_assoc] at h3
    omega
  have hmax : ¬ (((sl + n : Nat) : Int) > IntKind.i64.max) := by rw [IntKind.max_i64]; omega
  have hzr : ∀ w, (zeroValue elem).run P w = .ok zv w := fun w => by simp [zeroValue, typeInfo, hti, hz]
  have hz64 : ∀ w, (typeInfo elem).run P w = .ok ti w := fun w => by simp [typeInfo, hti]
  have hb0 : ¬ (((sl + n : Nat) : Int) > IntKind.i64.max ∧ (False ∨ ti.bytes = 0)) := fun h => hmax h.1
  have hch : (choose (Question.appendCap (sl + n) cap' elem)).run P w = .ok (roomOf w (sl + n) cap' elem) { w with drawn := w.drawn + 1 } := by simp [choose, Sem.run, Question.forced, roomOf]
  have he : old'.toArray ++ new'.toArray ++ Builtin.zeroCells zv.cells (roomOf w (sl + n) cap' elem - (sl + n)) = (old' ++ new' ++ restOf zv (roomOf w (sl + n) cap' elem - (sl + n))).toArray := by
    apply Array.toList_inj.1; simp [restOf]
  rcases hux with ⟨e, hx⟩ | hx <;>
  (unfold Builtin.append_
   simp only [h0, List.getElem?_toArray, List.getElem?_cons_zero, List.getElem?_cons_succ, Sem.run_bind, run_underlying hus, Result.andThen_ok]
   simp only [sizeOf_run hsz, Result.andThen_ok, h1]
   simp only [Sem.run_bind, run_underlying hx, Result.andThen_ok, Sem.run_pure, Bool.false_eq_true, if_false, hlen, hnn, hz64, hb0, hnext, hch, askRoom_run, hold, Bool.not_false, if_true, hnew, hzr]
   simp only [newRow, newObj, Sem.run_bind, Sem.run, Result.andThen_ok, Sem.run_pure]
   rw [he]
   rfl)
end

theorem HRel.set_same {w : World} {σ : Sg} {h : Heap} (H : HRel P B w0 σ h w) {i : Nat} {b : Blk} (hg : h.get i = some b) : HRel P B w0 σ (h.set i b) w := by
  have e : ∀ j, (h.set i b).get j = h.get j := fun j => by
    rw [Heap.get_set (Heap.lt_of_get hg)]
    split
    · rename_i e; subst e; exact hg.symm
    · rfl
  exact ⟨H.below, H.size, H.dom, H.codom, H.glob, fun j b hj => H.blk j b (by rw [← e]; exact hj), fun i j r s bi bj b hi hj => H.inj i j r s bi bj b (by rw [← e]; exact hi) (by rw [← e]; exact hj), H.frz, H.old, H.tdom⟩

/-- Reading. -/
theorem rd_sound_d {P : Program} {B : Nat} {w0 : Org} {w : World} {σ : Sg} {h : Heap} (H : HRel P B w0 σ h w) {a a' : Addr} {n : Nat} {cs : List Value}
    (hr : rdCells h a n = some cs) (ha : ARel σ a a') : ∃ cs', (∀ d, (loadCells a' n).run P { w with drawn := d } = .ok cs'.toArray { w with drawn := d }) ∧ LRel σ cs cs' ∧ cs.length = n := by
  unfold rdCells at hr
  split at hr
  · rename_i cells t m hg hs
    have key : m ≠ .dead → (if a.off + n ≤ cells.length then some ((cells.drop a.off).take n) else none) = some cs →
        ∃ cs', (∀ d, (loadCells a' n).run P { w with drawn := d } = .ok cs'.toArray { w with drawn := d }) ∧ LRel σ cs cs' ∧ cs.length = n := fun hm hr => by
      split at hr
      · rename_i hle
        simp only [Option.some.injEq] at hr
        obtain ⟨b, o, k, cc, t', fz, h1, h2, h3, h4⟩ := (H.blk _ _ hg).read hm
        obtain ⟨b', o', k', g1, _, rfl⟩ := ha
        rw [h1] at g1; simp only [Option.some.injEq, Spot.mk.injEq] at g1
        obtain ⟨rfl, rfl, rfl⟩ := g1
        have hlen : ((((cc.toList.drop o).take cells.length).drop a.off).take n).length = n := by simp; omega
        refine ⟨(((cc.toList.drop o).take cells.length).drop a.off).take n, ?_, ?_, ?_⟩
        · intro d
          have h2' : ({ w with drawn := d } : World).heap[b]? = some (.cells cc t' fz) := h2
          have := run_loadCells_list (P := P) (w := { w with drawn := d }) ⟨b, o + a.off, none⟩ ((((cc.toList.drop o).take cells.length).drop a.off).take n) (fun j v hv => by
            rw [Addr.add_none, cell_of h2']
            have hj : j < n := by
              have := (List.getElem?_eq_some_iff.1 hv).1
              omega
            rw [List.getElem?_take_of_lt hj, List.getElem?_drop, List.getElem?_take_of_lt (by omega), List.getElem?_drop] at hv
            rw [← hv, Array.getElem?_toList]
            congr 1; omega)
          rw [hlen] at this
          exact this
        · rw [← hr]; exact (h4.drop _).take _
        · rw [← hr]; simp; omega
      · cases hr
    cases m with
    | dead => simp at hr
    | ro => exact key (by simp) hr
    | fix => exact key (by simp) hr
    | grow => exact key (by simp) hr
  · cases hr

theorem first_sound_d {w : World} {σ : Sg} {h : Heap} (H : HRel P B w0 σ h w) {size n len : Nat} {x x' : Value} {new : List Value} (hf : firstI h size n x = some new) (hl : lenI x = some len) (hn : n ≤ len) (hx : VRel σ x x') :
    ∃ new', (∀ d, (Builtin.firstCells size n x').run P { w with drawn := d } = .ok new'.toArray { w with drawn := d }) ∧ LRel σ new new' ∧ ((∃ a l c, x = .slice (some a) l c) → new.length = n * size) := by
  cases x <;> simp only [firstI] at hf <;> try (cases hf; done)
  case string s =>
    cases hx
    simp only [Option.some.injEq] at hf; subst hf
    refine ⟨_, ?_, LRel.map (f := fun b : UInt8 => Value.int .u8 b.toNat) (g := fun b : UInt8 => Value.int .u8 b.toNat) fun b _ => .int _ _, fun ⟨a, l, c, e⟩ => by cases e⟩
    intro d
    simp only [Builtin.firstCells, Sem.run_pure]
    congr 1
    apply Array.toList_inj.1
    rw [Array.toList_map, bytes_take]
  case slice a l c =>
    simp only [lenI, Option.some.injEq] at hl; subst hl
    cases a with
    | none =>
      simp only [Option.some.injEq] at hf; subst hf
      cases hx
      exact ⟨[], by simp [Builtin.firstCells], .nil, fun ⟨a, l, c, e⟩ => by cases e⟩
    | some ad =>
      obtain ⟨ad', c', rfl, hA⟩ := slice_inv hx
      cases n with
      | zero =>
        simp only [Option.some.injEq] at hf; subst hf
        exact ⟨[], by simp [Builtin.firstCells, loadCells, loadCellsFrom], .nil, fun _ => by simp⟩
      | succ n =>
        obtain ⟨cs', k1, k2, k3⟩ := rd_sound_d H hf (hA (by omega))
        exact ⟨cs', fun d => by simp only [Builtin.firstCells]; exact k1 d, k2, fun _ => k3⟩

theorem getD_append_frel {F : Fz} {a a' : Array Value} {b b' : List Value} (hs : a.size = a'.size) (h : ∀ j : Nat, FRel F (a.getD j undef) (a'.getD j undef)) (k : ∀ j : Nat, FRel F (b.getD j undef) (b'.getD j undef)) :
    ∀ j : Nat, FRel F ((a ++ b.toArray).getD j undef) ((a' ++ b'.toArray).getD j undef) := fun j => by
  have e : ∀ (a : Array Value) (b : List Value), (a ++ b.toArray).getD j undef = if j < a.size then a.getD j undef else b.getD (j - a.size) undef := fun a b => by
    simp only [Array.getD_eq_getD_getElem?, Array.getElem?_append, List.getElem?_toArray, List.getD]
    split <;> rfl
  rw [e, e, ← hs]
  by_cases hj : j < a.size
  · rw [if_pos hj, if_pos hj]; exact h j
  · rw [if_neg hj, if_neg hj]; exact k _

/-- append, to an array that this slice alone appends to. -/
theorem own_append {w : World} {σ : Sg} {h : Heap} (H : HRel P B w0 σ h w) {argTypes : Array TypeId} {st xt elem ty t : TypeId} {ti : TypeInfo} {zv : Value} {s' x' : Value} {tok m n k : Nat} {cs : Array Value} {new new' : List Value}
    (h0 : argTypes[0]? = some st) (h1 : argTypes[1]? = some xt) (hus : P.underlying st = some (.slice elem)) (hux : (∃ e, P.underlying xt = some (.slice e)) ∨ P.underlying xt = some .string) (hti : P.info? elem = some ti)
    (hz : ti.zero = some zv) (hzs : zv.cells.size = ti.size) (hpos : 1 ≤ ti.size) (hte : elem = t) (hg : h.get tok = some (.own m t)) (hs : VRel σ (osl tok ti.size n cs) s') (hcm : cs.size = m)
    (hlen : ∀ w, (Builtin.lenOf x').run P w = .ok k w) (hbig : (n + k) * (ti.bytes + 1) ≤ 1099511627776)
    (hnew : ∀ d, (Builtin.firstCells ti.size k x').run P { w with drawn := d } = .ok new'.toArray { w with drawn := d }) (hrel : ∀ j : Nat, FRel σ.f (new.getD j undef) (new'.getD j undef)) (hln : new.length = k * ti.size) (hln' : new'.length = k * ti.size) (hone : new'.all Go.Ideal.oneCell = true) :
    ∃ σ' w' v', σ.le σ' ∧ (Builtin.append_ argTypes ty #[s', x']).run P w = .ok v' w' ∧ VRel σ' (osl tok ti.size ((n + k : Nat) : Int) (cs ++ new.toArray)) v' ∧ HRel P B w0 σ' (h.set tok (.own (m + new.length) t)) w' := by
  have hnew0 : (Builtin.firstCells ti.size k x').run P w = .ok new'.toArray w := hnew w.drawn
  -- what s' is
  have shape : ∃ (base' : Option Addr) (cap' : Nat) (ms : Array Value), s' = .slice base' n cap' ∧ n * ti.size = m ∧ n ≤ cap' ∧ cs.size = ms.size ∧ (∀ j : Nat, FRel σ.f (cs.getD j undef) (ms.getD j undef)) ∧
      ((base' = none ∧ n = 0 ∧ cap' = 0) ∨ ∃ b sz, base' = some ⟨b, 0, none⟩ ∧ σ.T tok m = some (b, sz) ∧ cap' * ti.size ≤ sz ∧ ∀ j, j < ms.size → σ.f.c b j = some (ms.getD j undef)) := by
    generalize ho : osl tok ti.size n cs = q at hs
    cases hs with
    | osnil tok2 es2 =>
      simp only [osl, Value.iface.injEq, Value.tuple.injEq, Array.mk.injEq, List.cons.injEq, Value.int.injEq, Value.agg.injEq, true_and, and_true] at ho
      obtain ⟨e1, e2, e3, e4⟩ := ho
      subst e4
      have : n = 0 := by omega
      subst this
      exact ⟨none, 0, #[], rfl, by simpa using hcm, Nat.le_refl _, rfl, fun j => by simpa using FRel.undef σ.f, .inl ⟨rfl, rfl, rfl⟩⟩
    | osome hs hF hh hT hp hn hc hnc =>
      rename_i cells ms tok2 es2 b sz n2 c'
      simp only [osl, Value.iface.injEq, Value.tuple.injEq, Array.mk.injEq, List.cons.injEq, Value.int.injEq, Value.agg.injEq, true_and, and_true] at ho
      obtain ⟨e1, e2, e3, e4⟩ := ho
      have e1 : tok = tok2 := by omega
      have e2 : ti.size = es2 := by omega
      have e3 : n = n2 := by omega
      subst e1; subst e2; subst e3; subst e4
      exact ⟨_, c', ms, rfl, by rw [hn, hcm], hnc, hs, hh, .inr ⟨b, sz, rfl, by rw [← hcm]; exact hT, hc, hF⟩⟩
    | frz t' ht hf => exact absurd ho (by intro ho; cases ho; cases hf with | iface _ h0 _ => rw [ht] at h0; cases h0)
    | iface t' ht _ => exact absurd ho (by intro ho; cases ho; simp [isV] at ht)
    | _ => cases ho
  obtain ⟨base', cap', ms, rfl, hnm, hncap, hsz, hcells, hbase⟩ := shape
  have hm2 : m + new.length = (n + k) * ti.size := by rw [hln, ← hnm, Nat.add_mul]
  have hcs2 : (cs ++ new.toArray).size = m + new.length := by simp [hcm]
  have hfrel := getD_append_frel hsz hcells hrel
  by_cases hk : k = 0
  · subst hk
    have en : new = [] := List.length_eq_zero_iff.1 (by simpa using hln)
    have en' : new' = [] := List.length_eq_zero_iff.1 (by simpa using hln')
    subst en; subst en'
    refine ⟨σ, w, _, Sg.le_refl σ, run_fits (base' := base') (new' := []) h0 h1 hus hux hti hlen (by omega) hnew0 ?_, by simpa using hs, by simpa using H.set_same hg⟩
    cases base' with
    | none => simp
    | some a => simp [storeCells]
  have hlt : m < m + new.length := by
    have : 0 < k * ti.size := Nat.mul_pos (by omega) (by omega)
    omega
  have anew : cap' < n + k → (Builtin.firstCells ti.size n (.slice base' n cap')).run P { w with drawn := w.drawn + 1 } = .ok ms.toList.toArray { w with drawn := w.drawn + 1 } → 
      ∃ σ' w' v', σ.le σ' ∧ (Builtin.append_ argTypes ty #[.slice base' n cap', x']).run P w = .ok v' w' ∧ VRel σ' (osl tok ti.size ((n + k : Nat) : Int) (cs ++ new.toArray)) v' ∧ HRel P B w0 σ' (h.set tok (.own (m + new.length) t)) w' := fun hneed hold => by
    have hrun := run_grows (ty := ty) h0 h1 hus hux hti hz hlen hneed hbig hold (hnew _)
    have hge := roomOf_ge w (n + k) cap' elem
    have hall : (ms.toList ++ new' ++ restOf zv (roomOf w (n + k) cap' elem - (n + k))).length = roomOf w (n + k) cap' elem * ti.size := by
      simp only [List.length_append, restOf_length, hzs, Array.length_toList, ← hsz, hcm, hln']
      rw [← hnm, ← Nat.add_mul, ← Nat.add_mul]; congr 1; omega
    have hB2 := HRel.own (σ := σ) (w := w) (w' := World.alloc { w with drawn := w.drawn + 1 } (.cells (ms.toList ++ new' ++ restOf zv (roomOf w (n + k) cap' elem - (n + k))).toArray elem)) H hg (m2 := m + new.length) (b := w.heap.size) (lo := 0) (l := ms.toList ++ new') (sz := roomOf w (n + k) cap' elem * ti.size) hlt H.size
      (H.drew.below.alloc H.size _) (by show w.heap.size ≤ (w.heap.push _).size; rw [Array.size_push]; omega)
      (fun j hj hlt => by show (w.heap.push _)[j]? = _; rw [Array.getElem?_push, if_neg hj])
      (cc := (ms.toList ++ new' ++ restOf zv (roomOf w (n + k) cap' elem - (n + k))).toArray) (t' := elem) (fz := (0, 0)) (by show (w.heap.push _)[w.heap.size]? = _; simp) (by rw [List.size_toArray, hall]) (okFrozen_zero _) (by rw [List.size_toArray, hall, hm2]; exact Nat.mul_le_mul_right _ hge)
      (by simp only [List.length_append, Array.length_toList, ← hsz, hcm, hln, hln']; omega)
      (fun j hj => by rw [List.getElem?_toArray, Nat.zero_add, List.getElem?_append_left hj]) (fun o v hv => by rw [(H.frz.off (Nat.le_refl _)).1] at hv; cases hv) (.inr (Nat.le_refl _)) (fun o _ => (H.frz.off (Nat.le_refl _)).1 o) (H.frz.off (Nat.le_refl _)).2 hte
    refine ⟨_, _, _, hB2.2, hrun, ?_, hB2.1⟩
    refine .osome (ms := ms ++ new'.toArray) (b := w.heap.size) (sz := roomOf w (n + k) cap' elem * ti.size) (by simp [hsz, hln, hln']) (fun j hj => ?_) (fun j => (hfrel j).mono hB2.2.f) (by rw [hcs2]; simp [Sg.own]) (by rw [hcs2]; omega) (by rw [hcs2, hm2]) (Nat.le_refl _) hge
    have hj' : j < (ms.toList ++ new').length := by simpa using hj
    have := Fz.add_in (F := σ.f) (b := w.heap.size) (lo := 0) hj'
    rw [Nat.zero_add] at this
    refine this.trans ?_
    simp only [Array.getD_eq_getD_getElem?, Array.getElem?_append, List.getElem?_toArray]
    rw [← List.getElem?_eq_getElem hj', List.getElem?_append]
    simp only [Array.length_toList, Array.getElem?_toList]
    split
    · rename_i hl; simp [Array.getElem?_eq_getElem hl]
    · rename_i hl
      have : j - ms.size < new'.length := by simp at hj; omega
      simp [List.getElem?_eq_getElem this]
  rcases hbase with ⟨rfl, rfl, rfl⟩ | ⟨b, sz, rfl, hT, hcsz, hF⟩
  · refine anew (by omega) ?_
    have : ms = #[] := by
      have : ms.size = 0 := by rw [← hsz, hcm]; omega
      exact Array.eq_empty_of_size_eq_zero this
    subst this
    simp [Builtin.firstCells]
  · -- the block
    obtain ⟨cc, t', fz, q2, q3, q4, q5, q6, q7, q8, q9, hccs⟩ : ∃ cc t' fz, (∀ m' x, σ.T tok m' = some x → m' ≤ m) ∧ B ≤ b ∧ w.heap[b]? = some (.cells cc t' fz) ∧ okFrozen cc.size fz ∧ m ≤ cc.size ∧ (∀ o, m ≤ o → σ.f.c b o = none) ∧ σ.f.m b = none ∧ t' = t ∧ cc.size = sz := by
      rcases H.blk _ _ hg with ⟨_, h2⟩ | ⟨b2, cc, t', fz, p1, p2, p3, p4, p5, p6, p7, p8⟩
      · rw [h2] at hT; cases hT
      · rw [hT] at p1; simp only [Option.some.injEq, Prod.mk.injEq] at p1; obtain ⟨rfl, rfl⟩ := p1
        exact ⟨cc, t', fz, p2, p3, p4, p5, p6, p7, p8.1, p8.2, rfl⟩
    have hbs : b < w.heap.size := (Array.getElem?_eq_some_iff.1 q4).1
    have hloc : (Blk.own m t).loc σ tok 0 = some b := by simp [Blk.loc, hT]
    have hms : ∀ j, j < ms.size → cc[j]? = some (ms.getD j undef) := fun j hj => by
      obtain ⟨cc2, t2, fz2, k1, k2⟩ := H.frz.c _ _ _ (hF j hj)
      rw [q4] at k1; simp only [Option.some.injEq, Obj.cells.injEq] at k1
      obtain ⟨rfl, _, _⟩ := k1
      exact k2
    by_cases hfit : n + k ≤ cap'
    · have hsp : m + new'.length ≤ cc.size := by
        rw [hln', ← hln, hm2, hccs]
        exact Nat.le_trans (Nat.mul_le_mul_right _ hfit) hcsz
      have hrun := run_storeCells_put (P := P) (p := m) new' 0 cc w q4 (by omega) q5 hone
      have hsl : (splice cc.toList m new').length = cc.size := by rw [splice_length _ _ _ (by simp; omega)]; simp
      have hget : ∀ o, (splice cc.toList m new').toArray[o]? = if o < m then cc[o]? else if o < m + new'.length then new'[o - m]? else cc[o]? := fun o => by
        rw [List.getElem?_toArray]
        unfold splice
        rw [List.append_assoc, List.getElem?_append]
        have e1 : (List.take m cc.toList).length = m := by simp; omega
        rw [e1]
        split
        · rename_i hl; rw [List.getElem?_take_of_lt hl, Array.getElem?_toList]
        · rename_i hl
          rw [List.getElem?_append]
          split
          · rename_i hl2; rw [if_pos (by omega)]
          · rename_i hl2
            rw [if_neg (by omega), List.getElem?_drop, Array.getElem?_toList]
            congr 1; omega
      have hB2 := HRel.own (σ := σ) (w := w) (w' := putBlock w b (.cells (splice cc.toList m new').toArray t' fz)) H hg (m2 := m + new.length) (b := b) (lo := m) (l := new') (sz := sz) hlt q3 (below_putBlock H.below q3 _) (by simp [putBlock])
        (fun j hj _ => by rw [putBlock_get _ hbs, if_neg hj]) (cc := (splice cc.toList m new').toArray) (t' := t') (fz := fz) (by rw [putBlock_get _ hbs, if_pos rfl]) (by rw [List.size_toArray, hsl, hccs]) (by rw [List.size_toArray, hsl]; exact q5)
        (by rw [List.size_toArray, hsl, hln, ← hln']; exact hsp) (by rw [hln, hln']) (fun j hj => by rw [hget, if_neg (by omega), if_pos (by omega), Nat.add_sub_cancel_left])
        (fun o v hv => by
          have ho : o < m := by
            rcases Nat.lt_or_ge o m with h | h
            · exact h
            · rw [q7 o h] at hv; cases hv
          obtain ⟨cc2, t2, fz2, k1, k2⟩ := H.frz.c _ _ _ hv
          rw [q4] at k1; simp only [Option.some.injEq, Obj.cells.injEq] at k1
          obtain ⟨rfl, _, _⟩ := k1
          rw [hget, if_pos ho]; exact k2) (.inl hloc) q7 q8 q9
      refine ⟨_, _, _, hB2.2, run_fits (base' := some ⟨b, 0, none⟩) (w' := putBlock w b (.cells (splice cc.toList m new').toArray t' fz)) h0 h1 hus hux hti hlen hfit hnew0 ?_, ?_, hB2.1⟩
      · simp only [Addr.add_none, Nat.zero_add, hnm]
        simpa using hrun
      · refine .osome (ms := ms ++ new'.toArray) (b := b) (sz := sz) (by simp [hsz, hln, hln']) (fun j hj => ?_) (fun j => (hfrel j).mono hB2.2.f) (by rw [hcs2]; simp [Sg.own]) (by rw [hcs2]; omega) (by rw [hcs2, hm2]) hcsz hfit
        show (σ.f.add b m new').c b j = _
        have hmss : ms.size = m := by rw [← hsz, hcm]
        rcases Nat.lt_or_ge j m with hjm | hjm
        · rw [Fz.add_out (.inl hjm), hF j (by omega)]
          simp only [Array.getD_eq_getD_getElem?, Array.getElem?_append, if_pos (show j < ms.size by omega)]
        · obtain ⟨i, rfl⟩ := Nat.exists_eq_add_of_le hjm
          have hi : i < new'.length := by simp at hj; omega
          rw [Fz.add_in hi]
          simp only [Array.getD_eq_getD_getElem?, Array.getElem?_append, if_neg (show ¬ m + i < ms.size by omega), hmss, Nat.add_sub_cancel_left, List.getElem?_toArray, List.getElem?_eq_getElem hi, Option.getD_some]
          rw [if_neg (by omega)]; rfl
    · refine anew (by omega) ?_
      have hl := run_loadCells_list (P := P) (w := { w with drawn := w.drawn + 1 }) ⟨b, 0, none⟩ ms.toList (fun j v hv => by
        have hj : j < ms.size := by have := (List.getElem?_eq_some_iff.1 hv).1; simpa using this
        rw [Addr.add_none, Nat.zero_add]
        have : ({ w with drawn := w.drawn + 1 } : World).cell? ⟨b, j, none⟩ = cc[j]? := cell_of (w := { w with drawn := w.drawn + 1 }) q4
        rw [this, hms j hj]
        rw [Array.getElem?_toList] at hv
        simp only [Array.getD_eq_getD_getElem?, hv, Option.getD_some])
      rw [Array.length_toList, ← hsz, hcm, ← hnm] at hl
      simp only [Builtin.firstCells]
      exact hl

end Go.Ideal

end
section
/- Pools: rows of memory of their own, however many: operations on them, and their soundness. Over any program. -/
set_option linter.unusedVariables false
set_option linter.unusedSimpArgs false
namespace Go.Ideal
open Go.RowKit

variable {P : Program} {B : Nat} {w0 : Org}

/-! ### what values are related to -/
theorem asRp_rel {σ : Sg} {x x' : Value} {p r off : Nat} (h : asRp x = some (p, r, off)) (hx : VRel σ x x') : ∃ b sz, x' = .pointer (some ⟨b, off, none⟩) ∧ σ.T p (r + 1) = some (b, sz) := by
  unfold asRp at h
  split at h
  · rename_i t a
    split at h
    · rename_i k1 p1 k2 r1 k3 o1 ha
      simp only [Option.some.injEq, Prod.mk.injEq] at h; obtain ⟨rfl, rfl, rfl⟩ := h
      obtain rfl : a = #[.int k1 p1, .int k2 r1, .int k3 o1] := Array.toList_inj.1 ha
      cases hx with
      | iface _ ht _ => simp [isV] at ht
      | frz _ ht hf => cases hf with | iface _ ht _ => simp [isV] at ht
      | rpt hT => exact ⟨_, _, rfl, by simpa using hT⟩
    · cases h
  · cases h
def RsRel (σ : Sg) (p r es off : Nat) (n : Int) (x' : Value) : Prop := ∃ m : Nat, n = m ∧ ((∃ a' y, x' = .slice a' 0 0 ∧ m = 0 ∧ off = 0 ∧ σ.T p 0 = some y) ∨ ∃ b sz c', x' = .slice (some ⟨b, off, none⟩) m c' ∧ σ.T p (r + 1) = some (b, sz) ∧ off + c' * es ≤ sz ∧ m ≤ c')
theorem asRs_rel {σ : Sg} {x x' : Value} {p r es off : Nat} {n : Int} (h : asRs x = some (p, r, es, off, n)) (hx : VRel σ x x') : RsRel σ p r es off n x' := by
  unfold asRs at h
  split at h
  · rename_i t a
    split at h
    · rename_i k1 p1 k2 r1 k3 e1 k4 o1 k5 n1 ha
      simp only [Option.some.injEq, Prod.mk.injEq] at h; obtain ⟨rfl, rfl, rfl, rfl, rfl⟩ := h
      obtain rfl : a = #[.int k1 p1, .int k2 r1, .int k3 e1, .int k4 o1, .int k5 n1] := Array.toList_inj.1 ha
      cases hx with
      | iface _ ht _ => simp [isV] at ht
      | frz _ ht hf => cases hf with | iface _ ht _ => simp [isV] at ht
      | rsl hT hc hnc => exact ⟨_, rfl, .inr ⟨_, _, _, rfl, by simpa using hT, by simpa using hc, hnc⟩⟩
      | rnil hT r es a' => exact ⟨0, rfl, .inl ⟨a', _, rfl, rfl, rfl, by simpa using hT⟩⟩
    · cases h
  · cases h

/-! ### rows -/
theorem rowsAt_get {h : Heap} {p : Nat} {rows : List Row} (e : rowsAt h p = some rows) : h.get p = some (.pool rows) := by
  unfold rowsAt at e
  split at e
  · rename_i hg; simp only [Option.some.injEq] at e; subst e; exact hg
  · cases e
theorem liveAt_get {rows : List Row} {r : Nat} (h : liveAt rows r = true) : rows[r]? = some (.cells (cellsAt rows r)) := by
  unfold liveAt at h; unfold cellsAt
  split at h
  · rename_i cs e; rw [e]
  · cases h

theorem row_at {w : World} {σ : Sg} {h : Heap} (H : HRel P B w0 σ h w) {p r b sz : Nat} {rows : List Row} {cs : List Value} (hg : h.get p = some (.pool rows)) (hr : rows[r]? = some (.cells cs)) (hT : σ.T p (r + 1) = some (b, sz)) :
    ∃ cc t' fz, cc.size = sz ∧ B ≤ b ∧ w.heap[b]? = some (.cells cc t' fz) ∧ okFrozen cc.size fz ∧ cs.length ≤ cc.size ∧ LRel σ cs (cc.toList.take cs.length) ∧ σ.f.off b := by
  have := (H.blk _ _ hg).2.1 r _ hr
  rcases this with ⟨_, h2⟩ | ⟨b2, cc, t', fz, h1, h2, h3, h4, h5, h6, h7⟩
  · rw [h2] at hT; cases hT
  · rw [h1] at hT; simp only [Option.some.injEq, Prod.mk.injEq] at hT; obtain ⟨rfl, rfl⟩ := hT
    exact ⟨cc, t', fz, rfl, h2, h3, h4, h5, h6, h7⟩

theorem row_load {w : World} {σ : Sg} {h : Heap} (H : HRel P B w0 σ h w) {p r b sz : Nat} {rows : List Row} {cs : List Value} (hg : h.get p = some (.pool rows)) (hr : rows[r]? = some (.cells cs)) (hT : σ.T p (r + 1) = some (b, sz)) (off n : Nat) (hle : off + n ≤ cs.length) :
    ∃ cs' : List Value, (∀ d, (loadCells ⟨b, off, none⟩ n).run P { w with drawn := d } = .ok cs'.toArray { w with drawn := d }) ∧ LRel σ ((cs.drop off).take n) cs' ∧ cs'.length = n := by
  obtain ⟨cc, t', fz, rfl, h2, h3, h4, h5, h6, h7⟩ := row_at H hg hr hT
  have hlen : (((cc.toList.take cs.length).drop off).take n).length = n := by simp; omega
  refine ⟨((cc.toList.take cs.length).drop off).take n, fun d => ?_, (h6.drop off).take n, hlen⟩
  have h3' : ({ w with drawn := d } : World).heap[b]? = some (.cells cc t' fz) := h3
  have := run_loadCells_list (P := P) (w := { w with drawn := d }) ⟨b, off, none⟩ (((cc.toList.take cs.length).drop off).take n) (fun j v hv => by
    rw [Addr.add_none, cell_of h3']
    have hj : j < n := by have := (List.getElem?_eq_some_iff.1 hv).1; omega
    rw [List.getElem?_take_of_lt hj, List.getElem?_drop, List.getElem?_take_of_lt (by omega)] at hv
    rw [← hv, Array.getElem?_toList])
  rw [hlen] at this
  exact this

/-- One row's memory is exchanged, on both sides. -/
theorem HRel.putRow {w : World} {σ : Sg} {h : Heap} (H : HRel P B w0 σ h w) {p r b : Nat} {rows : List Row} {cs cs2 : List Value} {cc cc2 : Array Value} {t' : TypeId} {fz : Nat × Nat} (hg : h.get p = some (.pool rows)) (hr : rows[r]? = some (.cells cs)) (hT : σ.T p (r + 1) = some (b, cc.size))
    (hb : w.heap[b]? = some (.cells cc t' fz)) (hsz : cc2.size = cc.size) (hl : cs2.length ≤ cc2.size) (hrel : LRel σ cs2 (cc2.toList.take cs2.length)) :
    HRel P B w0 σ (h.set p (.pool (rows.set r (.cells cs2)))) (putBlock w b (.cells cc2 t' fz)) := by
  obtain ⟨ccx, tx, fx, k1, hB, k3, k4, k5, k6, hoff⟩ := row_at H hg hr hT
  rw [hb] at k3; simp only [Option.some.injEq, Obj.cells.injEq] at k3; obtain ⟨rfl, rfl, rfl⟩ := k3
  have hbs : b < w.heap.size := (Array.getElem?_eq_some_iff.1 hb).1
  have lt := Heap.lt_of_get hg
  have rlt := (List.getElem?_eq_some_iff.1 hr).1
  have lself := pool_loc hr (by intro h; cases h) hT
  have lsame : ∀ s, (Blk.pool (rows.set r (.cells cs2))).loc σ p s = (Blk.pool rows).loc σ p s := fun s => by
    simp only [Blk.loc, List.getElem?_set]
    by_cases e : r = s
    · subst e; rw [if_pos rfl, if_pos rlt, hr]
    · rw [if_neg e]
  have loc2 : ∀ {j s : Nat} {bj : Blk}, (h.set p (.pool (rows.set r (.cells cs2)))).get j = some bj → ∃ b0, h.get j = some b0 ∧ bj.loc σ j s = b0.loc σ j s := fun {j s bj} hj => by
    rw [Heap.get_set lt] at hj
    split at hj
    · rename_i e; simp only [Option.some.injEq] at hj; subst hj; subst e; exact ⟨_, hg, lsame s⟩
    · exact ⟨bj, hj, rfl⟩
  refine ⟨below_putBlock H.below hB _, by simpa [putBlock] using H.size, fun j y hj => H.dom j y hj, fun j y hj => by simpa [putBlock] using H.codom j y hj, H.glob, fun j bj hj => ?_, fun j k s s' bj bk y hj hk lj lk hy => ?_, H.frz.put hbs hoff, H.old, H.tdom⟩
  · rw [Heap.get_set lt] at hj
    split at hj
    · rename_i e
      simp only [Option.some.injEq] at hj; subst hj; subst e
      obtain ⟨q1, q2, q3⟩ := H.blk _ _ hg
      refine ⟨⟨q1.1, fun s hs => q1.2 s (by simpa using hs)⟩, fun s row hs => ?_, fun s s' y l1 l2 => q3 s s' y (by rw [← lsame]; exact l1) (by rw [← lsame]; exact l2)⟩
      rw [List.getElem?_set] at hs
      split at hs
      · rename_i e
        subst e
        simp only [Option.some.injEq] at hs; subst hs
        exact .inr ⟨b, cc2, t', fz, by rw [hT, hsz], hB, by rw [putBlock_get _ hbs, if_pos rfl], by rw [hsz]; exact k4, hl, hrel, hoff⟩
      · rename_i e
        have hrow := q2 s row hs
        have ne : ∀ y z, row ≠ .dead → σ.T j (s + 1) = some (y, z) → y ≠ b := fun y z hd hTs heq => by
          subst heq
          exact e (q3 r s y lself (pool_loc hs hd hTs))
        cases row with
        | dead => trivial
        | cells cs3 =>
          rcases hrow with k | ⟨y, ccy, ty, fy, g1, g2, g3, g4⟩
          · exact .inl k
          · exact .inr ⟨y, ccy, ty, fy, g1, g2, by rw [putBlock_get _ hbs, if_neg (ne y _ (by intro h; cases h) g1)]; exact g3, g4⟩
        | chan cap buf =>
          obtain ⟨y, z, bu, s1, s2, g1, g2, g3, g4⟩ := hrow
          exact ⟨y, z, bu, s1, s2, g1, g2, by rw [putBlock_get _ hbs, if_neg (ne y _ (by intro h; cases h) g1)]; exact g3, g4⟩
    · rename_i e
      refine (H.blk j bj hj).same fun s y hy => ?_
      rw [putBlock_get _ hbs, if_neg]
      intro heq
      subst heq
      exact e (H.inj j p s r bj _ y hj hg hy lself hB)
  · obtain ⟨b1, q1, q2⟩ := loc2 (s := s) hj
    obtain ⟨b2, r1, r2⟩ := loc2 (s := s') hk
    exact H.inj j k s s' b1 b2 y q1 r1 (by rw [← q2]; exact lj) (by rw [← r2]; exact lk) hy

def Sg.row (σ : Sg) (p r b sz : Nat) : Sg := { σ with T := fun i n => if i = p ∧ n = r + 1 then some (b, sz) else σ.T i n }
theorem Sg.le_row {σ : Sg} {p r b sz : Nat} (h : σ.T p (r + 1) = none) : σ.le (σ.row p r b sz) := ⟨fun _ _ h => h, Fz.le_refl _, fun i n x hx => by
  show (if _ then _ else _) = _
  rw [if_neg]; exact hx
  rintro ⟨rfl, rfl⟩
  rw [h] at hx; cases hx⟩
theorem Sg.row_self (σ : Sg) (p r b sz : Nat) : (σ.row p r b sz).T p (r + 1) = some (b, sz) := by simp [Sg.row]
theorem Sg.row_ne {σ : Sg} {p r b sz i n : Nat} (h : ¬ (i = p ∧ n = r + 1)) : (σ.row p r b sz).T i n = σ.T i n := if_neg h

/-- A row goes on as a new one, the last: in memory of its own. -/
theorem HRel.nextRow {w w' : World} {σ : Sg} {h : Heap} (H : HRel P B w0 σ h w) {p r b : Nat} {rows : List Row} {cs cs2 : List Value} {cc : Array Value} {t' : TypeId} {fz : Nat × Nat} (hg : h.get p = some (.pool rows)) (hr : rows[r]? = some (.cells cs)) (hB : B ≤ b)
    (hbelow : Below B w0.w w') (hsize : w.heap.size ≤ w'.heap.size) (hother : ∀ j, j ≠ b → j < w.heap.size → w'.heap[j]? = w.heap[j]?) (hb : w'.heap[b]? = some (.cells cc t' fz)) (hfz : okFrozen cc.size fz) (hle : cs2.length ≤ cc.size) (hrel : LRel σ cs2 (cc.toList.take cs2.length))
    (hfree : (∃ sz, σ.T p (r + 1) = some (b, sz)) ∨ w.heap.size ≤ b) (hfrz : FzOK σ.f w') (hoff : σ.f.off b) :
    HRel P B w0 (σ.row p rows.length b cc.size) (h.set p (.pool (rows.set r .dead ++ [.cells cs2]))) w' ∧ σ.le (σ.row p rows.length b cc.size) := by
  obtain ⟨q1, q2, q3⟩ := H.blk _ _ hg
  have hno := q1.2 rows.length (Nat.le_refl _)
  have hle' := Sg.le_row (b := b) (sz := cc.size) hno
  have lt := Heap.lt_of_get hg
  have rlt := (List.getElem?_eq_some_iff.1 hr).1
  have getn : ∀ s, (rows.set r .dead ++ [.cells cs2])[s]? = if s = rows.length then some (.cells cs2) else if s = r then some .dead else rows[s]? := fun s => by
    rw [List.getElem?_append, List.length_set]
    by_cases h1 : s = rows.length
    · subst h1; simp
    · rw [if_neg h1]
      by_cases h2 : s < rows.length
      · rw [if_pos h2, List.getElem?_set]
        by_cases h3 : r = s
        · subst h3; rw [if_pos rfl, if_pos rlt, if_pos rfl]
        · rw [if_neg h3, if_neg (fun e => h3 e.symm)]
      · rw [if_neg h2, if_neg (by omega), List.getElem?_eq_none (by simp; omega), List.getElem?_eq_none (by omega)]
  have Told : ∀ i n, ¬ (i = p ∧ n = rows.length + 1) → (σ.row p rows.length b cc.size).T i n = σ.T i n := fun i n h => Sg.row_ne h
  have locne : ∀ {j s : Nat} {bj : Blk}, j ≠ p → bj.loc (σ.row p rows.length b cc.size) j s = bj.loc σ j s := fun {j s bj} hj => by
    cases bj with
    | cells cs t m => cases m <;> rfl
    | own n t => simp only [Blk.loc]; rw [Told _ _ (fun h => hj h.1)]
    | pool rows => simp only [Blk.loc]; rw [Told _ _ (fun h => hj h.1)]
    | _ => rfl
  have lp : ∀ {s y : Nat}, (Blk.pool (rows.set r .dead ++ [.cells cs2])).loc (σ.row p rows.length b cc.size) p s = some y → (s = rows.length ∧ y = b) ∨ (s ≠ r ∧ (Blk.pool rows).loc σ p s = some y) := fun {s y} hl => by
    obtain ⟨row, z, k1, k2, k3⟩ := loc_pool hl
    rw [getn] at k1
    split at k1
    · rename_i e; subst e; rw [Sg.row_self] at k3; cases k3; exact .inl ⟨rfl, rfl⟩
    · rename_i e
      split at k1
      · simp only [Option.some.injEq] at k1; exact absurd k1.symm k2
      · rename_i e2
        rw [Told _ _ (by omega)] at k3
        exact .inr ⟨e2, pool_loc k1 k2 k3⟩
  have apart : ∀ {j s y : Nat} {bj : Blk}, h.get j = some bj → bj.loc σ j s = some y → (j = p → s ≠ r) → y ≠ b := fun {j s y bj} hgj hl hne e => by
    subst e
    rcases hfree with ⟨sz, k⟩ | k
    · have l2 := pool_loc hr (by intro h; cases h) k
      have e1 := H.inj j p s r bj _ y hgj hg hl l2 hB
      subst e1
      rw [hg] at hgj; simp only [Option.some.injEq] at hgj; subst hgj
      exact hne rfl (q3 s r y hl l2)
    · have := H.blk_lt hgj hl; omega
  refine ⟨⟨hbelow, Nat.le_trans H.size hsize, fun i x hx => H.dom i x hx, fun i x hx => Nat.lt_of_lt_of_le (H.codom i x hx) hsize, H.glob, fun j bj hj => ?_, fun i j s s' bi bj y hi hj li lj hy => ?_, hfrz, H.old, fun i n x hx => ?_⟩, hle'⟩
  · rw [Heap.get_set lt] at hj
    split at hj
    · rename_i e
      simp only [Option.some.injEq] at hj; subst hj; subst e
      refine ⟨⟨by rw [Told _ _ (by omega)]; exact q1.1, fun s hs => ?_⟩, fun s row hs => ?_, fun s s' y l1 l2 => ?_⟩
      · simp only [List.length_append, List.length_set, List.length_singleton] at hs
        rw [Told _ _ (by omega)]; exact q1.2 s (by omega)
      · rw [getn] at hs
        split at hs
        · rename_i e
          subst e
          simp only [Option.some.injEq] at hs; subst hs
          exact .inr ⟨b, cc, t', fz, Sg.row_self _ _ _ _ _, hB, hb, hfz, hle, hrel.mono hle', hoff⟩
        · rename_i e
          split at hs
          · simp only [Option.some.injEq] at hs; subst hs; trivial
          · rename_i e2
            have hrow := q2 s row hs
            have hTs : (σ.row j rows.length b cc.size).T j (s + 1) = σ.T j (s + 1) := Told _ _ (by omega)
            have ne : ∀ y z, row ≠ .dead → σ.T j (s + 1) = some (y, z) → w'.heap[y]? = w.heap[y]? := fun y z hd hTy => hother y (apart hg (pool_loc hs hd hTy) (fun _ => e2)) (H.blk_lt hg (pool_loc hs hd hTy))
            cases row with
            | dead => trivial
            | cells cs3 =>
              rcases hrow with ⟨k1, k2⟩ | ⟨y, ccy, ty, fy, g1, g2, g3, g4, g5, g6, g7⟩
              · exact .inl ⟨k1, by rw [hTs]; exact k2⟩
              · exact .inr ⟨y, ccy, ty, fy, by rw [hTs]; exact g1, g2, by rw [ne y _ (by intro h; cases h) g1]; exact g3, g4, g5, g6.mono hle', g7⟩
            | chan cap buf =>
              obtain ⟨y, z, bu, s1, s2, g1, g2, g3, g4, g5⟩ := hrow
              exact ⟨y, z, bu, s1, s2, by rw [hTs]; exact g1, g2, by rw [ne y _ (by intro h; cases h) g1]; exact g3, g4.mono hle', g5⟩
      · rcases lp l1 with ⟨e1, e2⟩ | ⟨e1, e2⟩ <;> rcases lp l2 with ⟨f1, f2⟩ | ⟨f1, f2⟩
        · omega
        · exact absurd e2 (apart hg f2 (fun _ => f1))
        · exact absurd f2 (apart hg e2 (fun _ => e1))
        · exact q3 s s' y e2 f2
    · rename_i e
      refine (H.blk j bj hj).mono hle' (fun s y hy => hother y (apart hj hy (fun h => absurd h e)) (H.blk_lt hj hy)) (fun _ _ _ _ => ⟨rfl, rfl⟩) fun m => Told _ _ (fun h => e h.1)
  · rw [Heap.get_set lt] at hi hj
    split at hi <;> split at hj
    · rename_i e1 e2; rw [e1, e2]
    · rename_i e1 e2
      simp only [Option.some.injEq] at hi; subst hi; subst e1
      rw [locne e2] at lj
      rcases lp li with ⟨_, k⟩ | ⟨_, k⟩
      · exact absurd k (apart hj lj (fun h => absurd h e2))
      · exact absurd (H.inj j i s' s bj _ y hj hg lj k hy) e2
    · rename_i e1 e2
      simp only [Option.some.injEq] at hj; subst hj; subst e2
      rw [locne e1] at li
      rcases lp lj with ⟨_, k⟩ | ⟨_, k⟩
      · exact absurd k (apart hi li (fun h => absurd h e1))
      · exact absurd (H.inj i j s s' bi _ y hi hg li k hy) e1
    · rename_i e1 e2
      rw [locne e1] at li; rw [locne e2] at lj
      exact H.inj i j s s' bi bj y hi hj li lj hy
  · simp only [Sg.row] at hx
    split at hx
    · rename_i e; rw [e.1]; exact lt
    · exact H.tdom i n x hx

/-- The same, of a row without memory that gets none. -/
theorem HRel.nextNil {w : World} {σ : Sg} {h : Heap} (H : HRel P B w0 σ h w) {p r : Nat} {rows : List Row} (hg : h.get p = some (.pool rows)) (rlt : r < rows.length) :
    HRel P B w0 σ (h.set p (.pool (rows.set r .dead ++ [.cells []]))) w := by
  obtain ⟨q1, q2, q3⟩ := H.blk _ _ hg
  have lt := Heap.lt_of_get hg
  have hno := q1.2 rows.length (Nat.le_refl _)
  have getn : ∀ s, (rows.set r .dead ++ [.cells []])[s]? = if s = rows.length then some (.cells []) else if s = r then some .dead else rows[s]? := fun s => by
    rw [List.getElem?_append, List.length_set]
    by_cases h1 : s = rows.length
    · subst h1; simp
    · rw [if_neg h1]
      by_cases h2 : s < rows.length
      · rw [if_pos h2, List.getElem?_set]
        by_cases h3 : r = s
        · subst h3; rw [if_pos rfl, if_pos rlt, if_pos rfl]
        · rw [if_neg h3, if_neg (fun e => h3 e.symm)]
      · rw [if_neg h2, if_neg (by omega), List.getElem?_eq_none (by simp; omega), List.getElem?_eq_none (by omega)]
  have lp : ∀ {s y : Nat}, (Blk.pool (rows.set r .dead ++ [.cells []])).loc σ p s = some y → (Blk.pool rows).loc σ p s = some y := fun {s y} hl => by
    obtain ⟨row, z, k1, k2, k3⟩ := loc_pool hl
    rw [getn] at k1
    split at k1
    · rename_i e; subst e; rw [hno] at k3; cases k3
    · split at k1
      · simp only [Option.some.injEq] at k1; exact absurd k1.symm k2
      · exact pool_loc k1 k2 k3
  have loc2 : ∀ {j s y : Nat} {bj : Blk}, (h.set p (.pool (rows.set r .dead ++ [.cells []]))).get j = some bj → bj.loc σ j s = some y → ∃ b0, h.get j = some b0 ∧ b0.loc σ j s = some y := fun {j s y bj} hj hl => by
    rw [Heap.get_set lt] at hj
    split at hj
    · rename_i e; simp only [Option.some.injEq] at hj; subst hj; subst e; exact ⟨_, hg, lp hl⟩
    · exact ⟨bj, hj, hl⟩
  refine ⟨H.below, H.size, H.dom, H.codom, H.glob, fun j bj hj => ?_, fun i j s s' bi bj y hi hj li lj hy => ?_, H.frz, H.old, H.tdom⟩
  · rw [Heap.get_set lt] at hj
    split at hj
    · rename_i e
      simp only [Option.some.injEq] at hj; subst hj; subst e
      refine ⟨⟨q1.1, fun s hs => ?_⟩, fun s row hs => ?_, fun s s' y l1 l2 => q3 s s' y (lp l1) (lp l2)⟩
      · simp only [List.length_append, List.length_set, List.length_singleton] at hs
        exact q1.2 s (by omega)
      · rw [getn] at hs
        split at hs
        · rename_i e
          subst e
          simp only [Option.some.injEq] at hs; subst hs
          exact .inl ⟨rfl, hno⟩
        · split at hs
          · simp only [Option.some.injEq] at hs; subst hs; trivial
          · exact q2 s row hs
    · exact H.blk j bj hj
  · obtain ⟨b1, k1, k2⟩ := loc2 hi li
    obtain ⟨b2, r1, r2⟩ := loc2 hj lj
    exact H.inj i j s s' b1 b2 y k1 r1 k2 r2 hy
theorem Stay.lrel {σ : Sg} {F : Fz} {l l' : List Value} (hl : l.length = l'.length) (h : ∀ j : Nat, FRel σ.f (l.getD j undef) (l'.getD j undef)) : LRel σ l l' := LRel.of_getD hl fun j _ => (h j).vrel

/-- append, to a row of a pool. -/
theorem pool_append {w : World} {σ : Sg} {h : Heap} (H : HRel P B w0 σ h w) {argTypes : Array TypeId} {st xt elem ty : TypeId} {ti : TypeInfo} {zv : Value} {s' x' : Value} {p r : Nat} {n k : Nat} {rows : List Row} {cs new new' : List Value}
    (h0 : argTypes[0]? = some st) (h1 : argTypes[1]? = some xt) (hus : P.underlying st = some (.slice elem)) (hux : (∃ e, P.underlying xt = some (.slice e)) ∨ P.underlying xt = some .string) (hti : P.info? elem = some ti)
    (hz : ti.zero = some zv) (hzs : zv.cells.size = ti.size) (hg : h.get p = some (.pool rows)) (hr : rows[r]? = some (.cells cs)) (hs : RsRel σ p r ti.size 0 n s') (hcs : cs.length = n * ti.size)
    (hlen : ∀ w, (Builtin.lenOf x').run P w = .ok k w) (hbig : (n + k) * (ti.bytes + 1) ≤ 1099511627776)
    (hnew : ∀ d, (Builtin.firstCells ti.size k x').run P { w with drawn := d } = .ok new'.toArray { w with drawn := d }) (hrel : LRel σ new new') (hln : new.length = k * ti.size) (hone : new'.all Go.Ideal.oneCell = true) :
    ∃ σ' w' v', σ.le σ' ∧ (Builtin.append_ argTypes ty #[s', x']).run P w = .ok v' w' ∧ VRel σ' (rsl p rows.length ti.size 0 ((n + k : Nat) : Int)) v' ∧ HRel P B w0 σ' (h.set p (.pool (rows.set r .dead ++ [.cells (cs ++ new)]))) w' := by
  have hnew0 : (Builtin.firstCells ti.size k x').run P w = .ok new'.toArray w := hnew w.drawn
  have hln' : new'.length = k * ti.size := by rw [← hrel.len]; exact hln
  have hm2 : (cs ++ new).length = (n + k) * ti.size := by rw [List.length_append, hcs, hln, Nat.add_mul]
  obtain ⟨q1, q2, q3⟩ := H.blk _ _ hg
  have rlt := (List.getElem?_eq_some_iff.1 hr).1
  have anew : ∀ {base' : Option Addr} {cap' : Nat} {old' : List Value}, cap' < n + k → LRel σ cs old' → (Builtin.firstCells ti.size n (.slice base' n cap')).run P { w with drawn := w.drawn + 1 } = .ok old'.toArray { w with drawn := w.drawn + 1 } →
      ∃ σ' w' v', σ.le σ' ∧ (Builtin.append_ argTypes ty #[.slice base' n cap', x']).run P w = .ok v' w' ∧ VRel σ' (rsl p rows.length ti.size 0 ((n + k : Nat) : Int)) v' ∧ HRel P B w0 σ' (h.set p (.pool (rows.set r .dead ++ [.cells (cs ++ new)]))) w' := fun {base' cap' old'} hneed hold hrd => by
    have hrun := run_grows (ty := ty) h0 h1 hus hux hti hz hlen hneed hbig hrd (hnew _)
    have hge := roomOf_ge w (n + k) cap' elem
    have hall : (old' ++ new' ++ restOf zv (roomOf w (n + k) cap' elem - (n + k))).length = roomOf w (n + k) cap' elem * ti.size := by
      simp only [List.length_append, restOf_length, hzs, ← hold.len, hcs, hln']
      rw [← Nat.add_mul, ← Nat.add_mul]; congr 1; omega
    have hcc : ((old' ++ new' ++ restOf zv (roomOf w (n + k) cap' elem - (n + k))).toArray).size = roomOf w (n + k) cap' elem * ti.size := by rw [List.size_toArray, hall]
    have hB2 := HRel.nextRow (b := w.heap.size) (w' := World.alloc { w with drawn := w.drawn + 1 } (.cells (old' ++ new' ++ restOf zv (roomOf w (n + k) cap' elem - (n + k))).toArray elem)) (cs2 := cs ++ new)
      (cc := (old' ++ new' ++ restOf zv (roomOf w (n + k) cap' elem - (n + k))).toArray) (t' := elem) (fz := (0, 0)) H hg hr H.size (H.drew.below.alloc H.size _)
      (by show w.heap.size ≤ (w.heap.push _).size; rw [Array.size_push]; omega) (fun j hj hlt => by show (w.heap.push _)[j]? = _; rw [Array.getElem?_push, if_neg hj])
      (by show (w.heap.push _)[w.heap.size]? = _; simp) (okFrozen_zero _) (by rw [hcc, hm2]; exact Nat.mul_le_mul_right _ hge)
      (by
        have e : ((old' ++ new' ++ restOf zv (roomOf w (n + k) cap' elem - (n + k))).toArray.toList.take (cs ++ new).length) = old' ++ new' := by
          show List.take _ (old' ++ new' ++ restOf zv (roomOf w (n + k) cap' elem - (n + k))) = _
          rw [List.take_append, List.take_of_length_le (by simp [← hold.len, ← hrel.len]), show (cs ++ new).length - (old' ++ new').length = 0 by simp [← hold.len, ← hrel.len], List.take_zero, List.append_nil]
        rw [e]
        exact hold.append hrel)
      (.inr (Nat.le_refl _)) (H.drew.frz.alloc _) (H.frz.off (Nat.le_refl _))
    refine ⟨_, _, _, hB2.2, hrun, ?_, hB2.1⟩
    exact .rsl (Sg.row_self _ _ _ _ _) (by rw [hcc]; omega) hge
  obtain ⟨m, hnm, ⟨a', y, rfl, hm0, _, hT0⟩ | ⟨b, sz, c', rfl, hT, hsz, hnc⟩⟩ := hs
  · have hn0 : n = 0 := by omega
    subst hn0
    have ecs : cs = [] := List.length_eq_zero_iff.1 (by simpa using hcs)
    subst ecs
    by_cases hk : k = 0
    · subst hk
      have en : new = [] := List.length_eq_zero_iff.1 (by simpa using hln)
      have en' : new' = [] := List.length_eq_zero_iff.1 (by simpa using hln')
      subst en; subst en'
      have hk2 := HRel.nextNil H hg rlt
      refine ⟨σ, w, _, Sg.le_refl σ, run_fits (base' := a') (sl := 0) (cap' := 0) (new' := []) h0 h1 hus hux hti hlen (by omega) hnew0 ?_, .rnil hT0 _ _ a', hk2⟩
      cases a' with
      | none => simp
      | some a => simp [storeCells]
    · refine anew (base' := a') (cap' := 0) (old' := []) (by omega) .nil ?_
      cases a' <;> simp [Builtin.firstCells, loadCells, loadCellsFrom]
  · have hnm : n = m := by omega
    subst hnm
    obtain ⟨cc, t', fz, ecc, hB, k3, k4, k5, k6, hoff⟩ := row_at H hg hr hT
    have hbs : b < w.heap.size := (Array.getElem?_eq_some_iff.1 k3).1
    by_cases hfit : n + k ≤ c'
    · have hsp : n * ti.size + new'.length ≤ cc.size := by
        rw [hln', ← Nat.add_mul, ecc]
        exact Nat.le_trans (Nat.mul_le_mul_right _ hfit) (by omega)
      have hrun := run_storeCells_put (P := P) (p := n * ti.size) new' 0 cc w k3 (by omega) k4 hone
      have hsl : (splice cc.toList (n * ti.size) new').length = cc.size := by rw [splice_length _ _ _ (by simp; omega)]; simp
      have hB2 := HRel.nextRow (b := b) (w' := putBlock w b (.cells (splice cc.toList (n * ti.size) new').toArray t' fz)) (cs2 := cs ++ new) (cc := (splice cc.toList (n * ti.size) new').toArray) (t' := t') (fz := fz) H hg hr hB
        (below_putBlock H.below hB _) (by simp [putBlock]) (fun j hj _ => by rw [putBlock_get _ hbs, if_neg hj]) (by rw [putBlock_get _ hbs, if_pos rfl]) (by rw [List.size_toArray, hsl]; exact k4)
        (by rw [List.size_toArray, hsl, List.length_append, hcs, hrel.len]; exact hsp)
        (by
          have e : List.take (cs ++ new).length (splice cc.toList (n * ti.size) new') = cc.toList.take cs.length ++ new' := by
            unfold splice
            have e1 : (List.take (n * ti.size) cc.toList ++ new').length = (cs ++ new).length := by simp [hcs, hrel.len]; omega
            rw [List.take_append, ← e1, List.take_length, Nat.sub_self, List.take_zero, List.append_nil, hcs]
          show LRel σ (cs ++ new) (List.take (cs ++ new).length (splice cc.toList (n * ti.size) new'))
          rw [e]
          exact k6.append hrel)
        (.inl ⟨sz, hT⟩) (H.frz.put hbs hoff) hoff
      refine ⟨_, _, _, hB2.2, run_fits (base' := some ⟨b, 0, none⟩) (w' := putBlock w b (.cells (splice cc.toList (n * ti.size) new').toArray t' fz)) h0 h1 hus hux hti hlen hfit hnew0 ?_, ?_, hB2.1⟩
      · simp only [Addr.add_none, Nat.zero_add]
        simpa using hrun
      · exact .rsl (Sg.row_self _ _ _ _ _) (by rw [List.size_toArray, hsl, ecc]; exact hsz) hfit
    · obtain ⟨old', g1, g2, g3⟩ := row_load (w := w) (P := P) H hg hr hT 0 (n * ti.size) (by omega)
      refine anew (base' := some ⟨b, 0, none⟩) (cap' := c') (old' := old') (by omega) (by rw [List.drop_zero, List.take_of_length_le (by omega)] at g2; exact g2) ?_
      simp only [Builtin.firstCells]
      exact g1 _

section
variable {w : World} {σ : Sg} {h h' : Heap} {ts : List Value} {a : Act} {v : Value} {told : Option Value} {l : List Ask}

theorem loadVar_agg {t : TypeId} {n : Nat} {a' : Addr} {cs' : List Value} (h1 : isAggI P t = some true) (h2 : sizeI P t = some n) (k : (loadCells a' n).run P w = .ok cs'.toArray w) : (loadVar t a').run P w = .ok (.agg cs'.toArray) w := by
  simp [loadVar, isAgg_run h1, sizeOf_run h2, k]
theorem loadVar_one {t : TypeId} {n : Nat} {a' : Addr} {v' : Value} (h1 : isAggI P t = some false) (h2 : sizeI P t = some n) (k1 : (loadCells a' 1).run P w = .ok [v'].toArray w) : (loadVar t a').run P w = .ok v' w := by
  simp only [loadCells, loadCellsFrom, Sem.run_bind] at k1
  simp only [loadVar, Sem.run_bind, isAgg_run h1, Result.andThen_ok]
  rw [Addr.add_zero'] at k1
  simp only [Bool.false_eq_true, if_false]
  cases hq : (load a').run P w with
  | ok x y =>
    rw [hq] at k1
    simp only [Result.andThen_ok, Sem.run_pure] at k1
    simp at k1
    obtain ⟨rfl, rfl⟩ := k1
    rfl
  | halt x y => rw [hq] at k1; simp [Result.andThen] at k1

theorem nilSideP_rel (H : HRel P B w0 σ h w) {t : TypeId} {x y x' y' : Value} (he : nilSideP P t x y = some l) (hl : Holds P l) (hx : VRel σ x x') (hy : VRel σ y y') (xo yo : Operand) :
    (((do eqGuard .eql t xo yo x' y'; binOp .eql t x' y') : Sem Value).run P w = .ok (.bool false) w ∧ ((do eqGuard .neq t xo yo x' y'; binOp .neq t x' y') : Sem Value).run P w = .ok (.bool true) w) ∧
    (((do eqGuard .eql t yo xo y' x'; binOp .eql t y' x') : Sem Value).run P w = .ok (.bool false) w ∧ ((do eqGuard .neq t yo xo y' x'; binOp .neq t y' x') : Sem Value).run P w = .ok (.bool true) w) := by
  have key : ∀ (p q : Value), (∀ d, (Op.equalIn (d + 1) t p q).run P w = .ok false w) → (∀ op po qo, eqGuard op t po qo p q = pure ()) → (binOp .eql t p q = (do pure (.bool (← Op.equal t p q)))) → (binOp .neq t p q = (do pure (.bool (!(← Op.equal t p q))))) →
      ∀ po qo, ((do eqGuard .eql t po qo p q; binOp .eql t p q) : Sem Value).run P w = .ok (.bool false) w ∧ ((do eqGuard .neq t po qo p q; binOp .neq t p q) : Sem Value).run P w = .ok (.bool true) w := fun p q hd hg h1 h2 po qo => by
    have he : (Op.equal t p q).run P w = .ok false w := hd 9999
    rw [hg, hg, h1, h2]
    simp only [Sem.run_bind, Sem.run_pure, Result.andThen_ok, he, Bool.not_false, and_self]
  unfold nilSideP at he
  split at he
  · rename_i e n c hu
    split at he
    · rename_i p r es off n1 hs
      simp only [Option.some.injEq] at he; subst he
      have hpos := hl.cons.1
      simp only [Ask.holds] at hpos
      obtain ⟨m, rfl, ⟨a', y0, rfl, rfl, _⟩ | ⟨b, sz, c', rfl, _⟩⟩ := asRs_rel hs hx
      · simp at hpos
      · cases hy
        exact ⟨key _ _ (fun d => by simp [Op.equalIn, run_underlying hu]) (fun op po qo => by cases op <;> rfl) rfl rfl _ _, key _ _ (fun d => by simp [Op.equalIn, run_underlying hu]) (fun op po qo => by cases op <;> rfl) rfl rfl _ _⟩
    · cases he
  · rename_i e hu
    split at he
    · rename_i q hs
      obtain ⟨b, sz, rfl, _⟩ := asRp_rel (p := q.1) (r := q.2.1) (off := q.2.2) hs hx
      cases hy
      exact ⟨key _ _ (fun d => by simp [Op.equalIn, run_underlying hu]) (fun op po qo => by cases op <;> rfl) rfl rfl _ _, key _ _ (fun d => by simp [Op.equalIn, run_underlying hu]) (fun op po qo => by cases op <;> rfl) rfl rfl _ _⟩
    · cases he
  · cases he

theorem opP_sound (H : HRel P B w0 σ h w) (hts : LRel σ ts a.tmps.toList) {o : Oper} (hok : operOK P o = true) (he : opP P o ts h told = some (v, h', l)) (hl : Holds P l) : OpRes P B w0 σ (execOp a.eval o) w v h' := by
  obtain ⟨dst, op, ty, pos, after, guard⟩ := o
  simp only [operOK] at hok
  cases op <;> simp only [Op.operands] at hok
  case load t x =>
    simp only [opP] at he
    simp only [List.all_cons, List.all_nil, Bool.and_true] at hok
    have kx := ev_sound H hts hok
    split at he
    · rename_i p r off hp
      obtain ⟨b, sz, e', hT⟩ := asRp_rel hp kx
      have agg : ∀ {rows : List Row} {n : Nat} {out : List Value}, h.get p = some (.pool rows) → isAggI P t = some true → sizeI P t = some n → liveAt rows r = true → off + n ≤ (cellsAt rows r).length → ((cellsAt rows r).drop off).take n = out → OpRes P B w0 σ (execOp a.eval ⟨dst, .load t x, ty, pos, after, guard⟩) w (.agg out.toArray) h := fun {rows n out} hg h1 h2 q0 q1 q2 => by
        obtain ⟨cs', g1, g2, g3⟩ := row_load (w := w) (P := P) H hg (liveAt_get q0) hT off n q1
        rw [q2] at g2
        exact .same (v' := .agg cs'.toArray) H (op_map rfl (by simp [Instr.loadAt, e', Instr.sureAddr, loadVar_agg h1 h2 (g1 w.drawn)])) (VRel.agg_of (by simpa using g2))
      have one : ∀ {rows : List Row} {n : Nat} {u : Value}, h.get p = some (.pool rows) → isAggI P t = some false → sizeI P t = some n → liveAt rows r = true → off + 1 ≤ (cellsAt rows r).length → ((cellsAt rows r).drop off).take 1 = [u] → OpRes P B w0 σ (execOp a.eval ⟨dst, .load t x, ty, pos, after, guard⟩) w u h := fun {rows n u} hg h1 h2 q0 q1 q2 => by
        obtain ⟨cs', g1, g2, g3⟩ := row_load (w := w) (P := P) H hg (liveAt_get q0) hT off 1 q1
        rw [q2] at g2
        match cs', g3 with
        | [m], _ =>
          cases g2 with
          | cons hv _ => exact .same (v' := m) H (op_map rfl (by simp [Instr.loadAt, e', Instr.sureAddr, loadVar_one h1 h2 (g1 w.drawn)])) hv
      split at he
      · rename_i rows n l' hg h1 h2
        simp only [Option.some.injEq, Prod.mk.injEq] at he; obtain ⟨rfl, rfl, rfl⟩ := he
        obtain ⟨q0, q1, q2⟩ := hl.cons.1
        simpa using agg (rowsAt_get hg) h1 h2 q0 q1 q2
      · rename_i rows n hg h1 h2
        simp only [Option.some.injEq, Prod.mk.injEq] at he; obtain ⟨rfl, rfl, rfl⟩ := he
        obtain ⟨q0, q1⟩ := hl.cons.1
        exact agg (rowsAt_get hg) h1 h2 q0 q1 rfl
      · rename_i rows n u hg h1 h2
        simp only [Option.some.injEq, Prod.mk.injEq] at he; obtain ⟨rfl, rfl, rfl⟩ := he
        obtain ⟨q0, q1, q2⟩ := hl.cons.1
        exact one (rowsAt_get hg) h1 h2 q0 q1 q2
      · rename_i rows n hg h1 h2
        split at he
        · rename_i u hu
          simp only [Option.some.injEq, Prod.mk.injEq] at he; obtain ⟨rfl, rfl, rfl⟩ := he
          obtain ⟨q0, q1⟩ := hl.cons.1
          refine one (rowsAt_get hg) h1 h2 q0 q1 ?_
          have hlt := (List.getElem?_eq_some_iff.1 hu).1
          rw [List.drop_eq_getElem_cons hlt]
          have := (List.getElem?_eq_some_iff.1 hu).2
          simp [this]
        · cases he
      · cases he
    · cases he
  case store t x y =>
    simp only [opP] at he
    simp only [List.all_cons, List.all_nil, Bool.and_true, Bool.and_eq_true] at hok
    have kx := ev_sound H hts hok.1
    have ky := ev_sound H hts hok.2
    split at he
    · rename_i p r off n hp hn
      obtain ⟨b, sz, e', hT⟩ := asRp_rel hp kx
      split at he
      · rename_i rows hg hc
        simp only [Bool.and_eq_true, Nat.beq_eq] at hc
        simp only [Option.some.injEq, Prod.mk.injEq] at he; obtain ⟨rfl, rfl, rfl⟩ := he
        obtain ⟨q0, q1⟩ := hl.cons.1
        have hg := rowsAt_get hg
        have hr := liveAt_get q0
        obtain ⟨cc, t', fz, ecc, hB, k3, k4, k5, k6, hoff⟩ := row_at H hg hr hT
        have hv := ky.cells
        have hlen := hv.len
        have hone : (a.eval y).cells.toList.all oneCell = true := hv.ones hc.2
        have hle : off + (a.eval y).cells.toList.length ≤ cc.size := by rw [← hlen, hc.1]; omega
        have hrun := run_storeCells_put (P := P) (p := off) (a.eval y).cells.toList 0 cc w k3 (by omega) k4 hone
        have hsz : (a.eval y).cells.size = n := by
          have : (a.eval y).cells.toList.length = n := by rw [← hlen, hc.1]
          simpa using this
        have hsl : (splice cc.toList (off + 0) (a.eval y).cells.toList).length = cc.size := by rw [splice_length _ _ _ (by simp at hle ⊢; omega)]; simp
        have hle2 : off + (Value.cellList (evI ts y)).length ≤ (cellsAt rows r).length := by rw [hc.1]; exact q1
        have hput := HRel.putRow (cs2 := splice (cellsAt rows r) off (Value.cellList (evI ts y))) (cc2 := (splice cc.toList (off + 0) (a.eval y).cells.toList).toArray) H hg hr (by rw [hT, ecc]) k3 (by rw [List.size_toArray, hsl])
          (by rw [List.size_toArray, hsl, splice_length _ _ _ hle2]; exact k5)
          (by
            rw [splice_length _ _ _ hle2]
            have := k6.splice hv off
            have e : splice (cc.toList.take (cellsAt rows r).length) off (a.eval y).cells.toList = (splice cc.toList (off + 0) (a.eval y).cells.toList).take (cellsAt rows r).length := by
              rw [Nat.add_zero]
              unfold Go.Ideal.splice
              rw [List.take_append, List.take_append, List.take_take, List.take_take]
              simp only [List.length_append, List.length_take, Array.length_toList]
              have hl3 : (a.eval y).cells.size = n := hsz
              rw [Nat.min_eq_left (show off ≤ (cellsAt rows r).length by omega), Nat.min_eq_right (show off ≤ (cellsAt rows r).length by omega), Nat.min_eq_left (show off ≤ cc.size by omega)]
              rw [List.take_of_length_le (l := (a.eval y).cells.toList) (by simp; omega), List.drop_take]
            rw [← e]; exact this)
        refine ⟨σ, _, .skip, _, Sg.le_refl σ, op_unit rfl (?_ : (Instr.storeAt t (a.eval x) (a.eval y)).run P w = .ok () _), .inr ⟨rfl, rfl⟩, VRel.undef σ, hput⟩
        have e2 : (storeVar t ⟨b, off, none⟩ (a.eval y)).run P w = .ok () (putBlock w b (.cells (splice cc.toList (off + 0) (a.eval y).cells.toList).toArray t' fz)) := by
          simp only [storeVar, Sem.run_bind, sizeOf_run hn, Result.andThen_ok, hsz, ne_eq, not_true_eq_false, if_false, hrun]
        simp [Instr.storeAt, Instr.sureAddr, e', e2]
      · cases he
    · cases he
  case nilCheck x =>
    simp only [opP] at he
    simp only [List.all_cons, List.all_nil, Bool.and_true] at hok
    have kx := ev_sound H hts hok
    split at he
    · rename_i p r off hp
      simp only [Option.some.injEq, Prod.mk.injEq] at he; obtain ⟨rfl, rfl, rfl⟩ := he
      obtain ⟨b, sz, e', hT⟩ := asRp_rel hp kx
      exact .same (v' := .pointer (some ⟨b, off, none⟩)) H (by simp [execOp, e']) (.rpt hT)
    · cases he
  case fieldAddr s x f =>
    simp only [opP] at he
    simp only [List.all_cons, List.all_nil, Bool.and_true] at hok
    have kx := ev_sound H hts hok
    split at he
    · rename_i fl p r off hf hp
      obtain ⟨b, sz, e', hT⟩ := asRp_rel hp kx
      unfold fieldOf at hf
      split at hf
      · rename_i fields hu
        cases hsz : sizeI P fl.type with
        | none => simp [hsz] at he
        | some n =>
          cases n with
          | zero => simp [hsz] at he
          | succ n =>
            simp only [hsz, Option.some.injEq, Prod.mk.injEq] at he; obtain ⟨rfl, rfl, rfl⟩ := he
            refine .same (v' := .pointer (some ⟨b, off + fl.offset, none⟩)) H (op_map rfl ?_) (.rpt hT)
            simp [Instr.fieldAt, run_underlying hu, hf, e', Instr.sureAddr, fieldPlace, sizeOf_run hsz, Addr.add_none]
      · cases hf
    · cases he
  case indexAddr t x ix =>
    simp only [opP] at he
    simp only [List.all_cons, List.all_nil, Bool.and_true, Bool.and_eq_true] at hok
    have kx := ev_sound H hts hok.1
    have ky := ev_sound H hts hok.2
    split at he
    · rename_i i elem hi hu
      obtain ⟨kk, ei⟩ := asInt_rel hi ky
      split at he
      · rename_i p r es off n size hs hsz
        split at he
        · rename_i hes
          rw [Nat.beq_eq] at hes; subst hes
          simp only [Option.some.injEq, Prod.mk.injEq] at he; obtain ⟨rfl, rfl, rfl⟩ := he
          obtain ⟨q0, q1⟩ := hl.cons
          have q1 := q1.cons.1
          simp only [Ask.holds] at q0 q1
          obtain ⟨m, rfl, ⟨a', y, e', rfl, _⟩ | ⟨b, sz, c', e', hT, _, _⟩⟩ := asRs_rel hs kx
          · simp at q1; omega
          · have hb : 0 ≤ i ∧ i < (m : Int) := ⟨q0, q1⟩
            refine .same (v' := .pointer (some ⟨b, off + i.toNat * es, none⟩)) H (op_map rfl ?_) (.rpt hT)
            simp [Instr.indexAt, asIntOf, ei, run_underlying hu, e', hb, sizeOf_run hsz, Addr.add_none]
        · cases he
      · cases he
    · rename_i i len elem hi hu
      obtain ⟨kk, ei⟩ := asInt_rel hi ky
      split at he
      · rename_i p r off size hs hsz
        simp only [Option.some.injEq, Prod.mk.injEq] at he; obtain ⟨rfl, rfl, rfl⟩ := he
        obtain ⟨q0, q1⟩ := hl.cons
        have q1 := q1.cons.1
        simp only [Ask.holds] at q0 q1
        obtain ⟨b, sz, e', hT⟩ := asRp_rel hs kx
        have hb : 0 ≤ i ∧ i < (len : Int) := ⟨q0, q1⟩
        refine .same (v' := .pointer (some ⟨b, off + i.toNat * size, none⟩)) H (op_map rfl ?_) (.rpt hT)
        simp [Instr.indexAt, asIntOf, ei, run_underlying hu, e', Instr.sureAddr, hb, sizeOf_run hsz, Addr.add_none]
      · cases he
    · cases he
  case binOp op t x y t2 =>
    simp only [List.all_cons, List.all_nil, Bool.and_true, Bool.and_eq_true] at hok
    have kx := ev_sound H hts hok.1
    have ky := ev_sound H hts hok.2
    cases op <;> simp only [opP] at he <;> try (cases he; done)
    case eql =>
      split at he
      · rename_i l' hn
        simp only [Option.some.injEq, Prod.mk.injEq] at he; obtain ⟨rfl, rfl, rfl⟩ := he
        exact .same H (op_map rfl (nilSideP_rel H hn hl kx ky x y).1.1) (.bool _)
      · rename_i l' _ hn
        simp only [Option.some.injEq, Prod.mk.injEq] at he; obtain ⟨rfl, rfl, rfl⟩ := he
        exact .same H (op_map rfl (nilSideP_rel H hn hl ky kx y x).2.1) (.bool _)
      · cases he
    case neq =>
      split at he
      · rename_i l' hn
        simp only [Option.some.injEq, Prod.mk.injEq] at he; obtain ⟨rfl, rfl, rfl⟩ := he
        exact .same H (op_map rfl (nilSideP_rel H hn hl kx ky x y).1.2) (.bool _)
      · rename_i l' _ hn
        simp only [Option.some.injEq, Prod.mk.injEq] at he; obtain ⟨rfl, rfl, rfl⟩ := he
        exact .same H (op_map rfl (nilSideP_rel H hn hl ky kx y x).2.2) (.bool _)
      · cases he
  case slice t x lo hi mx =>
    cases mx with
    | some mx =>
      cases lo with
      | some lo => simp [opP] at he
      | none =>
      cases hi with
      | none => simp [opP] at he
      | some hi =>
      simp only [opP] at he
      simp only [Array.toList_append, List.all_append, Bool.and_eq_true] at hok
      have kx := ev_sound H hts (x := x) (by simpa using hok.1.1.1)
      have khi := opt_rel H hts (x := some hi) (by simpa using hok.1.2)
      have kmx := opt_rel H hts (x := some mx) (by simpa using hok.2)
      simp only [Option.map_some] at khi kmx
      cases khi with
      | some rhi =>
      cases kmx with
      | some rmx =>
      split at he
      · rename_i elem q0 hu hs eh em
        split at he
        · rename_i size hsz
          simp only [Option.some.injEq, Prod.mk.injEq] at he; obtain ⟨rfl, rfl, rfl⟩ := he
          obtain ⟨p, r, es, off, n⟩ := q0
          have bounds : ∀ (len cap : Nat), (Instr.sliceBounds true len cap none (some (a.eval hi)) (some (a.eval mx))).run P w = .ok (0, 0, 0) w := fun len cap => by
            have hM := bound_int (P := P) (w := w) em rmx (y := cap) (by omega) (by omega) .slice3Acap
            have hH := bound_int (P := P) (w := w) eh rhi (y := (0 : Int).toNat) (by omega) (by omega) .slice3B
            unfold Instr.sliceBounds
            simp only [Sem.run_bind, Sem.run_pure, Result.andThen_ok, if_true, hM, hH]
            rfl
          have fin : ∀ (b' : Option Addr) (len cap : Nat), a.eval x = .slice b' len cap → OpRes P B w0 σ (execOp a.eval ⟨dst, .slice t x none (some hi) (some mx), ty, pos, after, guard⟩) w vzc h := fun b' len cap e' => by
            refine .same (v' := .slice b' 0 0) H (op_map rfl ?_) (FRel.vzc b').vrel
            simp only [Instr.sliceAt, Sem.run_bind, run_underlying hu, Result.andThen_ok, e']
            simp only [Instr.slice, Sem.run_bind, run_underlying hu, Result.andThen_ok, Option.map_none, Option.map_some, bounds, sizeOf_run hsz, Sem.run_pure]
            simp
          obtain ⟨m, _, ⟨a', y, e', _⟩ | ⟨b, sz, c', e', _⟩⟩ := asRs_rel hs kx
          · exact fin _ _ _ e'
          · exact fin _ _ _ e'
        · cases he
      · cases he
    | none =>
    simp only [opP] at he
    simp only [Array.toList_append, List.all_append, Bool.and_eq_true] at hok
    have kx := ev_sound H hts (x := x) (by simpa using hok.1.1.1)
    have klo := opt_rel H hts (x := lo) (by simpa using hok.1.1.2)
    have khi := opt_rel H hts (x := hi) (by simpa using hok.1.2)
    have fin : ∀ {elem : TypeId} {p r es off : Nat} {n l0 hh : Int}, P.underlying t = some (.slice elem) → asRs (evI ts x) = some (p, r, es, off, n) → sizeI P elem = some es → (match hi.map (evI ts) with | some v => intI v | none => some n) = some hh → (match lo.map (evI ts) with | some v => intI v | none => some 0) = some l0 → 0 ≤ l0 → l0 ≤ hh → hh ≤ n → (l0 = 0 ∨ l0 < n) →
        OpRes P B w0 σ (execOp a.eval ⟨dst, .slice t x lo hi none, ty, pos, after, guard⟩) w (rsl p r es (off + l0.toNat * es) (hh - l0)) h := fun {elem p r es off n l0 hh} hu hs hsz eh el q0 q1 q2 q3 => by
      have bounds : ∀ (len cap : Nat), n = len → len ≤ cap → (Instr.sliceBounds true len cap (lo.map a.eval) (hi.map a.eval) none).run P w = .ok (l0.toNat, hh.toNat, cap) w := fun len cap e hc => by
        have hH : (match (hi.map a.eval) with | some v => Instr.sliceBound v cap BoundsCode.sliceAcap | none => pure len : Sem Nat).run P w = .ok hh.toNat w := by
          cases hev : hi.map (evI ts) with
          | none =>
            rw [hev] at khi eh
            generalize hq2 : hi.map a.eval = hi' at khi
            cases khi
            simp only [Option.some.injEq] at eh
            subst eh; subst e; simp
          | some u =>
            rw [hev] at khi eh
            generalize hq2 : hi.map a.eval = hi' at khi
            cases khi with
            | some hr => exact bound_int eh hr (by omega) (by omega) _
        have hL : (match (lo.map a.eval) with | some v => Instr.sliceBound v hh.toNat BoundsCode.sliceB | none => pure 0 : Sem Nat).run P w = .ok l0.toNat w := by
          cases hev : lo.map (evI ts) with
          | none =>
            rw [hev] at klo el
            generalize hq2 : lo.map a.eval = lo' at klo
            cases klo
            simp only [Option.some.injEq] at el
            subst el; simp
          | some u =>
            rw [hev] at klo el
            generalize hq2 : lo.map a.eval = lo' at klo
            cases klo with
            | some hr => exact bound_int el hr (by omega) (by omega) _
        unfold Instr.sliceBounds
        cases h1 : hi.map a.eval <;> cases h2 : lo.map a.eval <;> rw [h1] at hH <;> rw [h2] at hL <;> simp only [Sem.run_bind, Sem.run_pure, Result.andThen_ok, if_true, Option.isSome_none, Bool.false_eq_true, if_false, hH, hL] <;> simp at hH hL <;> simp [*]
      obtain ⟨m, rfl, ⟨a', y, e', rfl, rfl, hT0⟩ | ⟨b, sz, c', e', hT, hcs, hnc⟩⟩ := asRs_rel hs kx
      · obtain rfl : l0 = 0 := by simp at q2; omega
        obtain rfl : hh = 0 := by simp at q2; omega
        have k := bounds 0 0 rfl (Nat.le_refl _)
        refine .same (v' := .slice a' 0 0) H (op_map rfl ?_) (by simpa using VRel.rnil hT0 r es a')
        simp only [Instr.sliceAt, Sem.run_bind, run_underlying hu, Result.andThen_ok, e']
        simp only [Instr.slice, Sem.run_bind, run_underlying hu, Result.andThen_ok, Option.map_none, k, sizeOf_run hsz, Sem.run_pure]
        simp
      · have k := bounds m c' rfl hnc
        have hadd : (if c' = l0.toNat then some ⟨b, off, none⟩ else some (Addr.add ⟨b, off, none⟩ (l0.toNat * es)) : Option Addr) = some ⟨b, off + l0.toNat * es, none⟩ := by
          split
          · rename_i e
            have : l0 = 0 := by rcases q3 with q | q <;> omega
            subst this; simp
          · rw [Addr.add_none]
        refine .same (v' := .slice (some ⟨b, off + l0.toNat * es, none⟩) (hh.toNat - l0.toNat) (c' - l0.toNat)) H (op_map rfl ?_) ?_
        · simp only [Instr.sliceAt, Sem.run_bind, run_underlying hu, Result.andThen_ok, e']
          simp only [Instr.slice, Sem.run_bind, run_underlying hu, Result.andThen_ok, Option.map_none, k, sizeOf_run hsz, Sem.run_pure]
          rw [← hadd]
          simp
        · have e2 : hh - l0 = ((hh.toNat - l0.toNat : Nat) : Int) := by omega
          rw [e2]
          refine .rsl hT ?_ (by omega)
          have : l0.toNat * es + (c' - l0.toNat) * es ≤ c' * es := by rw [← Nat.add_mul]; exact Nat.mul_le_mul_right _ (by omega)
          omega
    split at he
    · rename_i elem p r es off n hu hs
      split at he
      · rename_i size hh hsz hlo eh
        split at he
        · rename_i hes
          rw [Nat.beq_eq] at hes; subst hes
          simp only [Option.some.injEq, Prod.mk.injEq] at he; obtain ⟨rfl, rfl, rfl⟩ := he
          obtain ⟨q0, q1⟩ := hl.cons
          have q1 := q1.cons.1
          simp only [Ask.holds] at q0 q1
          have := fin (l0 := 0) hu hs hsz eh (by rw [hlo]) (Int.le_refl 0) q0 q1 (.inl rfl)
          simpa using this
        · cases he
      · rename_i size lv hh hsz hlo eh
        split at he
        · rename_i l1 hes el
          rw [Nat.beq_eq] at hes; subst hes
          simp only [Option.some.injEq, Prod.mk.injEq] at he; obtain ⟨rfl, rfl, rfl⟩ := he
          obtain ⟨q0, q1⟩ := hl.cons
          obtain ⟨q1, q2⟩ := q1.cons
          obtain ⟨q2, q3⟩ := q2.cons
          have q3 := q3.cons.1
          simp only [Ask.holds] at q0 q1 q2 q3
          exact fin hu hs hsz eh (by rw [hlo]; exact el) q0 q1 q2 (.inr q3)
        · cases he
      · cases he
    · cases he
  case call c =>
    obtain ⟨callee, args, argTypes⟩ := c
    cases callee with
    | value f => simp [opP] at he
    | invoke r m => simp [opP] at he
    | builtin b =>
      have hargs : args.toList.all (operandOK P) = true := by simpa [Call.operands] using hok
      have hr := args_rel H hts hargs
      rw [call_builtin]
      cases b <;> simp only [opP] at he <;> try (cases he; done)
      case len =>
        split at he
        · rename_i x t ea h0
          obtain ⟨x', eargs, hx⟩ := one_arg ea hr
          rw [eargs]
          split at he
          · rename_i e p r es off n hu hs
            simp only [Option.some.injEq, Prod.mk.injEq] at he; obtain ⟨rfl, rfl, rfl⟩ := he
            refine .same (v' := .int .i64 n) H ?_ (.int _ _)
            have hln : (Builtin.len_ argTypes ty #[x']).run P w = .ok (.int .i64 n) w := by
              obtain ⟨m, rfl, ⟨a', y, rfl, rfl, _⟩ | ⟨b, sz, c', rfl, _⟩⟩ := asRs_rel hs hx <;> simp [Builtin.len_, h0, run_underlying hu, goInt]
            simp [builtin, hln]
          · cases he
        · cases he
      case append =>
        split at he
        · rename_i s x st xt ea h0 h1
          obtain ⟨s', x', eargs, hs, hx⟩ := two_args ea hr
          rw [eargs]
          split at he
          · rename_i elem xe p r es off n hus hux hrs
            split at he
            · rename_i rows ti zs hg hti hzs
              split at he
              · cases he
              · rename_i hc
                simp only [Bool.and_eq_true, Nat.beq_eq, Nat.ble_eq] at hc
                obtain ⟨⟨⟨rfl, rfl⟩, hpos⟩, rfl⟩ := hc
                obtain ⟨i, zv, hi, hz, hzz⟩ := zsize_info hzs
                rw [hti] at hi; simp only [Option.some.injEq] at hi; subst hi
                have hg := rowsAt_get hg
                have hrel := asRs_rel hrs hs
                obtain ⟨nn, rfl⟩ : ∃ nn : Nat, n = nn := ⟨_, hrel.choose_spec.1⟩
                have fin : ∀ {k : Nat} {new new' : List Value}, liveAt rows r = true → (cellsAt rows r).length = nn * ti.size → (∀ w, (Builtin.lenOf x').run P w = .ok k w) → (nn + k) * (ti.bytes + 1) ≤ 1099511627776 →
                    (∀ d, (Builtin.firstCells ti.size k x').run P { w with drawn := d } = .ok new'.toArray { w with drawn := d }) → LRel σ new new' → new.length = k * ti.size → new'.all Go.Ideal.oneCell = true →
                    OpRes P B w0 σ (builtin .append argTypes ty (args.map fun | .const _ => true | _ => false) #[s', x']) w (rsl p rows.length ti.size 0 ((nn : Int) + (k : Int))) (h.set p (.pool (moveAt rows r new))) := fun {k new new'} g0 g00 g1 g2 g3 g4 g5 g6 => by
                  obtain ⟨σ', w', v', k1, k2, k3, k4⟩ := pool_append (ty := ty) H h0 h1 hus (.inl ⟨_, hux⟩) hti hz hzz hg (liveAt_get g0) hrel g00 g1 g2 g3 g4 g5 g6
                  exact ⟨σ', w', _, v', k1, by simp [builtin, k2], .inl rfl, by rw [← Int.natCast_add]; exact k3, k4⟩
                split at he
                · rename_i k xs hxs
                  simp only [Option.some.injEq, Prod.mk.injEq] at he; obtain ⟨rfl, rfl, rfl⟩ := he
                  obtain ⟨q0, q1⟩ := hl.cons
                  obtain ⟨q1, q2⟩ := q1.cons
                  obtain ⟨q2, q3⟩ := q2.cons
                  have q3 := q3.cons.1
                  simp only [Ask.holds, Array.length_toList, Int.toNat_natCast] at q0 q1 q2 q3
                  obtain ⟨kn, rfl, hsl⟩ := asSl_rel hxs hx
                  simp only [Int.toNat_natCast] at q1
                  have hbig : (nn + kn) * (ti.bytes + 1) ≤ 1099511627776 := by
                    have : (((nn + kn) * (ti.bytes + 1) : Nat) : Int) ≤ 1099511627776 := by simpa using q2
                    omega
                  rcases hsl with ⟨a', c', rfl, rfl, rfl⟩ | ⟨b, o, c', rfl, hcc, hst⟩
                  · exact fin (k := 0) (new := []) (new' := []) q0.1 q0.2 (fun w => by simp [Builtin.lenOf]) (by simpa using hbig) (fun d => by cases a' <;> simp [Builtin.firstCells, loadCells, loadCellsFrom]) .nil (by simp) rfl
                  · obtain ⟨ms, k1, k2, k3⟩ := hst.load (P := P) 0 (kn * ti.size) (by omega)
                    have k3 : ∀ j : Nat, FRel σ.f (xs.toList.getD j undef) (ms.getD j undef) := fun j => by
                      have := k3 j
                      rw [List.drop_zero, List.take_of_length_le (by simp; omega)] at this
                      exact this
                    have hlr : LRel σ xs.toList ms := LRel.of_getD (by rw [k2]; simpa using q1) fun j _ => (k3 j).vrel
                    exact fin (k := kn) (new := xs.toList) (new' := ms) q0.1 q0.2 (fun w => by simp [Builtin.lenOf]) hbig (fun d => by simpa [Builtin.firstCells] using k1 { w with drawn := d } ⟨H.frz.c, H.frz.m⟩) hlr (by simpa using q1) (hlr.ones q3)
                · split at he
                  · rename_i k hlk
                    split at he
                    · rename_i new hfi
                      split at he
                      · rename_i hc
                        simp only [Bool.and_eq_true, Nat.beq_eq] at hc
                        obtain ⟨c1, c3⟩ := hc
                        simp only [Option.some.injEq, Prod.mk.injEq] at he; obtain ⟨rfl, rfl, rfl⟩ := he
                        obtain ⟨q0, q1⟩ := hl.cons
                        have q1 := q1.cons.1
                        simp only [Ask.holds, Int.toNat_natCast] at q0 q1
                        have hbig : (nn + k) * (ti.bytes + 1) ≤ 1099511627776 := by
                          have : (((nn + k) * (ti.bytes + 1) : Nat) : Int) ≤ 1099511627776 := by simpa using q1
                          omega
                        obtain ⟨new', n3, n2, _⟩ := first_sound_d H hfi hlk (Nat.le_refl k) hx
                        exact fin q0.1 q0.2 (len_run hlk hx) hbig n3 n2 c1 (n2.ones c3)
                      · cases he
                    · cases he
                  · cases he
            · cases he
          · cases he
        · cases he
  case convert s d x =>
    simp only [opP] at he
    simp only [List.all_cons, List.all_nil, Bool.and_true] at hok
    have kx := ev_sound H hts hok
    split at he
    · rename_i e p r es off n hu hd hs
      split at he
      · rename_i rows hb hg
        split at he
        · rename_i l' hes hby
          simp only [Option.some.injEq, Prod.mk.injEq] at he; obtain ⟨rfl, rfl, rfl⟩ := he
          obtain ⟨q0, q1⟩ := hl.cons.1
          obtain ⟨ns, e1, e2⟩ := bytes_ints hby
          obtain ⟨m, rfl, ⟨a', y, e', hm0, _, hT0⟩ | ⟨b, sz, c', e', hT, hsz, hnc⟩⟩ := asRs_rel hs kx
          · subst hm0
            have : ns = [] := by cases ns with | nil => rfl | cons _ _ => simp at e1
            subst this
            subst e2
            cases a' with
            | none => exact .same H (op_map rfl (by simp [convert, hu, hd, hb, run_underlying, e', Conv.bytesToString]; rfl)) (.string _)
            | some ad =>
              refine .same (v' := .string ⟨#[]⟩) H (op_map rfl ?_) (.string _)
              rw [e', run_convert_bytes_string w s d e _ _ _ hu hb hd, run_bytesToString w ad 0 0 [] (by simp [loadCells, loadCellsFrom])]
              rfl
          · rw [Int.toNat_natCast] at q1 e1
            obtain ⟨cs', g1, g2, g3⟩ := row_load (w := w) (P := P) H (rowsAt_get hg) (liveAt_get q0) hT off m q1
            rw [e1] at g2
            have hcs : cs' = ns.map (Value.int .u8) := ints_same g2
            subst hcs
            subst e2
            have hload := g1 w.drawn
            refine .same (v' := .string ⟨(ns.map fun n => UInt8.ofNat n.toNat).toArray⟩) H (op_map rfl ?_) (.string _)
            rw [e', run_convert_bytes_string w s d e _ _ _ hu hb hd, run_bytesToString w _ m c' ns hload, foldl_bytes]
            congr 2
            simp
        · cases he
      · cases he
    · cases he
  all_goals (simp [opP] at he)
end

end Go.Ideal

end
