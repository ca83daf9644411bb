/- Operations that ask: where what they ask holds, the ideal interpreter answers so. Over any program. -/
import Derived.Test.YtepijhnfeafmaaaIWpA
set_option linter.unusedVariables false
set_option linter.unusedSimpArgs false
namespace Go.Ideal
open Go.RowKit

variable {P : Program} {o : Oper} {ts : List Value} {h h' : Heap} {told : Option Value} {v : Value} {l : List Ask}

def IsV (v : Value) : Prop := ∃ t u, v = .iface t u ∧ isV t = true
theorem asSl_isV {v : Value} {r : Int × Array Value} (h : asSl v = some r) : IsV v := by
  unfold asSl at h
  split at h
  · split at h
    · exact ⟨_, _, rfl, rfl⟩
    · exact ⟨_, _, rfl, rfl⟩
    · cases h
  · cases h
theorem asPt_isV {v : Value} {r : Nat × Array Value} (h : asPt v = some r) : IsV v := by
  unfold asPt at h
  split at h
  · split at h
    · exact ⟨_, _, rfl, rfl⟩
    · cases h
  · cases h
theorem asMp_isV {v : Value} {r : Array Value × Array Value} (h : asMp v = some r) : IsV v := by
  unfold asMp at h
  split at h
  · split at h
    · exact ⟨_, _, rfl, rfl⟩
    · cases h
  · cases h
theorem asOs_isV {v : Value} {r : Nat × Nat × Int × Array Value} (h : asOs v = some r) : IsV v := by
  unfold asOs at h
  split at h
  · split at h
    · exact ⟨_, _, rfl, rfl⟩
    · cases h
  · cases h
theorem IsV.flat {v : Value} (h : IsV v) : Go.Ideal.flat v = false := by
  obtain ⟨t, u, rfl, ht⟩ := h
  simp [Go.Ideal.flat, flatN, ht]
theorem IsV.flatOp {x : Operand} (h : IsV (evI ts x)) : flatOp ts x = false := by
  cases x with
  | global g => rfl
  | _ => exact h.flat
theorem nilSide_isV {t : TypeId} {x y : Value} {l : List Ask} (h : nilSide P t x y = some l) : IsV x ∧ (y = .pointer none ∨ y = .map none ∨ ∃ n c, y = .slice none n c) := by
  unfold nilSide at h
  split at h
  · cases hs : asSl x with
    | none => simp [hs] at h
    | some r => exact ⟨asSl_isV hs, .inr (.inr ⟨_, _, rfl⟩)⟩
  · cases hs : asPt x with
    | none => simp [hs] at h
    | some r => exact ⟨asPt_isV hs, .inl rfl⟩
  · cases hs : asMp x with
    | none => simp [hs] at h
    | some r => exact ⟨asMp_isV hs, .inr (.inl rfl)⟩
  · cases h
theorem eqNil_isV {t : TypeId} {x y : Value} (h : IsV x) : eqNil P t x y = none ∧ eqNil P t y x = none := by
  obtain ⟨tt, u, rfl, ht⟩ := h
  constructor
  · unfold eqNil; split <;> first | rfl | (simp_all; done) | (rename_i hx _; cases hx; rw [ht])
  · unfold eqNil; split <;> first | rfl | (simp_all; done) | (rename_i _ hx; cases hx; rw [ht])

theorem lenB_none {c : Call} {x : Value} {dst : Option Tmp} {ty : TypeId} {pos : String} {after : Array Edge} {guard : Option (Nat × Bool)} {args : Array Operand} {argTypes : Array TypeId} {t : TypeId} (ea : args.toList.map (evI ts) = [x]) (h0 : argTypes[0]? = some t)
    (hu : (∃ e, P.underlying t = some (.slice e)) ∨ ∃ k e, P.underlying t = some (.map k e)) (hx : IsV x ∨ ∃ a, x = .map a) (hm : ∀ a, x = .map a → a ≠ none) : opB P ⟨dst, .call ⟨.builtin .len, args, argTypes⟩, ty, pos, after, guard⟩ ts h = none := by
  have hfl : Go.Ideal.flat x = false := by
    rcases hx with hx | ⟨a, rfl⟩
    · exact hx.flat
    · cases a with
      | none => exact absurd rfl (hm none rfl)
      | some a => rfl
  have hall : args.toList.all (flatOp ts) = false := by
    match hl : args.toList, ea with
    | [y], ea =>
      simp only [List.map_cons, List.map_nil, List.cons.injEq, and_true] at ea
      simp only [List.all_cons, List.all_nil, Bool.and_true]
      cases y with
      | global g => rfl
      | _ => rw [← ea] at hfl; exact hfl
    | [], ea => simp at ea
    | _ :: _ :: _, ea => simp at ea
  have hb : builtinI P h .len argTypes [x] = none := by
    simp only [builtinI, h0]
    rcases hu with ⟨e, hu⟩ | ⟨k, e, hu⟩ <;> rcases hx with ⟨tt, u, rfl, _⟩ | ⟨a, rfl⟩ <;> rw [hu]
  simp only [opB, ea, hb, hall, Bool.false_eq_true, if_false]

theorem opV_opB (he : opV P o ts told = some (v, l)) (h : Heap) : opB P o ts h = none := by
  obtain ⟨dst, op, ty, pos, after, guard⟩ := o
  cases op <;> simp only [opV] at he <;> try (cases he; done)
  case indexAddr t x ix =>
    simp only [opB]
    split at he
    · rename_i i elem hi hu
      split at he
      · rename_i n cs size hs hsz
        obtain ⟨tt, u, e, _⟩ := asSl_isV hs
        rw [hi, hu, e]
      · cases he
    · rename_i i len elem hi hu
      split at he
      · rename_i off cs size hs hsz
        obtain ⟨tt, u, e, _⟩ := asPt_isV hs
        rw [hi, hu, e]
      · cases he
    · cases he
  case fieldAddr s x f =>
    simp only [opB]
    split at he
    · rename_i fl off cs hf hs
      obtain ⟨tt, u, e, _⟩ := asPt_isV hs
      rw [hf, e]
    · cases he
  case nilCheck x =>
    simp only [opB]
    split at he
    · rename_i off cs hs
      obtain ⟨tt, u, e, ht⟩ := asPt_isV hs
      rw [e]; simp only [ht]
    · cases he
  case load t x =>
    simp only [opB]
    split at he
    · rename_i off cs hs
      obtain ⟨tt, u, e, ht⟩ := asPt_isV hs
      rw [e]
    · cases he
  case slice t x lo hi mx =>
    simp only [opB]
    split at he
    · rename_i elem hu
      rw [hu]
      simp only
      split at he
      · rename_i hs _ _
        obtain ⟨tt, u, e, ht⟩ := asSl_isV hs
        rw [e]
      · rename_i hs _ _ _
        obtain ⟨tt, u, e, ht⟩ := asSl_isV hs
        rw [e]
      · cases he
    · cases he
  case binOp op t x y t2 =>
    have key : (IsV (evI ts x) ∨ IsV (evI ts y)) → opB P ⟨dst, .binOp op t x y t2, ty, pos, after, guard⟩ ts h = none := fun hv => by
      have hfl : (flatOp ts x && flatOp ts y) = false := by
        rcases hv with hv | hv
        · rw [hv.flatOp]; rfl
        · rw [hv.flatOp, Bool.and_false]
      have heq : eqNil P t (evI ts x) (evI ts y) = none := by
        rcases hv with hv | hv
        · exact (eqNil_isV hv).1
        · exact (eqNil_isV hv).2
      simp only [opB, hfl, heq]
      cases op <;> rfl
    cases op <;> simp only at he <;> try (cases he; done)
    all_goals
      split at he
      · rename_i l' hn; exact key (.inl (nilSide_isV hn).1)
      · split at he
        · rename_i l' hn; exact key (.inr (nilSide_isV hn).1)
        · cases he
  case convert s d x =>
    have key : ∀ {e : TypeId}, P.underlying s = some (.slice e) → P.underlying d = some .string → IsV (evI ts x) → opB P ⟨dst, .convert s d x, ty, pos, after, guard⟩ ts h = none := fun {e} hu hd hv => by
      simp only [opB]
      have hfl := hv.flatOp
      obtain ⟨tt, u, e, ht⟩ := hv
      rw [hu, hd, e, hfl]
      rfl
    split at he
    · rename_i hu hd hs; exact key hu hd (asSl_isV hs)
    · rename_i hu hd hs; exact key hu hd (asSl_isV hs)
    · cases he
  case call c =>
    obtain ⟨callee, args, argTypes⟩ := c
    cases callee with
    | value f => cases he
    | invoke r m => cases he
    | builtin b =>
      cases b <;> simp only at he <;> try (cases he; done)
      split at he
      · rename_i x t ea h0
        split at he
        · rename_i e n cs hu hs
          exact lenB_none (c := ⟨.builtin .len, args, argTypes⟩) ea h0 (.inl ⟨e, hu⟩) (.inl (asSl_isV hs)) (fun a e => by obtain ⟨_, _, e2, _⟩ := asSl_isV hs; rw [e] at e2; cases e2)
        · rename_i kt et hu hs
          split at he
          · rename_i ks vs hm
            exact lenB_none (c := ⟨.builtin .len, args, argTypes⟩) ea h0 (.inr ⟨kt, et, hu⟩) (.inl (asMp_isV hm)) (fun a e => by obtain ⟨_, _, e2, _⟩ := asMp_isV hm; rw [e] at e2; cases e2)
          · cases he
        · cases he
      · cases he

theorem tests {P : Program} {l : List Ask} (hl : Holds P l) (hs : ∀ a ∈ l, (∃ x y, a = .le x y) ∨ (∃ x y, a = .lt x y) ∨ (∃ x y, a = .eq x y) ∨ ∃ cs, a = .ones cs) : l.all Ask.test = true :=
  List.all_eq_true.2 fun a ha => by
    have hh := hl a ha
    rcases hs a ha with ⟨x, y, rfl⟩ | ⟨x, y, rfl⟩ | ⟨x, y, rfl⟩ | ⟨cs, rfl⟩
    · simpa [Ask.test, Ask.holds] using hh
    · simpa [Ask.test, Ask.holds] using hh
    · simpa [Ask.test, Ask.holds] using hh
    · exact hh

theorem nilSide_simple {t : TypeId} {x y : Value} {l : List Ask} (h : nilSide P t x y = some l) : ∀ a ∈ l, (∃ x y, a = .le x y) ∨ (∃ x y, a = .lt x y) ∨ (∃ x y, a = .eq x y) ∨ ∃ cs, a = .ones cs := by
  unfold nilSide at h
  split at h
  · cases hs : asSl x with
    | none => simp [hs] at h
    | some r => obtain ⟨n, cs⟩ := r; simp only [hs, Option.some.injEq] at h; subst h; intro a ha; simp at ha; subst ha; exact .inr (.inl ⟨_, _, rfl⟩)
  · cases hs : asPt x with
    | none => simp [hs] at h
    | some r => simp only [hs, Option.some.injEq] at h; subst h; intro a ha; cases ha
  · cases hs : asMp x with
    | none => simp [hs] at h
    | some r => simp only [hs, Option.some.injEq] at h; subst h; intro a ha; cases ha
  · cases h

theorem ptPart_none {t : TypeId} {off : Nat} {cs : Array Value} (he : ptPart P t off cs told = some (v, l)) (hl : Holds P l) : ∃ l', ptPart P t off cs none = some (v, l') ∧ l'.all Ask.test = true := by
  unfold ptPart at he ⊢
  split at he
  · rename_i n h1 h2
    split at he
    · rename_i l2
      simp only [Option.some.injEq, Prod.mk.injEq] at he; obtain ⟨rfl, rfl⟩ := he
      obtain ⟨q1, q2⟩ := hl.cons.1
      refine ⟨_, by rw [q2], ?_⟩
      simp only [List.all_cons, List.all_nil, Bool.and_true, Ask.test, decide_eq_true_eq]
      omega
    · cases he
    · simp only [Option.some.injEq, Prod.mk.injEq] at he; obtain ⟨rfl, rfl⟩ := he
      exact ⟨_, rfl, tests hl fun a ha => by simp at ha; subst ha; exact .inl ⟨_, _, rfl⟩⟩
  · rename_i n h1 h2
    split at he
    · simp only [Option.some.injEq, Prod.mk.injEq] at he; obtain ⟨rfl, rfl⟩ := he
      rename_i v0
      obtain ⟨q1, q2⟩ := hl.cons.1
      have : cs.toList[off]? = some v0 := by
        have hlt : off < cs.toList.length := by omega
        rw [List.drop_eq_getElem_cons hlt] at q2
        simp only [List.take_succ_cons, List.take_zero, List.cons.injEq, and_true] at q2
        rw [List.getElem?_eq_getElem hlt, q2]
      exact ⟨[], by simp [this], rfl⟩
    · split at he
      · rename_i u hu
        simp only [Option.some.injEq, Prod.mk.injEq] at he; obtain ⟨rfl, rfl⟩ := he
        exact ⟨[], by simp [hu], rfl⟩
      · cases he
  · cases he

theorem opV_none (he : opV P o ts told = some (v, l)) (hl : Holds P l) : ∃ l', opV P o ts none = some (v, l') ∧ l'.all Ask.test = true := by
  obtain ⟨dst, op, ty, pos, after, guard⟩ := o
  cases op <;> simp only [opV] at he ⊢ <;> try (cases he; done)
  case indexAddr t x ix =>
    refine ⟨l, he, tests hl fun a ha => ?_⟩
    repeat' split at he
    all_goals first
      | (cases he; done)
      | (simp only [Option.some.injEq, Prod.mk.injEq] at he; obtain ⟨rfl, rfl⟩ := he
         simp at ha; rcases ha with rfl | rfl
         · exact .inl ⟨_, _, rfl⟩
         · exact .inr (.inl ⟨_, _, rfl⟩))
  case fieldAddr s x f =>
    refine ⟨l, he, tests hl fun a ha => ?_⟩
    repeat' split at he
    all_goals first
      | (cases he; done)
      | (simp only [Option.some.injEq, Prod.mk.injEq] at he; obtain ⟨rfl, rfl⟩ := he; cases ha)
  case nilCheck x =>
    refine ⟨l, he, tests hl fun a ha => ?_⟩
    repeat' split at he
    all_goals first
      | (cases he; done)
      | (simp only [Option.some.injEq, Prod.mk.injEq] at he; obtain ⟨rfl, rfl⟩ := he; cases ha)
  case load t x =>
    split at he
    · exact ptPart_none he hl
    · cases he
  case slice t x lo hi mx =>
    refine ⟨l, he, tests hl fun a ha => ?_⟩
    repeat' split at he
    all_goals first
      | (cases he; done)
      | (simp only [Option.some.injEq, Prod.mk.injEq] at he; obtain ⟨rfl, rfl⟩ := he
         first
           | (cases ha; done)
           | (simp at ha; rcases ha with rfl | rfl | rfl <;> exact .inl ⟨_, _, rfl⟩)
           | (simp at ha; rcases ha with rfl | rfl | rfl | rfl <;> exact .inl ⟨_, _, rfl⟩))
  case binOp op t x y t2 =>
    cases op <;> (try simp only at he ⊢) <;> try (cases he; done)
    all_goals
      refine ⟨l, he, tests hl ?_⟩
      split at he
      · rename_i l' hn; simp only [Option.some.injEq, Prod.mk.injEq] at he; obtain ⟨rfl, rfl⟩ := he; exact nilSide_simple hn
      · split at he
        · rename_i l' hn; simp only [Option.some.injEq, Prod.mk.injEq] at he; obtain ⟨rfl, rfl⟩ := he; exact nilSide_simple hn
        · cases he
  case convert s d x =>
    split at he
    · rename_i e n cs str hu hd hs
      split at he
      · rename_i hb
        simp only [Option.some.injEq, Prod.mk.injEq] at he; obtain ⟨rfl, rfl⟩ := he
        obtain ⟨q0, q1⟩ := hl.cons
        simp only [Ask.holds] at q0
        exact ⟨_, by simp only [hu, hd, hs, hb, q0], tests q1 fun a ha => by simp at ha; subst ha; exact .inr (.inr (.inl ⟨_, _, rfl⟩))⟩
      · cases he
    · rename_i e n cs hu hd hs
      simp only [hu, hd, hs]
      refine ⟨l, he, tests hl fun a ha => ?_⟩
      split at he
      · simp only [Option.some.injEq, Prod.mk.injEq] at he; obtain ⟨rfl, rfl⟩ := he
        simp at ha; subst ha; exact .inr (.inr (.inl ⟨_, _, rfl⟩))
      · cases he
    · cases he
  case call c =>
    obtain ⟨callee, args, argTypes⟩ := c
    cases callee with
    | value f => cases he
    | invoke r m => cases he
    | builtin b =>
      cases b <;> (try simp only at he ⊢) <;> try (cases he; done)
      refine ⟨l, he, tests hl fun a ha => ?_⟩
      repeat' split at he
      all_goals first
        | (cases he; done)
        | (simp only [Option.some.injEq, Prod.mk.injEq] at he; obtain ⟨rfl, rfl⟩ := he; cases ha)

theorem opV_opI (he : opV P o ts told = some (v, l)) (hl : Holds P l) (h : Heap) : opI P o ts h = some (v, h) := by
  obtain ⟨l', k1, k2⟩ := opV_none he hl
  unfold opI
  rw [opV_opB he h, k1]
  simp only [k2]

theorem sameN_refl : ∀ (m n : Nat) (v : Value), m ≤ n → plainK m v = true → sameN n v v = true
  | 0, _, _, _, h => by simp [plainK] at h
  | m + 1, 0, _, hle, _ => by omega
  | m + 1, n + 1, v, hle, h => by
    cases v with
    | bool b => simp [sameN]
    | int k x => simp [sameN]
    | string s => simp [sameN]
    | agg cs =>
      simp only [plainK] at h
      simp only [sameN]
      have key : ∀ (l : List Value), l.all (plainK m) = true → sameN.sameL n l l = true := fun l => by
        induction l with
        | nil => intro _; rfl
        | cons x l ih =>
          intro hl
          simp only [List.all_cons, Bool.and_eq_true] at hl
          simp only [sameN.sameL, Bool.and_eq_true]
          exact ⟨sameN_refl m n x (by omega) hl.1, ih hl.2⟩
      exact key cs.toList h
    | _ => simp [plainK] at h

theorem placeI_none {kt : TypeId} {k : Value} {ks : List Value} {r : Option Nat} (he : placeI P kt k ks told = some (r, l)) (hl : Holds P l) : placeI P kt k ks none = some (r, []) := by
  have := placeI_find he hl
  simp only [placeI, this]

theorem notFlat {args : Array Operand} {x : Value} {r : List Value} (ea : args.toList.map (evI ts) = x :: r) (hf : Go.Ideal.flat x = false) : args.toList.all (flatOp ts) = false := by
  match hl : args.toList, ea with
  | y :: l, ea =>
    simp only [List.map_cons, List.cons.injEq] at ea
    simp only [List.all_cons]
    have : flatOp ts y = false := by
      cases y with
      | global g => rfl
      | _ => rw [← ea.1] at hf; exact hf
    rw [this, Bool.false_and]
  | [], ea => simp at ea

theorem opH_opI (he : opH P o ts h told = some (v, h', l)) (hl : Holds P l) : opI P o ts h = some (v, h') := by
  have fin : opB P o ts h = none → opV P o ts none = none → (∃ l', opH P o ts h none = some (v, h', l') ∧ l'.all Ask.test = true) → opI P o ts h = some (v, h') := fun h1 h2 ⟨l', h3, h4⟩ => by
    unfold opI; rw [h1, h2, h3]; simp only [h4]
  obtain ⟨dst, op, ty, pos, after, guard⟩ := o
  have upd : ∀ {t : TypeId} {m k x : Operand},
      (match P.underlying t, evI ts m with
        | some (.map kt _), .map (some i) => match h.get i, keyOK P kt (evI ts k) with
          | some (.map ks vs), true => match placeI P kt (evI ts k) ks told with
            | some (some j, l) => some (Go.undef, h.set i (.map ks (vs.set j (evI ts x))), Ask.get ks j (evI ts k) :: l)
            | some (none, l) => some (Go.undef, h.set i (.map (ks ++ [evI ts k]) (vs ++ [evI ts x])), l)
            | none => none
          | _, _ => none
        | _, _ => none) = some (v, h', l) →
      ∃ l', (match P.underlying t, evI ts m with
        | some (.map kt _), .map (some i) => match h.get i, keyOK P kt (evI ts k) with
          | some (.map ks vs), true => match placeI P kt (evI ts k) ks none with
            | some (some j, l) => some (Go.undef, h.set i (.map ks (vs.set j (evI ts x))), Ask.get ks j (evI ts k) :: l)
            | some (none, l) => some (Go.undef, h.set i (.map (ks ++ [evI ts k]) (vs ++ [evI ts x])), l)
            | none => none
          | _, _ => none
        | _, _ => none) = some (v, h', l') ∧ l'.all Ask.test = true := fun {t m k x} he => by
    split at he
    · rename_i kt et i hu em
      split at he
      · rename_i ks vs hg hkey
        split at he
        · rename_i j l' hp
          simp only [Option.some.injEq, Prod.mk.injEq] at he; obtain ⟨rfl, rfl, rfl⟩ := he
          obtain ⟨q0, q1⟩ := hl.cons
          refine ⟨[.get ks j (evI ts k)], by simp only [hg, hkey, placeI_none hp q1], ?_⟩
          obtain ⟨_, _, f2, _⟩ := keyOK_spec hkey
          simp only [Ask.holds] at q0
          simp only [List.all_cons, List.all_nil, Bool.and_true, Ask.test, q0, sameN_refl 6 6 _ (Nat.le_refl _) f2]
        · rename_i l' hp
          simp only [Option.some.injEq, Prod.mk.injEq] at he; obtain ⟨rfl, rfl, rfl⟩ := he
          exact ⟨[], by simp only [hg, hkey, placeI_none hp hl], rfl⟩
        · cases he
      · cases he
    · cases he
  cases op <;> simp only [opH] at he <;> try (cases he; done)
  case makeMap t r => exact fin rfl rfl ⟨l, he, by cases r <;> simp at he; obtain ⟨_, _, rfl⟩ := he; rfl⟩
  case mapUpdate t m k x => exact fin rfl rfl (upd he)
  case insert t m k x => exact fin rfl rfl (upd he)
  case lookup t x k ok =>
    refine fin rfl rfl ?_
    simp only [opH]
    split at he
    · rename_i kt et ks vs hu hm
      split at he
      · rename_i j l' hkey hp
        split at he
        · rename_i arr
          split at he
          · rename_i y0 u ha
            simp only [Option.some.injEq, Prod.mk.injEq] at he; obtain ⟨rfl, rfl, rfl⟩ := he
            obtain ⟨q0, q1⟩ := hl.cons
            simp only [Ask.holds] at q0
            exact ⟨[], by simp only [hkey, placeI_none hp q1, q0], rfl⟩
          · cases he
        · split at he
          · rename_i u hget
            simp only [Option.some.injEq, Prod.mk.injEq] at he; obtain ⟨rfl, rfl, rfl⟩ := he
            exact ⟨[], by simp only [hkey, placeI_none hp hl, hget], rfl⟩
          · cases he
      · rename_i l' hkey hp
        split at he
        · rename_i z hz
          split at he
          · rename_i hfz
            simp only [Option.some.injEq, Prod.mk.injEq] at he; obtain ⟨rfl, rfl, rfl⟩ := he
            exact ⟨[], by simp only [hkey, placeI_none hp hl, hz, hfz], rfl⟩
          · cases he
        · cases he
      · cases he
    · cases he
  case call c =>
    obtain ⟨callee, args, argTypes⟩ := c
    cases callee with
    | value f => cases he
    | invoke r m => cases he
    | builtin b =>
      cases b <;> (try simp only at he) <;> try (cases he; done)
      case append =>
        split at he
        · rename_i s x st xt ea h0 h1
          split at he
          · rename_i elem xe tok es n cs hus hux hos
            have hv := asOs_isV hos
            have hB : opB P ⟨dst, .call ⟨.builtin .append, args, argTypes⟩, ty, pos, after, guard⟩ ts h = none := by
              have hall := notFlat ea hv.flat
              have hb : builtinI P h .append argTypes [s, x] = none := by
                obtain ⟨tt, u, rfl, _⟩ := hv
                simp only [builtinI, h0, h1, hus, hux]
                cases sizeI P elem <;> cases lenI x <;> try rfl
                rename_i size n2
                simp only
                cases firstI h size n2 x with
                | none => rfl
                | some new =>
                  simp only
                  split
                  · unfold appendI
                    cases P.info? elem with
                    | none => rfl
                    | some ti => simp only; split <;> first | rfl | (split <;> rfl)
                  · rfl
              simp only [opB, ea, hb, hall, Bool.false_eq_true, if_false]
            refine fin hB rfl ?_
            simp only [opH, ea, h0, h1, hus, hux, hos]
            split at he
            · rename_i m t ti zs hg hti hzs
              split at he
              · cases he
              · rename_i hc
                split at he
                · rename_i k xs hxs
                  simp only [Option.some.injEq, Prod.mk.injEq] at he; obtain ⟨rfl, rfl, rfl⟩ := he
                  refine ⟨_, by simp only [hg, hti, hzs, hc, hxs], tests hl fun a ha => ?_⟩
                  simp at ha; rcases ha with rfl | rfl | rfl | rfl
                  · exact .inr (.inr (.inl ⟨_, _, rfl⟩))
                  · exact .inr (.inr (.inl ⟨_, _, rfl⟩))
                  · exact .inl ⟨_, _, rfl⟩
                  · exact .inr (.inr (.inr ⟨_, rfl⟩))
                · rename_i hxs
                  split at he
                  · rename_i k hlk
                    split at he
                    · rename_i new hfi
                      split at he
                      · rename_i hcc
                        simp only [Option.some.injEq, Prod.mk.injEq] at he; obtain ⟨rfl, rfl, rfl⟩ := he
                        refine ⟨_, by simp only [hg, hti, hzs, hc, hxs, hlk, hfi, hcc], tests hl fun a ha => ?_⟩
                        simp at ha; rcases ha with rfl | rfl
                        · exact .inr (.inr (.inl ⟨_, _, rfl⟩))
                        · exact .inl ⟨_, _, rfl⟩
                      · cases he
                    · cases he
                  · cases he
            · cases he
          · cases he
        · cases he
      case len =>
        split at he
        · rename_i i t ea h0
          split at he
          · rename_i kt et ks vs hu hg
            simp only [Option.some.injEq, Prod.mk.injEq] at he; obtain ⟨rfl, rfl, rfl⟩ := he
            refine fin (lenB_none (c := ⟨.builtin .len, args, argTypes⟩) ea h0 (.inr ⟨kt, et, hu⟩) (.inr ⟨_, rfl⟩) (fun a e => by cases e; simp)) ?_ ⟨[], by simp only [opH, ea, h0, hu, hg], rfl⟩
            simp only [opV, ea, h0, hu, asSl, asMp]
          · cases he
        · cases he
      case delete =>
        split at he
        · rename_i m k t ea h0
          split at he
          · rename_i kt et i hu
            have hB : opB P ⟨dst, .call ⟨.builtin .delete, args, argTypes⟩, ty, pos, after, guard⟩ ts h = none := by
              have hall := notFlat ea (show Go.Ideal.flat (.map (some i)) = false from rfl)
              have hb : builtinI P h .delete argTypes [.map (some i), k] = none := rfl
              simp only [opB, ea, hb, hall, Bool.false_eq_true, if_false]
            refine fin hB rfl ?_
            simp only [opH, ea, h0, hu]
            split at he
            · rename_i ks vs hg hkey
              split at he
              · rename_i j l' hp
                simp only [Option.some.injEq, Prod.mk.injEq] at he; obtain ⟨rfl, rfl, rfl⟩ := he
                exact ⟨[], by simp only [hg, hkey, placeI_none hp hl], rfl⟩
              · rename_i l' hp
                simp only [Option.some.injEq, Prod.mk.injEq] at he; obtain ⟨rfl, rfl, rfl⟩ := he
                exact ⟨[], by simp only [hg, hkey, placeI_none hp hl], rfl⟩
              · cases he
            · cases he
          · cases he
        · cases he

theorem rd_part {h : Heap} {ad : Addr} {cs : List Value} {t : TypeId} {m : Mode} {n : Nat} {out : List Value} (hg : h.get ad.block = some (.cells cs t m)) (hs : ad.spot = none) (hm : m ≠ .dead) (h1 : ad.off + n ≤ cs.length) (h2 : (cs.drop ad.off).take n = out) : rdCells h ad n = some out := by
  unfold rdCells; rw [hg, hs]
  cases m with
  | dead => exact absurd rfl hm
  | _ => simp only [if_pos h1, h2]

theorem opC_opI (he : opC P o ts h told = some (v, h', l)) (hl : Holds P l) : opI P o ts h = some (v, h') := by
  have fin : opB P o ts h = some (v, h') → opI P o ts h = some (v, h') := fun hb => by unfold opI; rw [hb]
  obtain ⟨dst, op, ty, pos, after, guard⟩ := o
  cases op <;> simp only [opC] at he <;> try (cases he; done)
  case slice t x lo hi mx =>
    split at he
    · split at he
      · rename_i v0 l0 hv
        simp only [Option.some.injEq, Prod.mk.injEq] at he; obtain ⟨rfl, rfl, rfl⟩ := he
        have h1 := hl.cons.1
        simp only [Ask.holds, List.getElem?_cons_zero, Option.some.injEq] at h1
        subst h1
        exact opV_opI hv hl.cons.2 h
      · cases he
    · cases he
  case binOp op t x y t2 =>
    split at he
    · cases he
    · rename_i hf
      simp only [Bool.and_eq_true] at hf
      obtain ⟨fx, fy⟩ := hf
      have eqs : ∀ {c d : Array Value} {b : Bool}, evI ts x = .agg c → evI ts y = .agg d → eqD P 10000 t (.agg c) (.agg d) = some b →
          (op = .eql → pureRun P (eqGuard .eql t x y (.agg c) (.agg d)) = some () → opB P ⟨dst, .binOp op t x y t2, ty, pos, after, guard⟩ ts h = some (.bool b, h)) ∧
          (op = .neq → pureRun P (eqGuard .neq t x y (.agg c) (.agg d)) = some () → opB P ⟨dst, .binOp op t x y t2, ty, pos, after, guard⟩ ts h = some (.bool (!b), h)) := fun {c d b} hx hy hb => by
        refine ⟨fun e hg => ?_, fun e hg => ?_⟩ <;> subst e
        · have hb2 : pureRun P (binOp .eql t (.agg c) (.agg d)) = some (.bool b) := by
            have := eqD_sound 10000 _ _ _ _ hb
            simp only [binOp, Op.equal, Op.maxDepth, pr_bind, this, Option.bind_some]; rfl
          have hc : pureRun P (execOp (evI ts) ⟨dst, .binOp .eql t x y t2, ty, pos, after, guard⟩) = some (.value (.bool b)) := by
            simp only [execOp, hx, hy, pr_bind, hg, hb2, Option.bind_some]; rfl
          simp [opB, fx, fy, hc, flat, flatN]
        · have hb2 : pureRun P (binOp .neq t (.agg c) (.agg d)) = some (.bool (!b)) := by
            have := eqD_sound 10000 _ _ _ _ hb
            simp only [binOp, Op.equal, Op.maxDepth, pr_bind, this, Option.bind_some]; rfl
          have hc : pureRun P (execOp (evI ts) ⟨dst, .binOp .neq t x y t2, ty, pos, after, guard⟩) = some (.value (.bool (!b))) := by
            simp only [execOp, hx, hy, pr_bind, hg, hb2, Option.bind_some]; rfl
          simp [opB, fx, fy, hc, flat, flatN]
      split at he
      · rename_i k a k2 b hx hy
        simp only [Option.some.injEq, Prod.mk.injEq] at he; obtain ⟨rfl, rfl, rfl⟩ := he
        have hn : ¬ b < 0 := by have := hl.cons.1; simp only [Ask.holds] at this; omega
        refine fin ?_
        simp [opB, fx, fy, execOp, hx, hy, eqGuard, binOp, Op.shift, hn, flat, flatN]
        rfl
      · rename_i k a k2 b hx hy
        simp only [Option.some.injEq, Prod.mk.injEq] at he; obtain ⟨rfl, rfl, rfl⟩ := he
        have hn : ¬ b < 0 := by have := hl.cons.1; simp only [Ask.holds] at this; omega
        refine fin ?_
        simp [opB, fx, fy, execOp, hx, hy, eqGuard, binOp, Op.shift, hn, flat, flatN]
        rfl
      · rename_i k a k2 b hx hy
        split at he
        · rename_i e; obtain rfl : k = k2 := by simpa using e
          simp only [Option.some.injEq, Prod.mk.injEq] at he; obtain ⟨rfl, rfl, rfl⟩ := he
          have hn : b ≠ 0 := hl.cons.1
          refine fin ?_
          simp [opB, fx, fy, execOp, hx, hy, eqGuard, binOp, Op.intDiv, hn, flat, flatN]
          rfl
        · cases he
      · rename_i k a k2 b hx hy
        split at he
        · rename_i e; obtain rfl : k = k2 := by simpa using e
          simp only [Option.some.injEq, Prod.mk.injEq] at he; obtain ⟨rfl, rfl, rfl⟩ := he
          have hn : b ≠ 0 := hl.cons.1
          refine fin ?_
          simp [opB, fx, fy, execOp, hx, hy, eqGuard, binOp, Op.intDiv, hn, flat, flatN]
          rfl
        · cases he
      · rename_i c d hx hy
        split at he
        · rename_i b hg
          simp only [Option.some.injEq, Prod.mk.injEq] at he; obtain ⟨rfl, rfl, rfl⟩ := he
          exact fin ((eqs hx hy hl.cons.1).1 rfl hg)
        · rename_i hg
          split at he
          · rename_i b hb
            simp only [Option.some.injEq, Prod.mk.injEq] at he; obtain ⟨rfl, rfl, rfl⟩ := he
            exact fin ((eqs hx hy hb).1 rfl hg)
          · cases he
        · cases he
      · rename_i c d hx hy
        split at he
        · rename_i b hg
          simp only [Option.some.injEq, Prod.mk.injEq] at he; obtain ⟨rfl, rfl, rfl⟩ := he
          exact fin ((eqs hx hy hl.cons.1).2 rfl hg)
        · rename_i hg
          split at he
          · rename_i b hb
            simp only [Option.some.injEq, Prod.mk.injEq] at he; obtain ⟨rfl, rfl, rfl⟩ := he
            exact fin ((eqs hx hy hb).2 rfl hg)
          · cases he
        · cases he
      · cases he
  case indexAddr t x ix =>
    split at he
    · rename_i i len elem b off hi hu hx
      split at he
      · rename_i size hsz
        simp only [Option.some.injEq, Prod.mk.injEq] at he; obtain ⟨rfl, rfl, rfl⟩ := he
        obtain ⟨q0, q1⟩ := hl.cons
        exact fin (by simp only [opB, hi, hu, hx, hsz]; rw [if_pos ⟨q0, q1.cons.1⟩, Addr.add_none])
      · cases he
    · rename_i i elem b off len cap hi hu hx
      split at he
      · rename_i size hsz
        simp only [Option.some.injEq, Prod.mk.injEq] at he; obtain ⟨rfl, rfl, rfl⟩ := he
        obtain ⟨q0, q1⟩ := hl.cons
        exact fin (by simp only [opB, hi, hu, hx, hsz]; rw [if_pos ⟨q0, q1.cons.1⟩, Addr.add_none])
      · cases he
    · cases he
  case index t x ix =>
    split at he
    · rename_i i len elem cs u hi hu hx
      split at he
      · rename_i size hsz
        simp only [Option.some.injEq, Prod.mk.injEq] at he; obtain ⟨rfl, rfl, rfl⟩ := he
        obtain ⟨q0, q1⟩ := hl.cons
        obtain ⟨q1, q2⟩ := q1.cons
        have q2 := q2.cons.1
        simp only [Ask.holds] at q2
        exact fin (by simp only [opB, hi, hu, hx, hsz]; rw [if_pos ⟨q0, q1⟩, q2]; rfl)
      · cases he
    · rename_i i s b hi hu hx
      simp only [Option.some.injEq, Prod.mk.injEq] at he; obtain ⟨rfl, rfl, rfl⟩ := he
      obtain ⟨q0, q1⟩ := hl.cons
      obtain ⟨c, q2, rfl⟩ := q1.cons.1
      exact fin (by simp only [opB, hi, hu, hx]; rw [if_pos (show 0 ≤ i from q0), q2])
    · cases he
  case load t a =>
    split at he
    · rename_i ad v2 hx
      split at he
      · cases he
      · rename_i cs t' md m hnd hg hs hag hn
        split at he
        · rename_i l'
          simp only [Option.some.injEq, Prod.mk.injEq] at he; obtain ⟨rfl, rfl, rfl⟩ := he
          obtain ⟨q1, q2⟩ := hl.cons.1
          have hr := rd_part hg hs (fun e => hnd e) q1 q2
          exact fin (by simp only [opB, hx, loadI, hag, hn, hr, Option.map_some])
        · cases he
      · rename_i cs t' md m hnd hg hs hag hn
        simp only [Option.some.injEq, Prod.mk.injEq] at he; obtain ⟨rfl, rfl, rfl⟩ := he
        obtain ⟨q1, q2⟩ := hl.cons.1
        have hr := rd_part hg hs (fun e => hnd e) q1 q2
        exact fin (by simp only [opB, hx, loadI, hag, hn, hr, Option.map_some])
      · cases he
    · cases he
  case store t a x =>
    split at he
    · rename_i ad n hx hn
      split at he
      · cases he
      · rename_i hlc
        simp only [Bool.and_eq_true] at hlc
        have hlen : (Value.cellList (evI ts x)).length = n := Nat.eq_of_beq_eq_true hlc.1
        have key : ∀ {cs : List Value} {t' : TypeId} {m : Mode}, (m = .fix ∨ m = .grow) → h.get ad.block = some (.cells cs t' m) → ad.spot = none → ad.off + n ≤ cs.length →
            opB P ⟨dst, .store t a x, ty, pos, after, guard⟩ ts h = some (Go.undef, h.set ad.block (.cells (splice cs ad.off (Value.cellList (evI ts x))) t' m)) := fun {cs t' m} hm hg hs q => by
          have hb : Nat.ble (ad.off + (Value.cellList (evI ts x)).length) cs.length = true := by rw [hlen]; simpa [Nat.ble_eq] using q
          rcases hm with rfl | rfl <;> simp only [opB, hx, storeI, hn, hlc.1, wrCells, hg, hs, hb, hlc.2, Bool.and_self, if_true, Option.map_some]
        split at he
        · rename_i cs t' hg hs
          simp only [Option.some.injEq, Prod.mk.injEq] at he; obtain ⟨rfl, rfl, rfl⟩ := he
          exact fin (key (.inl rfl) hg hs hl.cons.1)
        · rename_i cs t' hg hs
          simp only [Option.some.injEq, Prod.mk.injEq] at he; obtain ⟨rfl, rfl, rfl⟩ := he
          exact fin (key (.inr rfl) hg hs hl.cons.1)
        · cases he
    · cases he

theorem askI_opI (he : askI P o ts h told = some (v, h', l)) (hl : Holds P l) : opI P o ts h = some (v, h') := by
  unfold askI at he
  split at he
  · rename_i r hr; simp only [Option.some.injEq] at he; subst he; exact opC_opI hr hl
  · split at he
    · rename_i v1 l1 hv
      simp only [Option.some.injEq, Prod.mk.injEq] at he; obtain ⟨rfl, rfl, rfl⟩ := he
      exact opV_opI hv hl h
    · exact opH_opI he hl

end Go.Ideal
