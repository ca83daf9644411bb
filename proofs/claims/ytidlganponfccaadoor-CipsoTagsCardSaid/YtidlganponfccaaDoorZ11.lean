/- Texts packed together: IAsk IWpB. -/
import Derived.Test.YtidlganponfccaaDoorZ10
section
/- Operations that ask: where what they ask holds, the ideal interpreter answers so. Over any program. -/
set_option linter.unusedVariables false
set_option linter.unusedSimpArgs false
namespace Go.Ideal
open Go.RowKit

variable {P : Program} {o : Oper} {ts : List Value} {h h' : Heap} {told : Option Value} {v : Value} {l : List Ask}

def IsV (v : Value) : Prop := ∃ t u, v = .iface t u ∧ isV t = true
theorem asSl_isV {v : Value} {r : Int × Array Value} (h : asSl v = some r) : IsV v := by
  unfold asSl at h
  split at h
  · split at h
    · exact ⟨_, _, rfl, rfl⟩
    · exact ⟨_, _, rfl, rfl⟩
    · cases h
  · cases h
theorem asPt_isV {v : Value} {r : Nat × Array Value} (h : asPt v = some r) : IsV v := by
  unfold asPt at h
  split at h
  · split at h
    · exact ⟨_, _, rfl, rfl⟩
    · cases h
  · cases h
theorem asMp_isV {v : Value} {r : Array Value × Array Value} (h : asMp v = some r) : IsV v := by
  unfold asMp at h
  split at h
  · split at h
    · exact ⟨_, _, rfl, rfl⟩
    · cases h
  · cases h
theorem asOs_isV {v : Value} {r : Nat × Nat × Int × Array Value} (h : asOs v = some r) : IsV v := by
  unfold asOs at h
  split at h
  · split at h
    · exact ⟨_, _, rfl, rfl⟩
    · cases h
  · cases h
theorem IsV.flat {v : Value} (h : IsV v) : Go.Ideal.flat v = false := by
  obtain ⟨t, u, rfl, ht⟩ := h
  simp [Go.Ideal.flat, flatN, ht]
theorem IsV.flatOp {x : Operand} (h : IsV (evI ts x)) : flatOp ts x = false := by
  cases x with
  | global g => rfl
  | _ => exact h.flat
theorem nilSide_isV {t : TypeId} {x y : Value} {l : List Ask} (h : nilSide P t x y = some l) : IsV x ∧ (y = .pointer none ∨ y = .map none ∨ ∃ n c, y = .slice none n c) := by
  unfold nilSide at h
  split at h
  · cases hs : asSl x with
    | none => simp [hs] at h
    | some r => exact ⟨asSl_isV hs, .inr (.inr ⟨_, _, rfl⟩)⟩
  · cases hs : asPt x with
    | none => simp [hs] at h
    | some r => exact ⟨asPt_isV hs, .inl rfl⟩
  · cases hs : asMp x with
    | none => simp [hs] at h
    | some r => exact ⟨asMp_isV hs, .inr (.inl rfl)⟩
  · cases h
theorem eqNil_isV {t : TypeId} {x y : Value} (h : IsV x) : eqNil P t x y = none ∧ eqNil P t y x = none := by
  obtain ⟨tt, u, rfl, ht⟩ := h
  constructor
  · unfold eqNil; split <;> first | rfl | (simp_all; done) | (rename_i hx _; cases hx; rw [ht])
  · unfold eqNil; split <;> first | rfl | (simp_all; done) | (rename_i _ hx; cases hx; rw [ht])

theorem lenB_none {c : Call} {x : Value} {dst : Option Tmp} {ty : TypeId} {pos : String} {after : Array Edge} {guard : Option (Nat × Bool)} {args : Array Operand} {argTypes : Array TypeId} {t : TypeId} (ea : args.toList.map (evI ts) = [x]) (h0 : argTypes[0]? = some t)
    (hu : (∃ e, P.underlying t = some (.slice e)) ∨ ∃ k e, P.underlying t = some (.map k e)) (hx : IsV x ∨ ∃ a, x = .map a) (hm : ∀ a, x = .map a → a ≠ none) : opB P ⟨dst, .call ⟨.builtin .len, args, argTypes⟩, ty, pos, after, guard⟩ ts h = none := by
  have hfl : Go.Ideal.flat x = false := by
    rcases hx with hx | ⟨a, rfl⟩
    · exact hx.flat
    · cases a with
      | none => exact absurd rfl (hm none rfl)
      | some a => rfl
  have hall : args.toList.all (flatOp ts) = false := by
    match hl : args.toList, ea with
    | [y], ea =>
      simp only [List.map_cons, List.map_nil, List.cons.injEq, and_true] at ea
      simp only [List.all_cons, List.all_nil, Bool.and_true]
      cases y with
      | global g => rfl
      | _ => rw [← ea] at hfl; exact hfl
    | [], ea => simp at ea
    | _ :: _ :: _, ea => simp at ea
  have hb : builtinI P h .len argTypes [x] = none := by
    simp only [builtinI, h0]
    rcases hu with ⟨e, hu⟩ | ⟨k, e, hu⟩ <;> rcases hx with ⟨tt, u, rfl, _⟩ | ⟨a, rfl⟩ <;> rw [hu]
  simp only [opB, ea, hb, hall, Bool.false_eq_true, if_false]

theorem opV_opB (he : opV P o ts told = some (v, l)) (h : Heap) : opB P o ts h = none := by
  obtain ⟨dst, op, ty, pos, after, guard⟩ := o
  cases op <;> simp only [opV] at he <;> try (cases he; done)
  case indexAddr t x ix =>
    simp only [opB]
    split at he
    · rename_i i elem hi hu
      split at he
      · rename_i n cs size hs hsz
        obtain ⟨tt, u, e, _⟩ := asSl_isV hs
        rw [hi, hu, e]
      · cases he
    · rename_i i len elem hi hu
      split at he
      · rename_i off cs size hs hsz
        obtain ⟨tt, u, e, _⟩ := asPt_isV hs
        rw [hi, hu, e]
      · cases he
    · cases he
  case buildSlice t n ps =>
    have hb : Nat.ble ps.toList.length n = false := by
      cases hc : Nat.ble ps.toList.length n with
      | false => rfl
      | true => rw [hc] at he; cases he
    simp only [opB, hb, Bool.and_false, Bool.false_eq_true, if_false]
    repeat' split
    all_goals rfl
  case fieldAddr s x f =>
    simp only [opB]
    split at he
    · rename_i fl off cs hf hs
      obtain ⟨tt, u, e, _⟩ := asPt_isV hs
      rw [hf, e]
    · cases he
  case nilCheck x =>
    simp only [opB]
    split at he
    · rename_i off cs hs
      obtain ⟨tt, u, e, ht⟩ := asPt_isV hs
      rw [e]; simp only [ht]
    · cases he
  case load t x =>
    simp only [opB]
    split at he
    · rename_i off cs hs
      obtain ⟨tt, u, e, ht⟩ := asPt_isV hs
      rw [e]
    · cases he
  case slice t x lo hi mx =>
    simp only [opB]
    split at he
    · rename_i elem hu
      rw [hu]
      simp only
      split at he
      · rename_i hs _ _
        obtain ⟨tt, u, e, ht⟩ := asSl_isV hs
        rw [e]
      · rename_i hs _ _ _
        obtain ⟨tt, u, e, ht⟩ := asSl_isV hs
        rw [e]
      · cases he
    · cases he
  case binOp op t x y t2 =>
    have key : (IsV (evI ts x) ∨ IsV (evI ts y)) → opB P ⟨dst, .binOp op t x y t2, ty, pos, after, guard⟩ ts h = none := fun hv => by
      have hfl : (flatOp ts x && flatOp ts y) = false := by
        rcases hv with hv | hv
        · rw [hv.flatOp]; rfl
        · rw [hv.flatOp, Bool.and_false]
      have heq : eqNil P t (evI ts x) (evI ts y) = none := by
        rcases hv with hv | hv
        · exact (eqNil_isV hv).1
        · exact (eqNil_isV hv).2
      simp only [opB, hfl, heq]
      cases op <;> rfl
    cases op <;> simp only at he <;> try (cases he; done)
    all_goals
      split at he
      · rename_i l' hn; exact key (.inl (nilSide_isV hn).1)
      · split at he
        · rename_i l' hn; exact key (.inr (nilSide_isV hn).1)
        · cases he
  case convert s d x =>
    have key : ∀ {e : TypeId}, P.underlying s = some (.slice e) → P.underlying d = some .string → IsV (evI ts x) → opB P ⟨dst, .convert s d x, ty, pos, after, guard⟩ ts h = none := fun {e} hu hd hv => by
      simp only [opB]
      have hfl := hv.flatOp
      obtain ⟨tt, u, e, ht⟩ := hv
      rw [hu, hd, e, hfl]
      rfl
    split at he
    · rename_i hu hd hs; exact key hu hd (asSl_isV hs)
    · rename_i hu hd hs; exact key hu hd (asSl_isV hs)
    · cases he
  case call c =>
    obtain ⟨callee, args, argTypes⟩ := c
    cases callee with
    | value f => cases he
    | invoke r m => cases he
    | builtin b =>
      cases b <;> simp only at he <;> try (cases he; done)
      split at he
      · rename_i x t ea h0
        split at he
        · rename_i e n cs hu hs
          exact lenB_none (c := ⟨.builtin .len, args, argTypes⟩) ea h0 (.inl ⟨e, hu⟩) (.inl (asSl_isV hs)) (fun a e => by obtain ⟨_, _, e2, _⟩ := asSl_isV hs; rw [e] at e2; cases e2)
        · rename_i kt et hu hs
          split at he
          · rename_i ks vs hm
            exact lenB_none (c := ⟨.builtin .len, args, argTypes⟩) ea h0 (.inr ⟨kt, et, hu⟩) (.inl (asMp_isV hm)) (fun a e => by obtain ⟨_, _, e2, _⟩ := asMp_isV hm; rw [e] at e2; cases e2)
          · cases he
        · cases he
      · cases he

theorem tests {P : Program} {l : List Ask} (hl : Holds P l) (hs : ∀ a ∈ l, (∃ x y, a = .le x y) ∨ (∃ x y, a = .lt x y) ∨ (∃ x y, a = .eq x y) ∨ ∃ cs, a = .ones cs) : l.all Ask.test = true :=
  List.all_eq_true.2 fun a ha => by
    have hh := hl a ha
    rcases hs a ha with ⟨x, y, rfl⟩ | ⟨x, y, rfl⟩ | ⟨x, y, rfl⟩ | ⟨cs, rfl⟩
    · simpa [Ask.test, Ask.holds] using hh
    · simpa [Ask.test, Ask.holds] using hh
    · simpa [Ask.test, Ask.holds] using hh
    · exact hh

theorem nilSide_simple {t : TypeId} {x y : Value} {l : List Ask} (h : nilSide P t x y = some l) : ∀ a ∈ l, (∃ x y, a = .le x y) ∨ (∃ x y, a = .lt x y) ∨ (∃ x y, a = .eq x y) ∨ ∃ cs, a = .ones cs := by
  unfold nilSide at h
  split at h
  · cases hs : asSl x with
    | none => simp [hs] at h
    | some r => obtain ⟨n, cs⟩ := r; simp only [hs, Option.some.injEq] at h; subst h; intro a ha; simp at ha; subst ha; exact .inr (.inl ⟨_, _, rfl⟩)
  · cases hs : asPt x with
    | none => simp [hs] at h
    | some r => simp only [hs, Option.some.injEq] at h; subst h; intro a ha; cases ha
  · cases hs : asMp x with
    | none => simp [hs] at h
    | some r => simp only [hs, Option.some.injEq] at h; subst h; intro a ha; cases ha
  · cases h

theorem ptPart_none {t : TypeId} {off : Nat} {cs : Array Value} (he : ptPart P t off cs told = some (v, l)) (hl : Holds P l) : ∃ l', ptPart P t off cs none = some (v, l') ∧ l'.all Ask.test = true := by
  unfold ptPart at he ⊢
  split at he
  · rename_i n h1 h2
    split at he
    · rename_i l2
      simp only [Option.some.injEq, Prod.mk.injEq] at he; obtain ⟨rfl, rfl⟩ := he
      obtain ⟨q1, q2⟩ := hl.cons.1
      refine ⟨_, by rw [q2], ?_⟩
      simp only [List.all_cons, List.all_nil, Bool.and_true, Ask.test, decide_eq_true_eq]
      omega
    · cases he
    · simp only [Option.some.injEq, Prod.mk.injEq] at he; obtain ⟨rfl, rfl⟩ := he
      exact ⟨_, rfl, tests hl fun a ha => by simp at ha; subst ha; exact .inl ⟨_, _, rfl⟩⟩
  · rename_i n h1 h2
    split at he
    · simp only [Option.some.injEq, Prod.mk.injEq] at he; obtain ⟨rfl, rfl⟩ := he
      rename_i v0
      obtain ⟨q1, q2⟩ := hl.cons.1
      have : cs.toList[off]? = some v0 := by
        have hlt : off < cs.toList.length := by omega
        rw [List.drop_eq_getElem_cons hlt] at q2
        simp only [List.take_succ_cons, List.take_zero, List.cons.injEq, and_true] at q2
        rw [List.getElem?_eq_getElem hlt, q2]
      exact ⟨[], by simp [this], rfl⟩
    · split at he
      · rename_i u hu
        simp only [Option.some.injEq, Prod.mk.injEq] at he; obtain ⟨rfl, rfl⟩ := he
        exact ⟨[], by simp [hu], rfl⟩
      · cases he
  · cases he

theorem opV_none (he : opV P o ts told = some (v, l)) (hl : Holds P l) : ∃ l', opV P o ts none = some (v, l') ∧ l'.all Ask.test = true := by
  obtain ⟨dst, op, ty, pos, after, guard⟩ := o
  cases op <;> simp only [opV] at he ⊢ <;> try (cases he; done)
  case indexAddr t x ix =>
    refine ⟨l, he, tests hl fun a ha => ?_⟩
    repeat' split at he
    all_goals first
      | (cases he; done)
      | (simp only [Option.some.injEq, Prod.mk.injEq] at he; obtain ⟨rfl, rfl⟩ := he
         simp at ha; rcases ha with rfl | rfl
         · exact .inl ⟨_, _, rfl⟩
         · exact .inr (.inl ⟨_, _, rfl⟩))
  case buildSlice t n ps =>
    refine ⟨l, he, ?_⟩
    repeat' split at he
    all_goals first
      | (cases he; done)
      | (simp only [Option.some.injEq, Prod.mk.injEq] at he; obtain ⟨rfl, rfl⟩ := he
         have q : Ask.holds P (.flats _) := hl _ (List.mem_singleton.2 rfl)
         simpa [Ask.test, Ask.holds] using q)
  case fieldAddr s x f =>
    refine ⟨l, he, tests hl fun a ha => ?_⟩
    repeat' split at he
    all_goals first
      | (cases he; done)
      | (simp only [Option.some.injEq, Prod.mk.injEq] at he; obtain ⟨rfl, rfl⟩ := he; cases ha)
  case nilCheck x =>
    refine ⟨l, he, tests hl fun a ha => ?_⟩
    repeat' split at he
    all_goals first
      | (cases he; done)
      | (simp only [Option.some.injEq, Prod.mk.injEq] at he; obtain ⟨rfl, rfl⟩ := he; cases ha)
  case load t x =>
    split at he
    · exact ptPart_none he hl
    · cases he
  case slice t x lo hi mx =>
    refine ⟨l, he, tests hl fun a ha => ?_⟩
    repeat' split at he
    all_goals first
      | (cases he; done)
      | (simp only [Option.some.injEq, Prod.mk.injEq] at he; obtain ⟨rfl, rfl⟩ := he
         first
           | (cases ha; done)
           | (simp at ha; rcases ha with rfl | rfl | rfl <;> exact .inl ⟨_, _, rfl⟩)
           | (simp at ha; rcases ha with rfl | rfl | rfl | rfl <;> exact .inl ⟨_, _, rfl⟩))
  case binOp op t x y t2 =>
    cases op <;> (try simp only at he ⊢) <;> try (cases he; done)
    all_goals
      refine ⟨l, he, tests hl ?_⟩
      split at he
      · rename_i l' hn; simp only [Option.some.injEq, Prod.mk.injEq] at he; obtain ⟨rfl, rfl⟩ := he; exact nilSide_simple hn
      · split at he
        · rename_i l' hn; simp only [Option.some.injEq, Prod.mk.injEq] at he; obtain ⟨rfl, rfl⟩ := he; exact nilSide_simple hn
        · cases he
  case convert s d x =>
    split at he
    · rename_i e n cs str hu hd hs
      split at he
      · rename_i hb
        simp only [Option.some.injEq, Prod.mk.injEq] at he; obtain ⟨rfl, rfl⟩ := he
        obtain ⟨q0, q1⟩ := hl.cons
        simp only [Ask.holds] at q0
        exact ⟨_, by simp only [hu, hd, hs, hb, q0], tests q1 fun a ha => by simp at ha; subst ha; exact .inr (.inr (.inl ⟨_, _, rfl⟩))⟩
      · cases he
    · rename_i e n cs hu hd hs
      simp only [hu, hd, hs]
      refine ⟨l, he, tests hl fun a ha => ?_⟩
      split at he
      · simp only [Option.some.injEq, Prod.mk.injEq] at he; obtain ⟨rfl, rfl⟩ := he
        simp at ha; subst ha; exact .inr (.inr (.inl ⟨_, _, rfl⟩))
      · cases he
    · cases he
  case call c =>
    obtain ⟨callee, args, argTypes⟩ := c
    cases callee with
    | value f => cases he
    | invoke r m => cases he
    | builtin b =>
      cases b <;> (try simp only at he ⊢) <;> try (cases he; done)
      refine ⟨l, he, tests hl fun a ha => ?_⟩
      repeat' split at he
      all_goals first
        | (cases he; done)
        | (simp only [Option.some.injEq, Prod.mk.injEq] at he; obtain ⟨rfl, rfl⟩ := he; cases ha)

theorem opV_opI (he : opV P o ts told = some (v, l)) (hl : Holds P l) (h : Heap) : opI P o ts h = some (v, h) := by
  obtain ⟨l', k1, k2⟩ := opV_none he hl
  unfold opI
  rw [opV_opB he h, k1]
  simp only [k2]

theorem sameN_refl : ∀ (m n : Nat) (v : Value), m ≤ n → plainK m v = true → sameN n v v = true
  | 0, _, _, _, h => by simp [plainK] at h
  | m + 1, 0, _, hle, _ => by omega
  | m + 1, n + 1, v, hle, h => by
    cases v with
    | bool b => simp [sameN]
    | int k x => simp [sameN]
    | string s => simp [sameN]
    | agg cs =>
      simp only [plainK] at h
      simp only [sameN]
      have key : ∀ (l : List Value), l.all (plainK m) = true → sameN.sameL n l l = true := fun l => by
        induction l with
        | nil => intro _; rfl
        | cons x l ih =>
          intro hl
          simp only [List.all_cons, Bool.and_eq_true] at hl
          simp only [sameN.sameL, Bool.and_eq_true]
          exact ⟨sameN_refl m n x (by omega) hl.1, ih hl.2⟩
      exact key cs.toList h
    | _ => simp [plainK] at h

theorem placeI_none {kt : TypeId} {k : Value} {ks : List Value} {r : Option Nat} (he : placeI P kt k ks told = some (r, l)) (hl : Holds P l) : placeI P kt k ks none = some (r, []) := by
  have := placeI_find he hl
  simp only [placeI, this]

theorem notFlat {args : Array Operand} {x : Value} {r : List Value} (ea : args.toList.map (evI ts) = x :: r) (hf : Go.Ideal.flat x = false) : args.toList.all (flatOp ts) = false := by
  match hl : args.toList, ea with
  | y :: l, ea =>
    simp only [List.map_cons, List.cons.injEq] at ea
    simp only [List.all_cons]
    have : flatOp ts y = false := by
      cases y with
      | global g => rfl
      | _ => rw [← ea.1] at hf; exact hf
    rw [this, Bool.false_and]
  | [], ea => simp at ea

theorem opH_opI (he : opH P o ts h told = some (v, h', l)) (hl : Holds P l) : opI P o ts h = some (v, h') := by
  have fin : opB P o ts h = none → opV P o ts none = none → (∃ l', opH P o ts h none = some (v, h', l') ∧ l'.all Ask.test = true) → opI P o ts h = some (v, h') := fun h1 h2 ⟨l', h3, h4⟩ => by
    unfold opI; rw [h1, h2, h3]; simp only [h4]
  obtain ⟨dst, op, ty, pos, after, guard⟩ := o
  have upd : ∀ {t : TypeId} {m k x : Operand},
      (match P.underlying t, evI ts m with
        | some (.map kt _), .map (some i) => match h.get i, keyOK P kt (evI ts k) with
          | some (.map ks vs), true => match placeI P kt (evI ts k) ks told with
            | some (some j, l) => some (Go.undef, h.set i (.map ks (vs.set j (evI ts x))), Ask.get ks j (evI ts k) :: l)
            | some (none, l) => some (Go.undef, h.set i (.map (ks ++ [evI ts k]) (vs ++ [evI ts x])), l)
            | none => none
          | _, _ => none
        | _, _ => none) = some (v, h', l) →
      ∃ l', (match P.underlying t, evI ts m with
        | some (.map kt _), .map (some i) => match h.get i, keyOK P kt (evI ts k) with
          | some (.map ks vs), true => match placeI P kt (evI ts k) ks none with
            | some (some j, l) => some (Go.undef, h.set i (.map ks (vs.set j (evI ts x))), Ask.get ks j (evI ts k) :: l)
            | some (none, l) => some (Go.undef, h.set i (.map (ks ++ [evI ts k]) (vs ++ [evI ts x])), l)
            | none => none
          | _, _ => none
        | _, _ => none) = some (v, h', l') ∧ l'.all Ask.test = true := fun {t m k x} he => by
    split at he
    · rename_i kt et i hu em
      split at he
      · rename_i ks vs hg hkey
        split at he
        · rename_i j l' hp
          simp only [Option.some.injEq, Prod.mk.injEq] at he; obtain ⟨rfl, rfl, rfl⟩ := he
          obtain ⟨q0, q1⟩ := hl.cons
          refine ⟨[.get ks j (evI ts k)], by simp only [hg, hkey, placeI_none hp q1], ?_⟩
          obtain ⟨_, _, f2, _⟩ := keyOK_spec hkey
          simp only [Ask.holds] at q0
          simp only [List.all_cons, List.all_nil, Bool.and_true, Ask.test, q0, sameN_refl 6 6 _ (Nat.le_refl _) f2]
        · rename_i l' hp
          simp only [Option.some.injEq, Prod.mk.injEq] at he; obtain ⟨rfl, rfl, rfl⟩ := he
          exact ⟨[], by simp only [hg, hkey, placeI_none hp hl], rfl⟩
        · cases he
      · cases he
    · cases he
  cases op <;> simp only [opH] at he <;> try (cases he; done)
  case makeMap t r => exact fin rfl rfl ⟨l, he, by cases r <;> simp at he; obtain ⟨_, _, rfl⟩ := he; rfl⟩
  case mapUpdate t m k x => exact fin rfl rfl (upd he)
  case insert t m k x => exact fin rfl rfl (upd he)
  case lookup t x k ok =>
    refine fin rfl rfl ?_
    simp only [opH]
    split at he
    · rename_i kt et ks vs hu hm
      split at he
      · rename_i j l' hkey hp
        split at he
        · rename_i arr
          split at he
          · rename_i y0 u ha
            simp only [Option.some.injEq, Prod.mk.injEq] at he; obtain ⟨rfl, rfl, rfl⟩ := he
            obtain ⟨q0, q1⟩ := hl.cons
            simp only [Ask.holds] at q0
            exact ⟨[], by simp only [hkey, placeI_none hp q1, q0], rfl⟩
          · cases he
        · split at he
          · rename_i u hget
            simp only [Option.some.injEq, Prod.mk.injEq] at he; obtain ⟨rfl, rfl, rfl⟩ := he
            exact ⟨[], by simp only [hkey, placeI_none hp hl, hget], rfl⟩
          · cases he
      · rename_i l' hkey hp
        split at he
        · rename_i z hz
          split at he
          · rename_i hfz
            simp only [Option.some.injEq, Prod.mk.injEq] at he; obtain ⟨rfl, rfl, rfl⟩ := he
            exact ⟨[], by simp only [hkey, placeI_none hp hl, hz, hfz], rfl⟩
          · cases he
        · cases he
      · cases he
    · cases he
  case call c =>
    obtain ⟨callee, args, argTypes⟩ := c
    cases callee with
    | value f => cases he
    | invoke r m => cases he
    | builtin b =>
      cases b <;> (try simp only at he) <;> try (cases he; done)
      case append =>
        split at he
        · rename_i s x st xt ea h0 h1
          split at he
          · rename_i elem xe tok es n cs hus hux hos
            have hv := asOs_isV hos
            have hB : opB P ⟨dst, .call ⟨.builtin .append, args, argTypes⟩, ty, pos, after, guard⟩ ts h = none := by
              have hall := notFlat ea hv.flat
              have hb : builtinI P h .append argTypes [s, x] = none := by
                obtain ⟨tt, u, rfl, _⟩ := hv
                simp only [builtinI, h0, h1, hus, hux]
                cases sizeI P elem <;> cases lenI x <;> try rfl
                rename_i size n2
                simp only
                cases firstI h size n2 x with
                | none => rfl
                | some new =>
                  simp only
                  split
                  · unfold appendI
                    cases P.info? elem with
                    | none => rfl
                    | some ti => simp only; split <;> first | rfl | (split <;> rfl)
                  · rfl
              simp only [opB, ea, hb, hall, Bool.false_eq_true, if_false]
            refine fin hB rfl ?_
            simp only [opH, ea, h0, h1, hus, hux, hos]
            split at he
            · rename_i m t ti zs hg hti hzs
              split at he
              · cases he
              · rename_i hc
                split at he
                · rename_i k xs hxs
                  simp only [Option.some.injEq, Prod.mk.injEq] at he; obtain ⟨rfl, rfl, rfl⟩ := he
                  refine ⟨_, by simp only [hg, hti, hzs, hc, hxs], tests hl fun a ha => ?_⟩
                  simp at ha; rcases ha with rfl | rfl | rfl | rfl
                  · exact .inr (.inr (.inl ⟨_, _, rfl⟩))
                  · exact .inr (.inr (.inl ⟨_, _, rfl⟩))
                  · exact .inl ⟨_, _, rfl⟩
                  · exact .inr (.inr (.inr ⟨_, rfl⟩))
                · rename_i hxs
                  split at he
                  · rename_i k hlk
                    split at he
                    · rename_i new hfi
                      split at he
                      · rename_i hcc
                        simp only [Option.some.injEq, Prod.mk.injEq] at he; obtain ⟨rfl, rfl, rfl⟩ := he
                        refine ⟨_, by simp only [hg, hti, hzs, hc, hxs, hlk, hfi, hcc], tests hl fun a ha => ?_⟩
                        simp at ha; rcases ha with rfl | rfl
                        · exact .inr (.inr (.inl ⟨_, _, rfl⟩))
                        · exact .inl ⟨_, _, rfl⟩
                      · cases he
                    · cases he
                  · cases he
            · cases he
          · cases he
        · cases he
      case len =>
        split at he
        · rename_i i t ea h0
          split at he
          · rename_i kt et ks vs hu hg
            simp only [Option.some.injEq, Prod.mk.injEq] at he; obtain ⟨rfl, rfl, rfl⟩ := he
            refine fin (lenB_none (c := ⟨.builtin .len, args, argTypes⟩) ea h0 (.inr ⟨kt, et, hu⟩) (.inr ⟨_, rfl⟩) (fun a e => by cases e; simp)) ?_ ⟨[], by simp only [opH, ea, h0, hu, hg], rfl⟩
            simp only [opV, ea, h0, hu, asSl, asMp]
          · cases he
        · cases he
      case delete =>
        split at he
        · rename_i m k t ea h0
          split at he
          · rename_i kt et i hu
            have hB : opB P ⟨dst, .call ⟨.builtin .delete, args, argTypes⟩, ty, pos, after, guard⟩ ts h = none := by
              have hall := notFlat ea (show Go.Ideal.flat (.map (some i)) = false from rfl)
              have hb : builtinI P h .delete argTypes [.map (some i), k] = none := rfl
              simp only [opB, ea, hb, hall, Bool.false_eq_true, if_false]
            refine fin hB rfl ?_
            simp only [opH, ea, h0, hu]
            split at he
            · rename_i ks vs hg hkey
              split at he
              · rename_i j l' hp
                simp only [Option.some.injEq, Prod.mk.injEq] at he; obtain ⟨rfl, rfl, rfl⟩ := he
                exact ⟨[], by simp only [hg, hkey, placeI_none hp hl], rfl⟩
              · rename_i l' hp
                simp only [Option.some.injEq, Prod.mk.injEq] at he; obtain ⟨rfl, rfl, rfl⟩ := he
                exact ⟨[], by simp only [hg, hkey, placeI_none hp hl], rfl⟩
              · cases he
            · cases he
          · cases he
        · cases he

theorem rd_part {h : Heap} {ad : Addr} {cs : List Value} {t : TypeId} {m : Mode} {n : Nat} {out : List Value} (hg : h.get ad.block = some (.cells cs t m)) (hs : ad.spot = none) (hm : m ≠ .dead) (h1 : ad.off + n ≤ cs.length) (h2 : (cs.drop ad.off).take n = out) : rdCells h ad n = some out := by
  unfold rdCells; rw [hg, hs]
  cases m with
  | dead => exact absurd rfl hm
  | _ => simp only [if_pos h1, h2]

theorem str_bound {i : Int} {n m : Nat} {v : Option Value} (h : strPlace (n : Int) v = some i) (h0 : 0 ≤ i) (h1 : i ≤ (m : Int)) : boundI v n m = some i.toNat := by
  cases v with
  | none =>
    simp only [strPlace, Option.some.injEq] at h
    subst h
    simp [boundI]
  | some v =>
    simp only [strPlace] at h
    simp only [boundI, h]
    rw [if_pos ⟨h0, h1⟩]
theorem sliceI_lo {P : Program} {h : Heap} {size len cap hh : Nat} {ad : Addr} {hi : Option Value} {cs : List Value} {t : TypeId} (hb : boundI hi len cap = some hh) (hg : h.get ad.block = some (.cells cs t .fix)) : sliceI P h size (some ad) len cap none hi none = some (.slice (some ad) hh cap) := by
  have e0 : boundI none cap cap = some cap := rfl
  have e1 : boundI none 0 hh = some 0 := rfl
  have e2 : ad.add 0 = ad := rfl
  have e3 : boundsI len cap none hi none = some (0, hh, cap) := by
    cases hi <;> simp only [boundsI, e0, hb, e1]
  simp only [sliceI, e3, hg, Nat.zero_mul, e2, ite_self, Nat.sub_zero]
theorem opC_opI (he : opC P o ts h told = some (v, h', l)) (hl : Holds P l) : opI P o ts h = some (v, h') := by
  have fin : opB P o ts h = some (v, h') → opI P o ts h = some (v, h') := fun hb => by unfold opI; rw [hb]
  obtain ⟨dst, op, ty, pos, after, guard⟩ := o
  cases op <;> simp only [opC] at he <;> try (cases he; done)
  case slice t x lo hi mx =>
    split at he
    · split at he
      · rename_i v0 l0 hv
        simp only [Option.some.injEq, Prod.mk.injEq] at he; obtain ⟨rfl, rfl, rfl⟩ := he
        have h1 := hl.cons.1
        simp only [Ask.holds, List.getElem?_cons_zero, Option.some.injEq] at h1
        subst h1
        exact opV_opI hv hl.cons.2 h
      · cases he
    · split at he
      · rename_i str hu hx
        split at he
        · rename_i hh l hhi hlo
          simp only [Option.some.injEq, Prod.mk.injEq] at he; obtain ⟨rfl, rfl, rfl⟩ := he
          obtain ⟨q0, hl⟩ := hl.cons
          obtain ⟨q1, hl⟩ := hl.cons
          have q2 := hl.cons.1
          simp only [Ask.holds] at q0 q1 q2
          refine fin ?_
          simp only [opB, hu, hx]
          rw [str_bound hhi (by omega) q2]
          simp only
          rw [str_bound (n := 0) hlo q0 (by omega)]
        · cases he
      · rename_i elem ad len cap hu hx
        split at he
        · rename_i hh sz hb kt hhi hsz hg
          simp only [Option.some.injEq, Prod.mk.injEq] at he; obtain ⟨rfl, rfl, rfl⟩ := he
          obtain ⟨q0, hl⟩ := hl.cons
          have q2 := hl.cons.1
          simp only [Ask.holds] at q0 q2
          refine fin ?_
          simp only [opB, hu, hx, hsz, Option.map_none, sliceI_lo (str_bound hhi q0 q2) hg, Option.map_some]
        · cases he
      · cases he
  case binOp op t x y t2 =>
    split at he
    · cases he
    · rename_i hf
      simp only [Bool.and_eq_true] at hf
      obtain ⟨fx, fy⟩ := hf
      have eqs : ∀ {c d : Array Value} {b : Bool}, evI ts x = .agg c → evI ts y = .agg d → eqD P 10000 t (.agg c) (.agg d) = some b →
          (op = .eql → pureRun P (eqGuard .eql t x y (.agg c) (.agg d)) = some () → opB P ⟨dst, .binOp op t x y t2, ty, pos, after, guard⟩ ts h = some (.bool b, h)) ∧
          (op = .neq → pureRun P (eqGuard .neq t x y (.agg c) (.agg d)) = some () → opB P ⟨dst, .binOp op t x y t2, ty, pos, after, guard⟩ ts h = some (.bool (!b), h)) := fun {c d b} hx hy hb => by
        refine ⟨fun e hg => ?_, fun e hg => ?_⟩ <;> subst e
        · have hb2 : pureRun P (binOp .eql t (.agg c) (.agg d)) = some (.bool b) := by
            have := eqD_sound 10000 _ _ _ _ hb
            simp only [binOp, Op.equal, Op.maxDepth, pr_bind, this, Option.bind_some]; rfl
          have hc : pureRun P (execOp (evI ts) ⟨dst, .binOp .eql t x y t2, ty, pos, after, guard⟩) = some (.value (.bool b)) := by
            simp only [execOp, hx, hy, pr_bind, hg, hb2, Option.bind_some]; rfl
          simp [opB, fx, fy, hc, flat, flatN]
        · have hb2 : pureRun P (binOp .neq t (.agg c) (.agg d)) = some (.bool (!b)) := by
            have := eqD_sound 10000 _ _ _ _ hb
            simp only [binOp, Op.equal, Op.maxDepth, pr_bind, this, Option.bind_some]; rfl
          have hc : pureRun P (execOp (evI ts) ⟨dst, .binOp .neq t x y t2, ty, pos, after, guard⟩) = some (.value (.bool (!b))) := by
            simp only [execOp, hx, hy, pr_bind, hg, hb2, Option.bind_some]; rfl
          simp [opB, fx, fy, hc, flat, flatN]
      split at he
      · rename_i k a k2 b hx hy
        simp only [Option.some.injEq, Prod.mk.injEq] at he; obtain ⟨rfl, rfl, rfl⟩ := he
        have hn : ¬ b < 0 := by have := hl.cons.1; simp only [Ask.holds] at this; omega
        refine fin ?_
        simp [opB, fx, fy, execOp, hx, hy, eqGuard, binOp, Op.shift, hn, flat, flatN]
        rfl
      · rename_i k a k2 b hx hy
        simp only [Option.some.injEq, Prod.mk.injEq] at he; obtain ⟨rfl, rfl, rfl⟩ := he
        have hn : ¬ b < 0 := by have := hl.cons.1; simp only [Ask.holds] at this; omega
        refine fin ?_
        simp [opB, fx, fy, execOp, hx, hy, eqGuard, binOp, Op.shift, hn, flat, flatN]
        rfl
      · rename_i k a k2 b hx hy
        split at he
        · rename_i e; obtain rfl : k = k2 := by simpa using e
          simp only [Option.some.injEq, Prod.mk.injEq] at he; obtain ⟨rfl, rfl, rfl⟩ := he
          have hn : b ≠ 0 := hl.cons.1
          refine fin ?_
          simp [opB, fx, fy, execOp, hx, hy, eqGuard, binOp, Op.intDiv, hn, flat, flatN]
          rfl
        · cases he
      · rename_i k a k2 b hx hy
        split at he
        · rename_i e; obtain rfl : k = k2 := by simpa using e
          simp only [Option.some.injEq, Prod.mk.injEq] at he; obtain ⟨rfl, rfl, rfl⟩ := he
          have hn : b ≠ 0 := hl.cons.1
          refine fin ?_
          simp [opB, fx, fy, execOp, hx, hy, eqGuard, binOp, Op.intDiv, hn, flat, flatN]
          rfl
        · cases he
      · rename_i c d hx hy
        split at he
        · rename_i b hg
          simp only [Option.some.injEq, Prod.mk.injEq] at he; obtain ⟨rfl, rfl, rfl⟩ := he
          exact fin ((eqs hx hy hl.cons.1).1 rfl hg)
        · rename_i hg
          split at he
          · rename_i b hb
            simp only [Option.some.injEq, Prod.mk.injEq] at he; obtain ⟨rfl, rfl, rfl⟩ := he
            exact fin ((eqs hx hy hb).1 rfl hg)
          · cases he
        · cases he
      · rename_i c d hx hy
        split at he
        · rename_i b hg
          simp only [Option.some.injEq, Prod.mk.injEq] at he; obtain ⟨rfl, rfl, rfl⟩ := he
          exact fin ((eqs hx hy hl.cons.1).2 rfl hg)
        · rename_i hg
          split at he
          · rename_i b hb
            simp only [Option.some.injEq, Prod.mk.injEq] at he; obtain ⟨rfl, rfl, rfl⟩ := he
            exact fin ((eqs hx hy hb).2 rfl hg)
          · cases he
        · cases he
      · rename_i a b hx hy
        simp only [Option.some.injEq, Prod.mk.injEq] at he; obtain ⟨rfl, rfl, rfl⟩ := he
        have hn : ¬ ((a.size + b.size : Nat) : Int) > IntKind.i64.max := by
          have := hl.cons.1
          simp only [Ask.holds] at this
          have e : IntKind.i64.max = 9223372036854775807 := rfl
          omega
        have hs : Op.stringOp .add a b = pure (.string (a ++ b)) := by
          unfold Op.stringOp
          simp only
          rw [if_neg hn]
        refine fin ?_
        simp [opB, fx, fy, execOp, hx, hy, eqGuard, binOp, hs, flat, flatN]
        rfl
      · cases he
  case makeSlice t x y =>
    split at he
    · rename_i elem hu
      split at he
      · rename_i ti z k1 ln k2 cn hti hz hx hy
        split at he
        · rename_i hzl
          simp only [Option.some.injEq, Prod.mk.injEq] at he; obtain ⟨rfl, rfl, rfl⟩ := he
          obtain ⟨q0, q1⟩ := hl.cons
          obtain ⟨q1, q2⟩ := q1.cons
          have q2 := q2.cons.1
          simp only [Ask.holds] at q0 q1 q2
          have hc : (Nat.beq z.length ti.size && decide (0 ≤ ln) && decide (ln ≤ cn) && Nat.ble (cn.toNat * (ti.bytes + 1)) 1099511627776) = true := by
            rw [hzl, decide_eq_true q0, decide_eq_true q1]
            simp only [Bool.true_and, Nat.ble_eq]
            obtain ⟨m, rfl⟩ := Int.eq_ofNat_of_zero_le (Int.le_trans q0 q1)
            have : ((m * (ti.bytes + 1) : Nat) : Int) ≤ 1099511627776 := by simpa using q2
            simp only [Int.toNat_natCast]; omega
          exact fin (by simp only [opB, hu, hti, hz, hx, hy]; rw [if_pos hc])
        · cases he
      · cases he
    · cases he
  case indexAddr t x ix =>
    split at he
    · rename_i i len elem b off hi hu hx
      split at he
      · rename_i size hsz
        simp only [Option.some.injEq, Prod.mk.injEq] at he; obtain ⟨rfl, rfl, rfl⟩ := he
        obtain ⟨q0, q1⟩ := hl.cons
        exact fin (by simp only [opB, hi, hu, hx, hsz]; rw [if_pos ⟨q0, q1.cons.1⟩, Addr.add_none])
      · cases he
    · rename_i i elem b off len cap hi hu hx
      split at he
      · rename_i size hsz
        simp only [Option.some.injEq, Prod.mk.injEq] at he; obtain ⟨rfl, rfl, rfl⟩ := he
        obtain ⟨q0, q1⟩ := hl.cons
        exact fin (by simp only [opB, hi, hu, hx, hsz]; rw [if_pos ⟨q0, q1.cons.1⟩, Addr.add_none])
      · cases he
    · cases he
  case index t x ix =>
    split at he
    · rename_i i len elem cs u hi hu hx
      split at he
      · rename_i size hsz
        simp only [Option.some.injEq, Prod.mk.injEq] at he; obtain ⟨rfl, rfl, rfl⟩ := he
        obtain ⟨q0, q1⟩ := hl.cons
        obtain ⟨q1, q2⟩ := q1.cons
        have q2 := q2.cons.1
        simp only [Ask.holds] at q2
        exact fin (by simp only [opB, hi, hu, hx, hsz]; rw [if_pos ⟨q0, q1⟩, q2]; rfl)
      · cases he
    · rename_i i s b hi hu hx
      simp only [Option.some.injEq, Prod.mk.injEq] at he; obtain ⟨rfl, rfl, rfl⟩ := he
      obtain ⟨q0, q1⟩ := hl.cons
      obtain ⟨c, q2, rfl⟩ := q1.cons.1
      exact fin (by simp only [opB, hi, hu, hx]; rw [if_pos (show 0 ≤ i from q0), q2])
    · cases he
  case load t a =>
    split at he
    · rename_i ad v2 hx
      split at he
      · cases he
      · rename_i cs t' md m hnd hg hs hag hn
        split at he
        · rename_i l'
          simp only [Option.some.injEq, Prod.mk.injEq] at he; obtain ⟨rfl, rfl, rfl⟩ := he
          obtain ⟨q1, q2⟩ := hl.cons.1
          have hr := rd_part hg hs (fun e => hnd e) q1 q2
          exact fin (by simp only [opB, hx, loadI, hag, hn, hr, Option.map_some])
        · cases he
      · rename_i cs t' md m hnd hg hs hag hn
        simp only [Option.some.injEq, Prod.mk.injEq] at he; obtain ⟨rfl, rfl, rfl⟩ := he
        obtain ⟨q1, q2⟩ := hl.cons.1
        have hr := rd_part hg hs (fun e => hnd e) q1 q2
        exact fin (by simp only [opB, hx, loadI, hag, hn, hr, Option.map_some])
      · cases he
    · cases he
  case store t a x =>
    split at he
    · rename_i ad n hx hn
      split at he
      · cases he
      · rename_i hlc
        simp only [Bool.and_eq_true] at hlc
        have hlen : (Value.cellList (evI ts x)).length = n := Nat.eq_of_beq_eq_true hlc.1
        have key : ∀ {cs : List Value} {t' : TypeId} {m : Mode}, (m = .fix ∨ m = .grow) → h.get ad.block = some (.cells cs t' m) → ad.spot = none → ad.off + n ≤ cs.length →
            opB P ⟨dst, .store t a x, ty, pos, after, guard⟩ ts h = some (Go.undef, h.set ad.block (.cells (splice cs ad.off (Value.cellList (evI ts x))) t' m)) := fun {cs t' m} hm hg hs q => by
          have hb : Nat.ble (ad.off + (Value.cellList (evI ts x)).length) cs.length = true := by rw [hlen]; simpa [Nat.ble_eq] using q
          rcases hm with rfl | rfl <;> simp only [opB, hx, storeI, hn, hlc.1, wrCells, hg, hs, hb, hlc.2, Bool.and_self, if_true, Option.map_some]
        split at he
        · rename_i cs t' hg hs
          simp only [Option.some.injEq, Prod.mk.injEq] at he; obtain ⟨rfl, rfl, rfl⟩ := he
          exact fin (key (.inl rfl) hg hs hl.cons.1)
        · rename_i cs t' hg hs
          simp only [Option.some.injEq, Prod.mk.injEq] at he; obtain ⟨rfl, rfl, rfl⟩ := he
          exact fin (key (.inr rfl) hg hs hl.cons.1)
        · cases he
    · cases he

theorem asRp_isV {v : Value} {r : Nat × Nat × Nat} (h : asRp v = some r) : ∃ u, v = .iface 1000007 u := by
  unfold asRp at h
  split at h
  · split at h
    · exact ⟨_, rfl⟩
    · cases h
  · cases h
theorem asRs_isV {v : Value} {r : Nat × Nat × Nat × Nat × Int} (h : asRs v = some r) : ∃ u, v = .iface 1000006 u := by
  unfold asRs at h
  split at h
  · split at h
    · exact ⟨_, rfl⟩
    · cases h
  · cases h
theorem mark_isV {v : Value} {t : Nat} {u : Value} (h : v = .iface t u) (ht : isV t = true) : IsV v := ⟨t, u, h, ht⟩
theorem nilSideP_isV {t : TypeId} {x y : Value} {l : List Ask} (h : nilSideP P t x y = some l) : IsV x ∧ asSl x = none ∧ asPt x = none ∧ asMp x = none ∧ (y = .pointer none ∨ ∃ n c, y = .slice none n c) := by
  unfold nilSideP at h
  split at h
  · split at h
    · rename_i hs; obtain ⟨u, rfl⟩ := asRs_isV hs
      refine ⟨⟨_, _, rfl, rfl⟩, ?_, ?_, ?_, .inr ⟨_, _, rfl⟩⟩ <;> (cases u <;> rfl)
    · cases h
  · split at h
    · rename_i hs; obtain ⟨u, rfl⟩ := asRp_isV hs
      refine ⟨⟨_, _, rfl, rfl⟩, ?_, ?_, ?_, .inl rfl⟩ <;> (cases u <;> rfl)
    · cases h
  · cases h
theorem testsP {l : List Ask} (hl : Holds P l) (hs : ∀ a ∈ l, (∃ x y, a = .le x y) ∨ (∃ x y, a = .lt x y) ∨ (∃ x y, a = .eq x y) ∨ (∃ x, a = .ones x) ∨ (∃ x y z, a = .space x y z) ∨ ∃ x y z, a = .full x y z) : l.all Ask.test = true := by
  refine List.all_eq_true.2 fun a ha => ?_
  have hh := hl a ha
  rcases hs a ha with ⟨x, y, rfl⟩ | ⟨x, y, rfl⟩ | ⟨x, y, rfl⟩ | ⟨x, rfl⟩ | ⟨x, y, z, rfl⟩ | ⟨x, y, z, rfl⟩
  · simpa [Ask.test, Ask.holds] using hh
  · simpa [Ask.test, Ask.holds] using hh
  · simpa [Ask.test, Ask.holds] using hh
  · exact hh
  · simpa [Ask.test, Ask.holds] using hh
  · simpa [Ask.test, Ask.holds] using hh

theorem opP_opI (he : opP P o ts h told = some (v, h', l)) (hl : Holds P l) : opI P o ts h = some (v, h') := by
  have fin : opB P o ts h = none → opV P o ts none = none → opH P o ts h none = none → (∃ l', opP P o ts h none = some (v, h', l') ∧ l'.all Ask.test = true) → opI P o ts h = some (v, h') := fun h1 h2 h3 ⟨l', h4, h5⟩ => by
    unfold opI; rw [h1, h2, h3, h4]; simp only [h5]
  obtain ⟨dst, op, ty, pos, after, guard⟩ := o
  cases op
  case load t x =>
    simp only [opP] at he
    split at he
    · rename_i p r off hp
      obtain ⟨u, eu⟩ := asRp_isV hp
      refine fin (by simp only [opB, eu]) (by simp only [opV, eu]; cases u <;> rfl) rfl ?_
      simp only [opP, hp]
      split at he
      · rename_i rows n l' hg h1 h2
        simp only [Option.some.injEq, Prod.mk.injEq] at he; obtain ⟨rfl, rfl, rfl⟩ := he
        obtain ⟨q0, q1, q2⟩ := hl.cons.1
        refine ⟨[.space rows r (off + n)], by rw [hg, h1, h2]; simp [q2], testsP (P := P) (fun a ha => ?_) fun a ha => ?_⟩
        · simp at ha; subst ha; exact ⟨q0, q1⟩
        · simp at ha; subst ha; exact .inr (.inr (.inr (.inr (.inl ⟨_, _, _, rfl⟩))))
      · rename_i rows n hg h1 h2
        simp only [Option.some.injEq, Prod.mk.injEq] at he; obtain ⟨rfl, rfl, rfl⟩ := he
        exact ⟨_, by rw [hg, h1, h2], testsP hl fun a ha => by simp at ha; subst ha; exact .inr (.inr (.inr (.inr (.inl ⟨_, _, _, rfl⟩))))⟩
      · rename_i rows n u2 hg h1 h2
        simp only [Option.some.injEq, Prod.mk.injEq] at he; obtain ⟨rfl, rfl, rfl⟩ := he
        obtain ⟨q0, q1, q2⟩ := hl.cons.1
        have e : (cellsAt rows r)[off]? = some u2 := by
          have hlt : off < (cellsAt rows r).length := by omega
          rw [List.drop_eq_getElem_cons hlt] at q2
          simp only [List.take_succ_cons, List.take_zero, List.cons.injEq, and_true] at q2
          rw [List.getElem?_eq_getElem hlt, q2]
        refine ⟨[.space rows r (off + 1)], by rw [hg, h1, h2]; simp only [e], testsP (P := P) (fun a ha => ?_) fun a ha => ?_⟩
        · simp at ha; subst ha; exact ⟨q0, q1⟩
        · simp at ha; subst ha; exact .inr (.inr (.inr (.inr (.inl ⟨_, _, _, rfl⟩))))
      · rename_i rows n hg h1 h2
        split at he
        · rename_i u2 hu
          simp only [Option.some.injEq, Prod.mk.injEq] at he; obtain ⟨rfl, rfl, rfl⟩ := he
          exact ⟨[.space rows r (off + 1)], by rw [hg, h1, h2]; simp only [hu], testsP hl fun a ha => by simp at ha; subst ha; exact .inr (.inr (.inr (.inr (.inl ⟨_, _, _, rfl⟩))))⟩
        · cases he
      · cases he
    · cases he
  case store t x y =>
    simp only [opP] at he
    split at he
    · rename_i p r off n hp hn
      obtain ⟨u, eu⟩ := asRp_isV hp
      split at he
      · rename_i rows hg hc
        simp only [Option.some.injEq, Prod.mk.injEq] at he; obtain ⟨rfl, rfl, rfl⟩ := he
        refine fin (by simp only [opB, eu]) rfl rfl ⟨_, by simp only [opP, hp, hn, hg, hc], testsP hl fun a ha => by simp at ha; subst ha; exact .inr (.inr (.inr (.inr (.inl ⟨_, _, _, rfl⟩))))⟩
      · cases he
    · cases he
  case nilCheck x =>
    simp only [opP] at he
    split at he
    · rename_i p r off hp
      obtain ⟨u, eu⟩ := asRp_isV hp
      simp only [Option.some.injEq, Prod.mk.injEq] at he; obtain ⟨rfl, rfl, rfl⟩ := he
      exact fin (by simp [opB, eu, isV]) (by simp only [opV, eu]; cases u <;> rfl) rfl ⟨[], by simp only [opP, hp], rfl⟩
    · cases he
  case fieldAddr s x f =>
    have he0 := he
    simp only [opP] at he
    split at he
    · rename_i fl p r off hf hp
      obtain ⟨u, eu⟩ := asRp_isV hp
      refine fin (by simp only [opB, eu, hf]) (by simp only [opV, eu]; cases u <;> (simp only [hf]; rfl)) rfl ⟨l, he0, ?_⟩
      split at he
      · cases he
      · cases he
      · simp only [Option.some.injEq, Prod.mk.injEq] at he; rw [← he.2.2]; rfl
    · cases he
  case indexAddr t x ix =>
    have he0 := he
    simp only [opP] at he
    split at he
    · rename_i i elem hi hu
      split at he
      · rename_i p r es off n size hs hsz
        obtain ⟨u, eu⟩ := asRs_isV hs
        refine fin (by simp only [opB, eu, hi, hu]) (by simp only [opV, eu, hi, hu]; cases u <;> rfl) rfl ⟨l, he0, ?_⟩
        split at he
        · simp only [Option.some.injEq, Prod.mk.injEq] at he; obtain ⟨rfl, rfl, rfl⟩ := he
          exact testsP hl fun a ha => by simp at ha; rcases ha with rfl | rfl <;> simp
        · cases he
      · cases he
    · rename_i i len elem hi hu
      split at he
      · rename_i p r off size hs hsz
        obtain ⟨u, eu⟩ := asRp_isV hs
        refine fin (by simp only [opB, eu, hi, hu]) (by simp only [opV, eu, hi, hu]; cases u <;> rfl) rfl ⟨l, he0, ?_⟩
        simp only [Option.some.injEq, Prod.mk.injEq] at he; obtain ⟨rfl, rfl, rfl⟩ := he
        exact testsP hl fun a ha => by simp at ha; rcases ha with rfl | rfl <;> simp
      · cases he
    · cases he
  case slice t x lo hi mx =>
    cases mx with
    | some m =>
      cases lo with
      | some _ => cases he
      | none =>
        cases hi with
        | none => cases he
        | some y =>
          have he0 := he
          simp only [opP] at he
          split at he
          · rename_i elem q hu hs eh em
            obtain ⟨p, r, es, off, n⟩ := q
            obtain ⟨u, eu⟩ := asRs_isV hs
            refine fin (by simp only [opB, eu, hu]) (by simp only [opV, eu, hu]; cases u <;> rfl) rfl ⟨l, he0, ?_⟩
            split at he
            · simp only [Option.some.injEq, Prod.mk.injEq] at he; rw [← he.2.2]; rfl
            · cases he
          · cases he
    | none =>
      have he0 : opP P ⟨dst, .slice t x lo hi none, ty, pos, after, guard⟩ ts h none = some (v, h', l) := by cases lo <;> cases hi <;> exact he
      simp only [opP] at he
      split at he
      · rename_i elem p r es off n hu hs
        obtain ⟨u, eu⟩ := asRs_isV hs
        have hsl : asSl (evI ts x) = none := by rw [eu]; cases u <;> rfl
        refine fin (by simp only [opB, hu, eu]) (by simp only [opV, hu, hsl]) rfl ⟨l, he0, ?_⟩
        split at he
        · split at he
          · simp only [Option.some.injEq, Prod.mk.injEq] at he; obtain ⟨rfl, rfl, rfl⟩ := he
            exact testsP hl fun a ha => by simp at ha; rcases ha with rfl | rfl <;> simp
          · cases he
        · split at he
          · simp only [Option.some.injEq, Prod.mk.injEq] at he; obtain ⟨rfl, rfl, rfl⟩ := he
            exact testsP hl fun a ha => by simp at ha; rcases ha with rfl | rfl | rfl | rfl <;> simp
          · cases he
        · cases he
      · cases he
  case binOp op t x y t2 =>
    have noB : ∀ {l' : List Ask}, (nilSideP P t (evI ts x) (evI ts y) = some l' ∨ nilSideP P t (evI ts y) (evI ts x) = some l') → (opB P ⟨dst, .binOp op t x y t2, ty, pos, after, guard⟩ ts h = none ∧ nilSide P t (evI ts x) (evI ts y) = none ∧ nilSide P t (evI ts y) (evI ts x) = none) := fun {l'} hh => by
      have key : ∀ {p q : Operand} {l' : List Ask}, nilSideP P t (evI ts p) (evI ts q) = some l' → flatOp ts p = false ∧ eqNil P t (evI ts p) (evI ts q) = none ∧ eqNil P t (evI ts q) (evI ts p) = none ∧ nilSide P t (evI ts p) (evI ts q) = none ∧ nilSide P t (evI ts q) (evI ts p) = none := fun {p q l'} hn => by
        obtain ⟨k1, k2, k3, k4, k5⟩ := nilSideP_isV hn
        refine ⟨k1.flatOp, (eqNil_isV k1).1, (eqNil_isV k1).2, ?_, ?_⟩
        · unfold nilSide; rw [k2, k3, k4]; split <;> rfl
        · unfold nilSide
          obtain ⟨tt, uu, eu, _⟩ := k1
          rw [eu]
          split <;> first | rfl | (rename_i hx; cases hx)
      rcases hh with hn | hn
      · obtain ⟨f1, f2, f3, f4, f5⟩ := key hn
        exact ⟨by simp only [opB, f1, Bool.false_and, Bool.false_eq_true, if_false, f2], f4, f5⟩
      · obtain ⟨f1, f2, f3, f4, f5⟩ := key hn
        exact ⟨by simp only [opB, f1, Bool.and_false, Bool.false_eq_true, if_false, f3], f5, f4⟩
    cases op <;> (try (cases he; done))
    all_goals
      have he0 := he
      simp only [opP] at he
      split at he
      · rename_i l' _ hn
        obtain ⟨b1, b2, b3⟩ := noB (.inl hn)
        simp only [Option.some.injEq, Prod.mk.injEq] at he; obtain ⟨rfl, rfl, rfl⟩ := he
        refine fin b1 (by simp only [opV, b2, b3]) rfl ⟨_, he0, testsP hl fun a ha => ?_⟩
        unfold nilSideP at hn
        repeat' split at hn
        all_goals first | (cases hn; done) | (simp only [Option.some.injEq] at hn; subst hn; simp at ha; try (subst ha; simp))
      · rename_i l' _ hn
        obtain ⟨b1, b2, b3⟩ := noB (.inr hn)
        simp only [Option.some.injEq, Prod.mk.injEq] at he; obtain ⟨rfl, rfl, rfl⟩ := he
        refine fin b1 (by simp only [opV, b2, b3]) rfl ⟨_, he0, testsP hl fun a ha => ?_⟩
        unfold nilSideP at hn
        repeat' split at hn
        all_goals first | (cases hn; done) | (simp only [Option.some.injEq] at hn; subst hn; simp at ha; try (subst ha; simp))
      · cases he
  case call c =>
    obtain ⟨callee, args, argTypes⟩ := c
    cases callee with
    | value f => cases he
    | invoke r m => cases he
    | builtin b =>
      cases b <;> (try (cases he; done))
      case len =>
        have he0 := he
        simp only [opP] at he
        split at he
        · rename_i x t ea h0
          split at he
          · rename_i e p r es off n hu hs
            obtain ⟨u, eu⟩ := asRs_isV hs
            have hv : IsV x := ⟨_, _, eu, rfl⟩
            simp only [Option.some.injEq, Prod.mk.injEq] at he; obtain ⟨rfl, rfl, rfl⟩ := he
            have hsl : asSl x = none := by rw [eu]; cases u <;> rfl
            refine fin (lenB_none (c := ⟨.builtin .len, args, argTypes⟩) ea h0 (.inl ⟨e, hu⟩) (.inl hv) (fun a e => by rw [eu] at e; cases e)) (by simp only [opV, ea, h0, hu, hsl]) (by simp only [opH, ea, h0]; rw [eu]) ⟨[], he0, rfl⟩
          · cases he
        · cases he
      case append =>
        have he0 := he
        simp only [opP] at he
        split at he
        · rename_i s x st xt ea h0 h1
          split at he
          · rename_i elem xe p r es off n hus hux hrs
            obtain ⟨u, eu⟩ := asRs_isV hrs
            have hos : asOs s = none := by rw [eu]; cases u <;> rfl
            have hB : opB P ⟨dst, .call ⟨.builtin .append, args, argTypes⟩, ty, pos, after, guard⟩ ts h = none := by
              have hfl : args.toList.all (flatOp ts) = false := notFlat ea (by rw [eu]; rfl)
              have hap : ∀ k new, appendI P h elem s k new = none := fun k new => by
                unfold appendI; rw [eu]
                cases P.info? elem with
                | none => rfl
                | some ti =>
                  simp only
                  split
                  · split <;> rfl
                  · rfl
              have hbi : builtinI P h .append argTypes (args.toList.map (evI ts)) = none := by
                rw [ea]
                simp only [builtinI, h0, h1, hus, hux]
                repeat' split
                all_goals first | rfl | exact hap _ _
              simp only [opB, hbi, hfl, Bool.false_eq_true, if_false]
            refine fin hB rfl (by simp only [opH, ea, h0, h1, hus, hux, hos]) ⟨l, ?_, ?_⟩
            · exact he0
            · split at he
              · split at he
                · cases he
                · split at he
                  · simp only [Option.some.injEq, Prod.mk.injEq] at he; obtain ⟨rfl, rfl, rfl⟩ := he
                    exact testsP hl fun a ha => by simp at ha; rcases ha with rfl | rfl | rfl | rfl <;> simp
                  · split at he
                    · split at he
                      · split at he
                        · simp only [Option.some.injEq, Prod.mk.injEq] at he; obtain ⟨rfl, rfl, rfl⟩ := he
                          exact testsP hl fun a ha => by simp at ha; rcases ha with rfl | rfl <;> simp
                        · cases he
                      · cases he
                    · cases he
              · cases he
          · cases he
        · cases he
  case convert s d x =>
    simp only [opP] at he
    split at he
    · rename_i e p r es off n hu hd hs
      obtain ⟨u, eu⟩ := asRs_isV hs
      have hne : asSl (evI ts x) = none := by rw [eu]; cases u <;> rfl
      split at he
      · rename_i rows hb hg
        split at he
        · rename_i l' hes hby
          simp only [Option.some.injEq, Prod.mk.injEq] at he; obtain ⟨rfl, rfl, rfl⟩ := he
          refine fin ?_ ?_ rfl ⟨_, by simp only [opP, hu, hd, hs, hb, hg, hes, hby], testsP hl fun a ha => by simp at ha; subst ha; exact .inr (.inr (.inr (.inr (.inl ⟨_, _, _, rfl⟩))))⟩
          · simp only [opB]
            have hfl := (mark_isV eu rfl).flatOp
            rw [hu, hd, eu, hfl]
            rfl
          · simp only [opV, hu, hd, hne]
        · cases he
      · cases he
    · cases he
  all_goals cases he

theorem askI_opI (he : askI P o ts h told = some (v, h', l)) (hl : Holds P l) : opI P o ts h = some (v, h') := by
  unfold askI at he
  split at he
  · rename_i r hr; simp only [Option.some.injEq] at he; subst he; exact opC_opI hr hl
  · split at he
    · rename_i v1 l1 hv
      simp only [Option.some.injEq, Prod.mk.injEq] at he; obtain ⟨rfl, rfl, rfl⟩ := he
      exact opV_opI hv hl h
    · rename_i hV0
      split at he
      · rename_i r hr; simp only [Option.some.injEq] at he; subst he; exact opH_opI hr hl
      · exact opP_opI he hl

end Go.Ideal

end
section
/- The interpreter that answers with what is to be shown is sound. Over any program. -/
set_option linter.unusedVariables false
set_option linter.unusedSimpArgs false
namespace Go.Ideal
open Go.RowKit

variable {P : Program} {pf : FuncId → Bool} {wk : List Nat}

/-- What is not written stays. -/
def Frame (W : List Nat) (ts ts' : List Value) : Prop := ts'.length = ts.length ∧ ∀ i, W.any (Nat.beq i) = false → ts'.getD i Go.undef = ts.getD i Go.undef
theorem Frame.refl (W : List Nat) (ts : List Value) : Frame W ts ts := ⟨rfl, fun _ _ => rfl⟩
theorem Frame.trans {W : List Nat} {a b c : List Value} (h : Frame W a b) (k : Frame W b c) : Frame W a c := ⟨k.1.trans h.1, fun i hi => (k.2 i hi).trans (h.2 i hi)⟩
theorem Frame.mono {W W' : List Nat} {a b : List Value} (h : Frame W a b) (hs : ∀ i, W.any (Nat.beq i) = true → W'.any (Nat.beq i) = true) : Frame W' a b := ⟨h.1, fun i hi => h.2 i (by
  cases e : W.any (Nat.beq i) with
  | false => rfl
  | true => rw [hs i e] at hi; cases hi)⟩
theorem Frame.left {W W' : List Nat} {a b : List Value} (h : Frame W a b) : Frame (W ++ W') a b := h.mono fun i hi => by rw [List.any_append, hi, Bool.true_or]
theorem Frame.right {W W' : List Nat} {a b : List Value} (h : Frame W' a b) : Frame (W ++ W') a b := h.mono fun i hi => by rw [List.any_append, hi, Bool.or_true]

theorem any_beq {W : List Nat} {i : Nat} : W.any (Nat.beq i) = true ↔ i ∈ W := by
  rw [List.any_eq_true]
  exact ⟨fun ⟨x, hx, e⟩ => by rw [Nat.eq_of_beq_eq_true e]; exact hx, fun h => ⟨i, h, Nat.beq_refl i⟩⟩

theorem Frame.put {W : List Nat} {ts : List Value} {dst : Option Tmp} {v : Value} (h : ∀ d, dst = some d → W.any (Nat.beq d) = true) : Frame W ts (putI ts dst v) := by
  cases dst with
  | none => exact Frame.refl W ts
  | some d =>
    refine ⟨by simp [putI], fun i hi => ?_⟩
    have hne : i ≠ d := fun e => by subst e; rw [h i rfl] at hi; cases hi
    simp only [putI, List.getD, List.getElem?_set_ne (Ne.symm hne)]
theorem Frame.setL {W : List Nat} : ∀ (g : List (Nat × Value)) (ts : List Value), (g.all fun p => W.any (Nat.beq p.1)) = true → Frame W ts (setL ts g)
  | [], ts, _ => Frame.refl W ts
  | (i, v) :: g, ts, h => by
    simp only [List.all_cons, Bool.and_eq_true] at h
    exact (Frame.put (dst := some i) (v := v) fun d hd => by cases hd; exact h.1).trans (Frame.setL g _ h.2)

theorem find_getD {S : List (Nat × Value)} {i : Nat} {p : Nat × Value} {ts : List Value} (hf : S.find? (fun p => Nat.beq p.1 i) = some p) (ha : agreeP S ts) : ts.getD i Go.undef = p.2 := by
  induction S with
  | nil => cases hf
  | cons q S ih =>
    obtain ⟨j, u⟩ := q
    have h1 : ts.getD j Go.undef = u ∧ agreeP S ts := by
      cases S with
      | nil => exact ⟨ha, trivial⟩
      | cons => exact ha
    rw [List.find?_cons] at hf
    cases e : Nat.beq j i with
    | true =>
      simp only [e] at hf
      cases hf
      obtain rfl := Nat.eq_of_beq_eq_true e
      exact h1.1
    | false =>
      simp only [e] at hf
      exact ih hf h1.2

theorem overlay_eq {W : List Nat} {S : List (Nat × Value)} {ts' : List Value} (ha : agreeP S ts') : ∀ (k : Nat) (ts : List Value), (∀ i, i < ts.length → W.any (Nat.beq (k + i)) = false → ts'.getD (k + i) Go.undef = ts.getD i Go.undef) →
    overlay W S (fun i => ts'.getD i Go.undef) k ts = (List.range ts.length).map fun i => ts'.getD (k + i) Go.undef
  | k, [], _ => rfl
  | k, v :: ts, h => by
    simp only [overlay, List.length_cons, List.range_succ_eq_map, List.map_cons, List.map_map]
    have ih := overlay_eq (W := W) (S := S) ha (k + 1) ts fun i hi hw => by
      have := h (i + 1) (by simp; omega) (by rw [show k + (i + 1) = k + 1 + i by omega]; exact hw)
      rw [show k + (i + 1) = k + 1 + i by omega] at this
      simpa using this
    rw [ih]
    congr 1
    · simp only [Nat.add_zero]
      cases hw : W.any (Nat.beq k) with
      | true =>
        cases hf : S.find? (fun p => Nat.beq p.1 k) with
        | some p => exact (find_getD hf ha).symm
        | none => rfl
      | false =>
        have := h 0 (by simp) (by simpa using hw)
        simpa using this.symm
    · refine List.map_congr_left fun i _ => ?_
      simp only [Function.comp]
      rw [show k + 1 + i = k + (i + 1) by omega]

theorem overlay_self {W : List Nat} {S : List (Nat × Value)} {ts ts' : List Value} (ha : agreeP S ts') (hf : Frame W ts ts') : overlay W S (fun i => ts'.getD i Go.undef) 0 ts = ts' := by
  rw [overlay_eq ha 0 ts fun i _ hw => by rw [Nat.zero_add] at hw ⊢; exact hf.2 i hw]
  rw [← hf.1]
  apply List.ext_getElem?
  intro i
  rw [List.getElem?_map]
  rcases Nat.lt_or_ge i ts'.length with h | h
  · simp [List.getElem?_range h, List.getElem?_eq_getElem h]
  · rw [List.getElem?_eq_none (by simpa using h), List.getElem?_eq_none h]; rfl
theorem overlay_length (W : List Nat) (S : List (Nat × Value)) (j : Nat → Value) : ∀ (k : Nat) (ts : List Value), (overlay W S j k ts).length = ts.length
  | _, [] => rfl
  | k, _ :: ts => by simp only [overlay, List.length_cons, overlay_length W S j (k + 1) ts]

theorem agree_mem {ts : List Value} : ∀ {S : List (Nat × Value)}, agreeP S ts → ∀ p ∈ S, ts.getD p.1 Go.undef = p.2
  | [], _, p, hp => by cases hp
  | [(i, v)], h, p, hp => by simp at hp; subst hp; exact h
  | (i, v) :: q :: r, h, p, hp => by
    rcases List.mem_cons.1 hp with rfl | hp
    · exact h.1
    · exact agree_mem h.2 p hp
theorem agree_of {ts ts2 : List Value} : ∀ {S : List (Nat × Value)}, (∀ p ∈ S, ts2.getD p.1 Go.undef = ts.getD p.1 Go.undef) → agreeP S ts → agreeP S ts2
  | [], _, _ => trivial
  | [(i, v)], h, k => (h (i, v) (by simp)).trans k
  | (i, v) :: q :: r, h, k => ⟨(h (i, v) (by simp)).trans k.1, agree_of (fun p hp => h p (List.mem_cons_of_mem _ hp)) k.2⟩

theorem HRel.eqH {B : Nat} {w0 : Org} {σ : Sg} {h h2 : Heap} {w : World} (H : HRel P B w0 σ h w) (he : eqH h h2) : HRel P B w0 σ h2 w := by
  have hn := Nat.eq_of_beq_eq_true he.1
  have hg : ∀ i, h2.get i = h.get i := fun i => by
    rcases Nat.lt_or_ge i h2.next with k | k
    · exact (he.2.get i k).symm
    · have no : ∀ g : Heap, g.next ≤ i → g.get i = none := fun g hk => by
        cases e : g.get i with
        | none => rfl
        | some b => exact absurd (Heap.lt_of_get e) (by omega)
      rw [no h2 k, no h (by omega)]
  refine ⟨H.below, H.size, fun i x hx => by rw [← hn]; exact H.dom i x hx, H.codom, H.glob, fun i b hb => H.blk i b (by rw [← hg]; exact hb), fun i j r s bi bj b hi hj => H.inj i j r s bi bj b (by rw [← hg]; exact hi) (by rw [← hg]; exact hj), H.frz, H.old, fun i n x hx => by rw [← hn]; exact H.tdom i n x hx⟩
theorem Weak.eqH {ts : List Value} {h h2 : Heap} (he : eqH h h2) : Weak P ts h ts h2 := fun _ _ σ _ _ H hl => ⟨σ, Sg.le_refl σ, H.eqH he, hl⟩

/-! ### operations -/
def VK (K : KV) (v : Value) (h : Heap) : Prop := ∃ n adv, K v h n adv

theorem wpOp1_opI {o : Oper} {ts : List Value} {h : Heap} {n : Nat} {adv : Adv} {K : KV} (hw : wpOp1 P o ts h n adv K) : ∃ v h', opI P o ts h = some (v, h') ∧ VK K v h' := by
  have plain : ∀ {adv : Adv}, (match opI P o ts h with | some (v, h') => K v h' (n + 1) adv | none => False) → ∃ v h', opI P o ts h = some (v, h') ∧ VK K v h' := fun {adv} hw => by
    split at hw
    · rename_i v h' e; exact ⟨v, h', e, _, _, hw⟩
    · cases hw
  unfold wpOp1 at hw
  split at hw
  · split at hw
    · split at hw
      · rename_i b h' e
        cases b with
        | true => exact ⟨_, _, e, _, _, hw.1 rfl⟩
        | false => exact ⟨_, _, e, _, _, hw.2 rfl⟩
      · cases hw
    · exact plain hw
  · split at hw
    · split at hw
      · rename_i v0 h' e
        obtain ⟨rfl, hk⟩ := hw
        exact ⟨_, _, e, _, _, hk⟩
      · cases hw
    · exact plain hw
  · split at hw
    · split at hw
      · rename_i v h' e; exact ⟨_, _, askI_opI e (fun a ha => by cases ha), _, _, hw⟩
      · rename_i v h' l hne e; exact ⟨_, _, askI_opI e hw.1.holds, _, _, hw.2⟩
      · cases hw
    · exact plain hw
  · split at hw
    · split at hw
      · rename_i b h' l e
        obtain ⟨h1, h2, h3⟩ := hw
        cases b with
        | true => exact ⟨_, _, askI_opI e h1.holds, _, _, h2 rfl⟩
        | false => exact ⟨_, _, askI_opI e h1.holds, _, _, h3 rfl⟩
      · cases hw
    · exact plain hw
  · exact plain hw

theorem wpOp_opI {o : Oper} {ts : List Value} {h : Heap} {n : Nat} {adv : Adv} {K : KV} (hw : wpOp P o ts h n adv K) : ∃ v h', opI P o ts h = some (v, h') ∧ VK K v h' := by
  unfold wpOp at hw
  split at hw
  · rename_i b t e
    split at hw
    · cases b with
      | true => exact wpOp1_opI (hw.1 rfl)
      | false => exact wpOp1_opI (hw.2 rfl)
    · exact wpOp1_opI hw
  · exact wpOp1_opI hw

theorem hasText_of {f : FuncId} (h : hasText P f = true) : HasText P f := by
  unfold hasText at h
  split at h
  · rename_i fn hf
    obtain ⟨c, hc⟩ := Option.isSome_iff_exists.1 h
    exact ⟨fn, c, hf, hc⟩
  · cases h

theorem bool_way {K : KV} {b : Bool} {h : Heap} {n : Nat} {t e : Adv} (h1 : b = true → K (.bool true) h n t) (h2 : b = false → K (.bool false) h n e) : VK K (.bool b) h := by
  cases b with
  | true => exact ⟨_, _, h1 rfl⟩
  | false => exact ⟨_, _, h2 rfl⟩

/-- A call, in a region that keeps its order. -/
theorem wpCall1_sound {inl : FuncId → List Value → Heap → Nat → Adv → KV → Prop} (hi : ∀ f args h n adv K, inl f args h n adv K → HasText P f ∧ CallS P f args h (VK K)) {d : Bool} {f : FuncId} {args : List Value} {h : Heap} {n : Nat} {adv : Adv} {K : KV}
    (hw : wpCall1 P pf d inl f args h n adv K) : HasText P f ∧ CallS P f args h (VK K) := by
  unfold wpCall1 at hw
  split at hw
  · split at hw
    · rename_i ht; exact ⟨hasText_of ht, (hw.1 h).mono fun v1 h1 ⟨e1, e2⟩ => by subst e1; subst e2; exact ⟨_, _, hw.2⟩⟩
    · cases hw
    · exact hi _ _ _ _ _ _ hw
  · split at hw
    · rename_i ht
      exact ⟨hasText_of ht, (hw.1 h).mono fun v1 h1 ⟨e1, e2⟩ => by subst e1; subst e2; exact bool_way hw.2.1 hw.2.2⟩
    · cases hw
    · exact hi _ _ _ _ _ _ hw
  · split at hw
    · rename_i ht _
      split at hw
      · rename_i args2 ha hv; exact ⟨hasText_of ht, (CallS.borrow hw.1 ha hv).mono fun v1 h1 ⟨e1, e2⟩ => by subst e1; subst e2; exact ⟨_, _, hw.2⟩⟩
      · cases hw
    · cases hw
    · exact hi _ _ _ _ _ _ hw
  · split at hw
    · rename_i ht _
      split at hw
      · rename_i args2 ha; exact ⟨hasText_of ht, (CallS.borrow hw.1 ha rfl).mono fun v1 h1 ⟨e1, e2⟩ => by subst e1; subst e2; exact bool_way hw.2.1 hw.2.2⟩
      · cases hw
    · cases hw
    · exact hi _ _ _ _ _ _ hw
  · split at hw
    · rename_i ht _; exact ⟨hasText_of ht, hw.1.mono fun v1 h1 ⟨e1, e2⟩ => by subst e1; subst e2; exact ⟨_, _, hw.2⟩⟩
    · cases hw
    · exact hi _ _ _ _ _ _ hw
  · split at hw
    · rename_i ht; exact ⟨hasText_of ht, hw.1.mono fun v1 h1 ⟨x, hx, e1, e2⟩ => by subst e1; subst e2; exact ⟨_, _, hw.2 x hx⟩⟩
    · cases hw
    · exact hi _ _ _ _ _ _ hw
  · split at hw
    · obtain ⟨k1, k2⟩ := hi _ _ _ _ _ _ hw.1
      refine ⟨k1, CallS.post_weak (k2.mono fun v1 h1 ⟨_, _, q1, q2, q3⟩ => ?_)⟩
      subst q2
      exact ⟨v1, _, Weak.eqH q3, _, _, hw.2 q1⟩
    · cases hw
    · exact hi _ _ _ _ _ _ hw
  · exact hi _ _ _ _ _ _ hw

theorem wpCall_sound {inl : FuncId → List Value → Heap → Nat → Adv → KV → Prop} (hi : ∀ f args h n adv K, inl f args h n adv K → HasText P f ∧ CallS P f args h (VK K)) {d : Bool} {f : FuncId} {args : List Value} {h : Heap} {n : Nat} {adv : Adv} {K : KV}
    (hw : wpCall P pf d inl f args h n adv K) : HasText P f ∧ CallS P f args h (VK K) := by
  unfold wpCall at hw
  split at hw
  · rename_i b t e
    split at hw
    · cases b with
      | true => exact wpCall1_sound hi (hw.1 rfl)
      | false => exact wpCall1_sound hi (hw.2 rfl)
    · exact wpCall1_sound hi hw
  · exact wpCall1_sound hi hw

theorem wpOper_sound (hP : ProgOK P) {inl : FuncId → List Value → Heap → Nat → Adv → KV → Prop} (hi : ∀ f args h n adv K, inl f args h n adv K → HasText P f ∧ CallS P f args h (VK K)) {d : Bool} {o : Oper} {ts : List Value} {h : Heap} {n : Nat} {adv : Adv} {K : KV}
    (hok : operOK P o = true) (hw : wpOper P pf d inl o ts h n adv K) : OpS P o ts h (VK K) := by
  unfold wpOper at hw
  have pool : ∀ {told : Option Value} {v : Value} {h' : Heap} {l : List Ask}, opP P o ts h told = some (v, h', l) → Holds P l → VK K v h' → OpS P o ts h (VK K) := fun {told v h' l} he hl hk B w0 σ a w K' Q H hts hK => by
    obtain ⟨σ', w', nx, v', k1, k2, k3, k4, k5⟩ := opP_sound H hts hok he hl
    unfold Oper.wp
    rw [k2]
    rcases k3 with rfl | ⟨rfl, rfl⟩
    · exact hK σ' w' v v' h' hk k1 k4 k5
    · exact hK σ' w' v _ h' hk k1 k4 k5
  split at hw
  · split at hw
    · rename_i he; exact pool he (fun a ha => by cases ha) ⟨_, _, hw⟩
    · rename_i he; exact pool he hw.1.holds ⟨_, _, hw.2⟩
    · cases hw
  split at hw
  · rename_i c hop
    split at hw
    · rename_i b hcal
      obtain ⟨v, h', e, hk⟩ := wpOp_opI hw
      exact OpS.of hok (fun call => by unfold operI; rw [hop]; simp only [hcal]; exact e) hk
    · split at hw
      · rename_i f args hc
        obtain ⟨k1, k2⟩ := wpCall_sound hi hw
        exact OpS.call hP hok hop hc k1 k2
      · cases hw
  · rename_i hnc
    obtain ⟨v, h', e, hk⟩ := wpOp_opI hw
    exact OpS.of hok (fun call => by
      unfold operI
      split
      · rename_i c hc; exact absurd hc (hnc c)
      · exact e) hk

def TK (W : List Nat) (ts0 : List Value) (K : KT) (ts : List Value) (h : Heap) : Prop := Frame W ts0 ts ∧ ∃ n adv, K ts h n adv

theorem wpOps_sound (hP : ProgOK P) {inl : FuncId → List Value → Heap → Nat → Adv → KV → Prop} (hi : ∀ f args h n adv K, inl f args h n adv K → HasText P f ∧ CallS P f args h (VK K)) {ops : Array Oper} {d : Bool} {W : List Nat} (hwk : ∀ i, wk.any (Nat.beq i) = true → W.any (Nat.beq i) = true) : ∀ (l : List Oper) (ts : List Value) (h : Heap) (n : Nat) (adv : Adv) (K : KT), l.all (operOK P) = true →
    (∀ o ∈ l, ∀ t, o.dst = some t → W.any (Nat.beq t) = true) → wpOps P pf wk d inl ops.toList l ts h n adv K → WpOpsS P ops l ts h (TK W ts K)
  | [], ts, h, n, adv, K, _, _, hw => WpOpsS.nil ⟨Frame.refl W ts, n, adv, hw⟩
  | o :: l, ts, h, n, adv, K, hok, hW, hw => by
    simp only [List.all_cons, Bool.and_eq_true] at hok
    have hfr : ∀ v, Frame W ts (putI ts o.dst v) := fun v => Frame.put (hW o (by simp))
    have weak0 : ∀ {ts2 : List Value} {h' : Heap} {n' : Nat} {adv' : Adv}, Frame W ts ts2 → wpOps P pf wk d inl ops.toList l ts2 h' n' adv' K → WpOpsS P ops l ts2 h' (TK W ts K) := fun {ts2 h' n' adv'} hf hw B w0 σ a w Q H hts hd hQ =>
      wpOps_sound hP hi hwk l _ _ _ _ K hok.2 (fun o ho => hW o (by simp [ho])) hw B w0 σ a w Q H hts hd fun σ' a' w' ts' h' k => hQ σ' a' w' ts' h' ⟨hf.trans k.1, k.2⟩
    have weak : ∀ {v : Value} {h' : Heap} {n' : Nat} {adv' : Adv}, wkStep P wk d (putI ts o.dst v) h' n' adv' (fun ts2 h2 n2 adv2 => wpOps P pf wk d inl ops.toList l ts2 h2 n2 adv2 K) → WpOpsS P ops l (putI ts o.dst v) h' (TK W ts K) := fun {v h' n' adv'} hw => by
      unfold wkStep at hw
      split at hw
      · rename_i g h2 r hwko
        have hg : (g.all fun p => wk.any (Nat.beq p.1)) = true := by
          unfold wkoAt at hwko
          split at hwko
          · split at hwko
            · rename_i hc; cases hwko; simp only [Bool.and_eq_true] at hc; exact hc.2
            · cases hwko
          · cases hwko
        refine WpOpsS.weak hw.1 (weak0 ((hfr v).trans (Frame.setL g _ ?_)) hw.2)
        exact List.all_eq_true.2 fun p hp => hwk _ (List.all_eq_true.1 hg p hp)
      · exact weak0 (hfr v) hw
    rw [wpOps] at hw
    split at hw
    · rename_i hwt; exact WpOpsS.off hwt (weak0 (hfr _) hw)
    · rename_i hwt
      exact WpOpsS.op hwt ((wpOper_sound hP hi hok.1 hw).mono fun v h' ⟨n', adv', k⟩ => weak k)

/-! ### regions that draw their order -/
def consCall (c : CallI) (r : Nat → CallI) : Nat → CallI
  | 0 => c
  | n + 1 => r n

theorem sound_of {B : Nat} {w0 : Org} {call : CallI} (hP : ProgOK P) (h : ∀ f args h v h', call f args h = some (v, h') → HasText P f ∧ CallS P f args h fun v1 h1 => v1 = v ∧ h1 = h') : CallSound P B w0 call := by
  intro f args h1 v h' he σ w args' H ha o a K Q ho hK
  obtain ⟨⟨fn, c, hf, hb⟩, hs⟩ := h f args h1 v h' he
  refine Calls.wp_enter hP hf hb ho (R := fun v' w' => ∃ σ', σ.le σ' ∧ VRel σ' v v' ∧ HRel P B w0 σ' h' w') ((hs B w0 σ w args' H ha).mono fun e w' ⟨v1, v', h2, k1, ⟨e1, e2⟩, k3⟩ => ⟨v', k1, by subst e1; subst e2; exact k3⟩) fun v' w' hR => ?_
  obtain ⟨σ', k2, k3, k4⟩ := hR
  exact hK σ' w' v' k2 k3 k4

open Classical in
noncomputable def knownK (f : FuncId) (args : List Value) (v : Value) : CallI := fun f' args' h => if f' = f ∧ args' = args then some (v, h) else none
open Classical in
noncomputable def knownS (f : FuncId) (args : List Value) (h : Heap) (v : Value) (h' : Heap) : CallI := fun f' args' h2 => if f' = f ∧ args' = args ∧ h2 = h then some (v, h') else none

/-- A call that is known, or run out. -/
structure Known (P : Program) (pf : FuncId → Bool) (call : CallI) : Prop where
  sound : ∀ B w0, CallSound P B w0 call
  pure : PureCall call pf

theorem Known.nil : Known P pf (fun _ _ _ => none) := ⟨fun _ _ _ _ _ _ _ he => (by cases he), fun _ _ _ _ _ _ he => (by cases he)⟩
theorem Known.K (hP : ProgOK P) {f : FuncId} {args : List Value} {v : Value} (ht : HasText P f) (hk : CallK P f args v) : Known P pf (knownK f args v) := by
  refine ⟨fun B w0 => sound_of hP fun f' args' h v' h' he => ?_, fun f' hf' args' h v' h' he => ?_⟩
  · unfold knownK at he
    split at he
    · rename_i e; obtain ⟨rfl, rfl⟩ := e; cases he; exact ⟨ht, hk _⟩
    · cases he
  · unfold knownK at he ⊢
    split at he
    · rename_i e; cases he; exact ⟨rfl, fun h2 => by rw [if_pos e]⟩
    · cases he
theorem Known.S (hP : ProgOK P) {f : FuncId} {args : List Value} {h h' : Heap} {v : Value} (ht : HasText P f) (hpf : pf f = false) (hk : CallS P f args h fun v1 h1 => v1 = v ∧ h1 = h') : Known P pf (knownS f args h v h') := by
  refine ⟨fun B w0 => sound_of hP fun f' args' h2 v' h3 he => ?_, fun f' hf' args' h2 v' h3 he => ?_⟩
  · unfold knownS at he
    split at he
    · rename_i e; obtain ⟨rfl, rfl, rfl⟩ := e; cases he; exact ⟨ht, hk⟩
    · cases he
  · unfold knownS at he
    split at he
    · rename_i e; rw [e.1, hpf] at hf'; cases hf'
    · cases he
theorem Known.run (hP : ProgOK P) (k : Nat) : Known P pf (fun f args h => if pf f then none else callWith P noOrc (exec P noOrc k) f args h) := by
  refine ⟨fun B w0 f args h v h' he => ?_, fun f hf args h v h' he => ?_⟩
  · split at he
    · cases he
    · exact callWith_sound hP noOrc_sound (exec_sound hP noOrc_sound k).1 f args h v h' he
  · simp only [hf, if_true] at he; cases he

theorem wpCall1_draw (hP : ProgOK P) {k : Nat} {f : FuncId} {args : List Value} {h : Heap} {n : Nat} {adv : Adv} {K : KV} (hw : wpCall1 P pf true (inlD P pf k) f args h n adv K) :
    ∃ call v h', Known P pf call ∧ call f args h = some (v, h') ∧ VK K v h' ∧ (keepsM n adv = true → h' = h) := by
  have run : ∀ {n : Nat} {adv : Adv}, inlD P pf k f args h n adv K → ∃ call v h', Known P pf call ∧ call f args h = some (v, h') ∧ VK K v h' := fun {n adv} hw => by
    unfold inlD at hw
    split at hw
    · cases hw
    · rename_i hpf
      split at hw
      · rename_i v h' e
        exact ⟨_, v, h', Known.run hP k, by simp only [hpf, Bool.false_eq_true, if_false]; exact e, _, _, hw⟩
      · cases hw
  have drop : ∀ {adv : Adv}, (∃ call v h', Known P pf call ∧ call f args h = some (v, h') ∧ VK K v h') → keepsM n adv = false → ∃ call v h', Known P pf call ∧ call f args h = some (v, h') ∧ VK K v h' ∧ (keepsM n adv = true → h' = h) := fun ⟨call, v, h', k1, k2, k3⟩ hk => ⟨call, v, h', k1, k2, k3, fun he => by rw [hk] at he; cases he⟩
  unfold wpCall1 at hw
  split at hw
  · split at hw
    · rename_i ht; exact ⟨_, _, h, Known.K hP (hasText_of ht) hw.1, by simp [knownK], ⟨_, _, hw.2⟩, fun _ => rfl⟩
    · cases hw
    · rename_i hne; exact drop (run hw) (by first | exact hne | rfl | (simp only [keepsM]; exact hne))
  · split at hw
    · rename_i ht; exact ⟨_, _, h, Known.K hP (hasText_of ht) hw.1, by simp [knownK], bool_way hw.2.1 hw.2.2, fun _ => rfl⟩
    · cases hw
    · rename_i hne; exact drop (run hw) (by first | exact hne | rfl | (simp only [keepsM]; exact hne))
  · split at hw
    · rename_i ht hpf
      simp only [Bool.true_and] at hpf
      split at hw
      · rename_i args2 ha hv; exact ⟨_, _, _, Known.S hP (hasText_of ht) hpf (CallS.borrow hw.1 ha hv), by simp [knownS], ⟨_, _, hw.2⟩, fun _ => rfl⟩
      · cases hw
    · cases hw
    · rename_i hne; exact drop (run hw) (by first | exact hne | rfl | (simp only [keepsM]; exact hne))
  · split at hw
    · rename_i ht hpf
      simp only [Bool.true_and] at hpf
      split at hw
      · rename_i args2 ha; exact ⟨_, _, _, Known.S hP (hasText_of ht) hpf (CallS.borrow hw.1 ha rfl), by simp [knownS], bool_way hw.2.1 hw.2.2, fun _ => rfl⟩
      · cases hw
    · cases hw
    · rename_i hne; exact drop (run hw) (by first | exact hne | rfl | (simp only [keepsM]; exact hne))
  · split at hw
    · rename_i ht hpf
      simp only [Bool.true_and] at hpf
      exact ⟨_, _, _, Known.S hP (hasText_of ht) hpf hw.1, by simp [knownS], ⟨_, _, hw.2⟩, fun hk => by simp [keepsM] at hk⟩
    · cases hw
    · rename_i hne; exact drop (run hw) (by first | exact hne | rfl | (simp only [keepsM]; exact hne))
  · split at hw
    · rename_i hd; cases hd
    · cases hw
    · rename_i hne; exact drop (run hw) (by first | exact hne | rfl | (simp only [keepsM]; exact hne))
  · split at hw
    · rename_i hd; cases hd
    · cases hw
    · rename_i hne; exact drop (run hw) (by first | exact hne | rfl | (simp only [keepsM]; exact hne))
  · rename_i q1 q2 q3 q4 q5 q6 q7; exact drop (run hw) (by cases adv <;> first | rfl | (exfalso; first | exact q1 _ _ _ rfl | exact q2 _ _ _ _ rfl | exact q3 _ _ _ rfl | exact q4 _ _ _ _ rfl))

theorem wpCall_draw (hP : ProgOK P) {k : Nat} {f : FuncId} {args : List Value} {h : Heap} {n : Nat} {adv : Adv} {K : KV} (hw : wpCall P pf true (inlD P pf k) f args h n adv K) :
    ∃ call v h', Known P pf call ∧ call f args h = some (v, h') ∧ VK K v h' ∧ (keepsM n adv = true → h' = h) := by
  unfold wpCall at hw
  split at hw
  · rename_i b t e
    have weaken : ∀ {adv : Adv}, (∃ call v h', Known P pf call ∧ call f args h = some (v, h') ∧ VK K v h' ∧ (keepsM n adv = true → h' = h)) → ∃ call v h', Known P pf call ∧ call f args h = some (v, h') ∧ VK K v h' ∧ (false = true → h' = h) := fun ⟨call, v, h', k1, k2, k3, _⟩ => ⟨call, v, h', k1, k2, k3, fun he => by cases he⟩
    split at hw
    · cases b with
      | true => exact weaken (wpCall1_draw hP (hw.1 rfl))
      | false => exact weaken (wpCall1_draw hP (hw.2 rfl))
    · exact wpCall1_draw hP hw
  · exact wpCall1_draw hP hw

theorem wpOper_draw (hP : ProgOK P) {k : Nat} {o : Oper} {ts : List Value} {h : Heap} {n : Nat} {adv : Adv} {K : KV} (hw : wpOper P pf true (inlD P pf k) o ts h n adv K) :
    ∃ call v h', Known P pf call ∧ operI P call o ts h = some (v, h') ∧ VK K v h' ∧ (flagOf P pf o n adv = true → h' = h) := by
  have flag : ∀ {call : CallI} {v : Value} {h' : Heap}, Known P pf call → operI P call o ts h = some (v, h') → ((isFn o.op && keepsM n adv) = true → h' = h) → flagOf P pf o n adv = true → h' = h := fun {call v h'} hk ho h1 hf => by
    unfold flagOf at hf
    rw [Bool.or_eq_true] at hf
    rcases hf with hf | hf
    · exact (quietI_heap hk.pure (by simpa using hf) ho).1
    · exact h1 hf
  unfold wpOper at hw
  have e : plAt true n adv = none := by unfold plAt; split <;> rfl
  rw [e] at hw
  simp only at hw
  split at hw
  · rename_i c hop
    split at hw
    · rename_i b hcal
      obtain ⟨v, h', e, hk⟩ := wpOp_opI hw
      have ho : operI P (fun _ _ _ => none) o ts h = some (v, h') := by unfold operI; rw [hop]; simp only [hcal]; exact e
      exact ⟨_, v, h', Known.nil, ho, hk, flag Known.nil ho fun hf => by
        rw [hop] at hf
        obtain ⟨callee, args, argTypes⟩ := c
        simp only at hcal; subst hcal
        simp [isFn] at hf⟩
    · rename_i hnb
      split at hw
      · rename_i f args hc
        obtain ⟨call, v, h', k1, k2, k3, k4⟩ := wpCall_draw hP hw
        have ho : operI P call o ts h = some (v, h') := by
          unfold operI
          rw [hop]
          simp only [hc]
          exact k2
        exact ⟨call, v, h', k1, ho, k3, flag k1 ho fun hf => by
          rw [Bool.and_eq_true] at hf; exact k4 hf.2⟩
      · cases hw
  · rename_i hnc
    obtain ⟨v, h', e, hk⟩ := wpOp_opI hw
    have ho : operI P (fun _ _ _ => none) o ts h = some (v, h') := by
      unfold operI
      split
      · rename_i c hc; exact absurd hc (hnc c)
      · exact e
    exact ⟨_, v, h', Known.nil, ho, hk, flag Known.nil ho fun hf => by
      rw [Bool.and_eq_true] at hf
      have h1 := hf.1
      cases hop : o.op with
      | call c => exact absurd hop (hnc c)
      | _ => rw [hop] at h1; simp [isFn] at h1⟩

theorem wpOps_draw (hP : ProgOK P) {k : Nat} {all : List Oper} {W : List Nat} : ∀ (l : List Oper) (ts : List Value) (h : Heap) (n : Nat) (adv : Adv) (K : KT), (∀ o ∈ l, ∀ t, o.dst = some t → W.any (Nat.beq t) = true) → wpOps P pf wk true (inlD P pf k) all l ts h n adv K →
    ∃ call ts' h', (∀ i, Known P pf (call i)) ∧ opsI P call all l ts h = some (ts', h') ∧ TK W ts K ts' h'
  | [], ts, h, n, adv, K, _, hw => ⟨fun _ _ _ _ => none, ts, h, fun _ => Known.nil, rfl, Frame.refl W ts, n, adv, hw⟩
  | o :: l, ts, h, n, adv, K, hW, hw => by
    have hfr : ∀ v, Frame W ts (putI ts o.dst v) := fun v => Frame.put (hW o (by simp))
    rw [wpOps] at hw
    split at hw
    · rename_i hwt
      obtain ⟨call, ts', h', k1, k2, k3, k4⟩ := wpOps_draw hP l _ _ _ _ K (fun o ho => hW o (by simp [ho])) hw
      refine ⟨consCall (fun _ _ _ => none) call, ts', h', fun i => ?_, ?_, (hfr _).trans k3, k4⟩
      · cases i with
        | zero => exact Known.nil
        | succ i => exact k1 i
      · rw [opsI, hwt]; exact k2
    · rename_i hwt
      obtain ⟨c0, v, h1, q1, q2, ⟨n', adv', q3⟩, q4⟩ := wpOper_draw hP hw
      have q3 : wpOps P pf wk true (inlD P pf k) all l (putI ts o.dst v) h1 n' adv' K := by
        unfold wkStep at q3
        have e : wkoAt wk true n' adv' = none := by unfold wkoAt; split <;> rfl
        rw [e] at q3; exact q3
      obtain ⟨call, ts', h', k1, k2, k3, k4⟩ := wpOps_draw hP l _ _ _ _ K (fun o ho => hW o (by simp [ho])) q3
      refine ⟨consCall c0 call, ts', h', fun i => ?_, ?_, (hfr _).trans k3, k4⟩
      · cases i with
        | zero => exact q1
        | succ i => exact k1 i
      · rw [opsI, hwt]
        simp only [if_true, consCall, q2]
        exact k2

theorem opsT_of_opsI {all : List Oper} : ∀ {l : List Oper} {call : Nat → CallI} {ts ts' : List Value} {h h' : Heap}, opsI P call all l ts h = some (ts', h') → ∃ ents, opsT P call all l ts h = some (ents, ts', h')
  | [], call, ts, ts', h, h', he => by simp only [opsI, Option.some.injEq, Prod.mk.injEq] at he; obtain ⟨rfl, rfl⟩ := he; exact ⟨[], rfl⟩
  | o :: l, call, ts, ts', h, h', he => by
    simp only [opsI] at he
    simp only [opsT]
    split at he
    · rename_i hw
      split at he
      · rename_i v h1 hv
        obtain ⟨ents, k⟩ := opsT_of_opsI he
        exact ⟨_, by rw [if_pos hw]; simp only [hv, k]; rfl⟩
      · cases he
    · rename_i hw
      obtain ⟨ents, k⟩ := opsT_of_opsI he
      exact ⟨_, by rw [if_neg hw]; simp only [k]; rfl⟩

theorem WpS.draw (hP : ProgOK P) {id : Nat} {ops : Array Oper} {call : Nat → CallI} {ts ts' : List Value} {h h' : Heap} {Q : Ex → List Value → Heap → Prop} (hc : ∀ i, Known P pf (call i)) (hok : ops.toList.all (operOK P) = true)
    (ho : opsI P call ops.toList ops.toList ts h = some (ts', h')) (hd : (pairsOK P pf ops (pres ops.toList []) 0 ops.toList && drawStill P pf ops) = true) (hq : Q .normal ts' h') : WpS P (.region id ops true) ts h Q := fun B w0 σ act w H hts hdef => by
  simp only [Bool.and_eq_true] at hd
  obtain ⟨ents, ht⟩ := opsT_of_opsI ho
  exact draw_sound hP.mixed (fun i => (hc i).sound B w0) (fun i => (hc i).pure) hok ht hd.1 (by unfold drawReads; rw [hd.2]; rfl) H hts hdef fun σ' a' w' k1 k2 k3 k4 => ⟨.normal, ts', h', rfl, hq, σ', k1, k2, k3, k4⟩

theorem region_writes {ops : Array Oper} : ∀ o ∈ ops.toList, ∀ t, o.dst = some t → (ops.toList.filterMap (·.dst)).any (Nat.beq t) = true := fun o ho t ht => any_beq.2 (List.mem_filterMap.2 ⟨o, ho, ht⟩)
theorem FlagsOK.snoc {acc : List Ent} {fl : List Bool} {es : List Ent} {hf : Heap} {b : Bool} (hl : acc.length = fl.length) (h : FlagsOK fl (acc ++ es) hf) (hb : b = true → heapAt (acc ++ es) hf (acc.length + 1) = heapAt (acc ++ es) hf acc.length) : FlagsOK (fl ++ [b]) (acc ++ es) hf := fun j hj => by
  rcases Nat.lt_trichotomy j fl.length with hlt | heq | hgt
  · refine h j ?_
    simpa [List.getD, List.getElem?_append_left hlt] using hj
  · subst heq
    rw [← hl]
    refine hb ?_
    simpa [List.getD] using hj
  · have : (fl ++ [b])[j]? = none := by simp; omega
    simp [List.getD, this] at hj

theorem heapAt_append (acc es : List Ent) (hf : Heap) (k : Nat) : heapAt (acc ++ es) hf (acc.length + k) = heapAt es hf k := by
  unfold heapAt
  rw [List.getElem?_append_right (by omega), show acc.length + k - acc.length = k by omega]

theorem wpOpsE_draw (hP : ProgOK P) {k : Nat} {all : List Oper} {W : List Nat} : ∀ (l : List Oper) (ts : List Value) (h : Heap) (n : Nat) (adv : Adv) (acc : List Ent) (fl : List Bool) (K : List Ent → List Bool → KT), (∀ o ∈ l, ∀ t, o.dst = some t → W.any (Nat.beq t) = true) → acc.length = fl.length → wpOpsE P pf (inlD P pf k) all l ts h n adv acc fl K →
    ∃ call ents fl' ts' h', (∀ i, Known P pf (call i)) ∧ opsT P call all l ts h = some (ents, ts', h') ∧ TK W ts (K (acc ++ ents) fl') ts' h' ∧ (FlagsOK fl (acc ++ ents) h' → FlagsOK fl' (acc ++ ents) h')
  | [], ts, h, n, adv, acc, fl, K, _, _, hw => ⟨fun _ _ _ _ => none, [], fl, ts, h, fun _ => Known.nil, rfl, ⟨Frame.refl W ts, n, adv, by rw [List.append_nil]; exact hw⟩, fun h => h⟩
  | o :: l, ts, h, n, adv, acc, fl, K, hW, hlen, hw => by
    have hfr : ∀ v, Frame W ts (putI ts o.dst v) := fun v => Frame.put (hW o (by simp))
    rw [wpOpsE] at hw
    split at hw
    · rename_i hwt
      obtain ⟨call, ents, fl', ts', h', k1, k2, ⟨k3, k4⟩, k5⟩ := wpOpsE_draw hP l _ _ _ _ _ _ K (fun o ho => hW o (by simp [ho])) (by simp [hlen]) hw
      obtain ⟨_, t2, _⟩ := trace_facts k2
      refine ⟨consCall (fun _ _ _ => none) call, ⟨false, Go.undef, ts, h⟩ :: ents, fl', ts', h', fun i => ?_, ?_, ⟨(hfr _).trans k3, by rw [List.append_assoc] at k4; exact k4⟩, fun hf => ?_⟩
      · cases i with
        | zero => exact Known.nil
        | succ i => exact k1 i
      · rw [opsT, if_neg (by rw [hwt]; decide)]
        rw [show (fun n => consCall (fun _ _ _ => none) call (n + 1)) = call from rfl, k2]
      · rw [List.append_assoc] at k5
        exact k5 (hf.snoc hlen fun _ => by
          rw [heapAt_append]
          have := heapAt_append acc ([⟨false, Go.undef, ts, h⟩] ++ ents) h' 0
          rw [Nat.add_zero] at this
          rw [this]
          show heapAt ents h' 0 = h
          exact t2)
    · rename_i hwt
      obtain ⟨c0, v, h1, q1, q2, ⟨n', adv', q3⟩, q4⟩ := wpOper_draw hP hw
      obtain ⟨call, ents, fl', ts', h', k1, k2, ⟨k3, k4⟩, k5⟩ := wpOpsE_draw hP l _ _ _ _ _ _ K (fun o ho => hW o (by simp [ho])) (by simp [hlen]) q3
      obtain ⟨_, t2, _⟩ := trace_facts k2
      refine ⟨consCall c0 call, ⟨true, v, ts, h⟩ :: ents, fl', ts', h', fun i => ?_, ?_, ⟨(hfr _).trans k3, by rw [List.append_assoc] at k4; exact k4⟩, fun hf => ?_⟩
      · cases i with
        | zero => exact q1
        | succ i => exact k1 i
      · rw [opsT, if_pos hwt]
        rw [show consCall c0 call 0 = c0 from rfl, q2]
        simp only
        rw [show (fun n => consCall c0 call (n + 1)) = call from rfl, k2]
      · rw [List.append_assoc] at k5
        exact k5 (hf.snoc hlen fun hb => by
          rw [heapAt_append]
          have := heapAt_append acc ([⟨true, v, ts, h⟩] ++ ents) h' 0
          rw [Nat.add_zero] at this
          rw [this]
          show heapAt ents h' 0 = h
          rw [t2]; exact q4 hb)

theorem wpDrawE_reg (hP : ProgOK P) {W : List Nat} {ops : Array Oper} {k : Nat} {ts : List Value} {h : Heap} {n : Nat} {adv : Adv} {K : KT} (hok : ops.toList.all (operOK P) = true) (hW : ∀ o ∈ ops.toList, ∀ t, o.dst = some t → W.any (Nat.beq t) = true) (hw : wpDrawE P pf k ops ts h n adv K) :
    RegS P ops ts h (TK W ts K) := fun B w0 σ act w Q H hts hdef hQ => by
  unfold wpDrawE at hw
  split at hw
  · cases hw
  · rename_i hp
    obtain ⟨call, ents, fl, ts', h', c1, c2, ⟨c3, n', adv', c4⟩, c5⟩ := wpOpsE_draw hP ops.toList ts h n adv [] [] _ hW rfl hw
    rw [List.nil_append] at c4 c5
    split at c4
    · rename_i L hl
      exact draw_soundR (fun i => (c1 i).sound B w0) (fun i => (c1 i).pure) hok c2 hp (.inr ⟨fl, L, c5 (FlagsOK.nil _ _), hl, c4.1.all⟩) H hts hdef
        fun σ' a' w' k1 k2 k3 k4 => hQ σ' a' w' ts' h' ⟨c3, n', adv', c4.2⟩ k1 k2 k3 k4
    · cases c4
theorem dst_all {W : List Nat} {l : List Oper} : (∀ o ∈ l, ∀ t, o.dst = some t → W.any (Nat.beq t) = true) ↔ (l.all fun o => match o.dst with | some t => W.any (Nat.beq t) | none => true) = true := by
  rw [List.all_eq_true]
  refine ⟨fun h o ho => ?_, fun h o ho t ht => ?_⟩
  · cases hd : o.dst with
    | none => rfl
    | some t => exact h o ho t hd
  · have := h o ho
    rw [ht] at this; exact this
theorem swL_frame {W : List Nat} {b c : Nat} {ts : List Value} : Frame W ts (swL W b c 0 ts) := ⟨swL_length _ _ _ _ _, fun i hi => by
  rcases Nat.lt_or_ge i ts.length with k | k
  · rw [swL_get _ _ _ _ _ _ k, Nat.zero_add, hi]
  · have e1 : (swL W b c 0 ts)[i]? = none := by rw [List.getElem?_eq_none_iff, swL_length]; exact k
    have e2 : ts[i]? = none := by rw [List.getElem?_eq_none_iff]; exact k
    simp only [List.getD, e1, e2]⟩
theorem renK_state {B : Nat} {w0 : Org} {σ0 : Sg} {ts l0 : List Value} {h : Heap} {w0' w : World} {W : List Nat} {K : KT} (H0 : HRel P B w0 σ0 h w0') (hl0 : LRel σ0 ts l0) : ∀ (f : Nat) (σ : Sg) (ts' l : List Value) (h' : Heap) (n : Nat) (adv : Adv), σ0.le σ → HRel P B w0 σ h' w → LRel σ ts' l → Frame W ts ts' → renK P W h.next f K ts' h' n adv →
    ∃ σ2 ts2 h2 n2 adv2, σ0.le σ2 ∧ HRel P B w0 σ2 h2 w ∧ LRel σ2 ts2 l ∧ Frame W ts ts2 ∧ K ts2 h2 n2 adv2
  | 0, σ, ts', l, h', n, adv, hle, H, hl, hf, hk => ⟨σ, ts', h', n, adv, hle, H, hl, hf, hk⟩
  | f + 1, σ, ts', l, h', n, adv, hle, H, hl, hf, hk => by
    simp only [renK] at hk
    split at hk
    · rename_i b c r hr
      split at hk
      · rename_i h2 hc hs
        simp only [Bool.and_eq_true, Nat.ble_eq] at hc
        obtain ⟨⟨⟨hg, hb⟩, hcc⟩, hok⟩ := hc
        have hW : ∀ i, W.any (Nat.beq i) = true → swOK h.next (ts'.getD i Go.undef) = true := fun i hi => List.all_eq_true.1 hok i (any_beq.1 hi)
        exact renK_state H0 hl0 f (σ.sw b c) _ l h2 (n + 1) r (Sg.le_sw hle H0.dom H0.tdom hb hcc) (H.sw hg hb hcc hs hk.1) (LRel.sw H0.dom H0.tdom hb hcc hl0 hl hW hf.2) (hf.trans swL_frame) hk.2
      · cases hk
    · exact ⟨σ, ts', h', n, adv, hle, H, hl, hf, hk⟩
theorem wpForks_reg (hP : ProgOK P) {k : Nat} : ∀ (m : Nat) {W : List Nat} {ops : Array Oper} {ts : List Value} {h : Heap} {n : Nat} {adv : Adv} {K : KT}, ops.toList.all (operOK P) = true → (∀ o ∈ ops.toList, ∀ t, o.dst = some t → W.any (Nat.beq t) = true) → wpForks P pf k m ops ts h n adv K →
    RegS P ops ts h (TK W ts K)
  | 0, _, _, _, _, _, _, _, _, _, hw => by cases hw
  | m + 1, W, ops, ts, h, n, adv, K, hok, hW, hw => by
    have hWd : ∀ i, (dsts ops).any (Nat.beq i) = true → W.any (Nat.beq i) = true := fun i hi => by
      obtain ⟨o, ho, e⟩ := List.mem_filterMap.1 (any_beq.1 hi)
      exact hW o ho i e
    have leaf : ∀ {adv : Adv}, wpDrawE P pf k ops ts h n adv (renK P (dsts ops) h.next 4 K) → RegS P ops ts h (TK W ts K) := fun {adv} hw B w0 σ act w Q H hts hdef hQ =>
      wpDrawE_reg hP hok region_writes hw B w0 σ act w Q H hts hdef fun σ' a' w' ts' h' hR k1 k2 k3 k4 => by
        obtain ⟨hf, n', adv', hk⟩ := hR
        obtain ⟨σ2, ts2, h2, n2, adv2, q1, q2, q3, q4, q5⟩ := renK_state H hts 4 σ' ts' _ h' n' adv' k1 k3 k2 hf hk
        exact hQ σ2 a' w' ts2 h2 ⟨q4.mono hWd, n2, adv2, q5⟩ q1 q3 q2 k4
    unfold wpForks at hw
    split at hw
    · rename_i x ms r
      split at hw
      · have := wpForks_reg hP m (mark_ok markO_ok hok) (dst_all.2 (mark_ok (fun o => by rw [(markO_rest o).1]) (dst_all.1 hW))) hw
        exact fun B w0 σ act w Q H hts hdef hQ => WpReg.mark (this B w0 σ act w Q H hts hdef hQ)
      · cases hw
    · rename_i x i j a b
      split at hw
      · rename_i hb
        simp only [Bool.and_eq_true, Bool.not_eq_true'] at hb
        have h1 := wpForks_reg hP m (withE_ok (i := i) (j := j) (fun _ _ => rfl) hok) (dst_all.2 (withE_ok (fun _ _ => rfl) (dst_all.1 hW))) hw.1
        have h2 := wpForks_reg hP m (withE_ok (i := j) (j := i) (fun _ _ => rfl) hok) (dst_all.2 (withE_ok (fun _ _ => rfl) (dst_all.1 hW))) hw.2
        exact fun B w0 σ act w Q H hts hdef hQ => WpReg.fork hb.2 (h1 B w0 σ act w Q H hts hdef hQ) (h2 B w0 σ act w Q H hts hdef hQ)
      · cases hw
    · rename_i x p q r
      split at hw
      · rename_i hb
        simp only [Bool.and_eq_true] at hb
        have := wpForks_reg hP m (reord_ok hb.2 (fun _ => rfl) hok) (dst_all.2 (reord_ok hb.2 (fun _ => rfl) (dst_all.1 hW))) hw
        exact fun B w0 σ act w Q H hts hdef hQ => WpReg.reord hb.2 (this B w0 σ act w Q H hts hdef hQ)
      · cases hw
    · rename_i x f h2 r1 r2
      split at hw
      · have h1 := wpForks_reg hP m (W := dsts ops) hok region_writes hw.1
        exact fun B w0 σ act w Q H hts hdef hQ => h1 B w0 σ act w Q H hts hdef fun σ' a' w' ts' h' hR k1 k2 k3 k4 => by
          obtain ⟨hf, _, _, ha, he⟩ := hR
          have q := hw.2 fun i => ts'.getD i Go.undef
          rw [overlay_self ha hf] at q
          exact hQ σ' a' w' ts' h2 ⟨hf.mono hWd, n + 1, r2, q⟩ k1 k2 (k3.eqH he) k4
      · cases hw
    · exact leaf hw
theorem wpForks_sound (hP : ProgOK P) {id : Nat} {ops : Array Oper} {k m : Nat} {ts : List Value} {h : Heap} {n : Nat} {adv : Adv} {K : KT} (hok : ops.toList.all (operOK P) = true) (hw : wpForks P pf k m ops ts h n adv K) :
    WpS P (.region id ops true) ts h fun x ts' h' => x = .normal ∧ Frame (ops.toList.filterMap (·.dst)) ts ts' ∧ ∃ n adv, K ts' h' n adv := fun B w0 σ act w H hts hdef =>
  WpReg.region hP.mixed (wpForks_reg hP m hok region_writes hw B w0 σ act _ _ H.drew hts hdef fun σ' a' w' ts' h' hR k1 k2 k3 k4 => ⟨.normal, ts', h', rfl, ⟨rfl, hR.1, hR.2⟩, σ', k1, k2, k3, k4⟩)

/-! ### code -/
def XK (W : List Nat) (ts0 : List Value) (Q : KX) (x : Ex) (ts : List Value) (h : Heap) : Prop := Frame W ts0 ts ∧ ∃ n adv, Q x ts h n adv


theorem inlT_sound (hP : ProgOK P) {ex : Code → List Value → Heap → Nat → Adv → KX → Prop} (hex : ∀ c ts h n adv Q, codeOK P c = true → ex c ts h n adv Q → WpS P c ts h fun x ts' h' => ∃ n adv, Q x ts' h' n adv) :
    ∀ f args h n adv K, inlT P ex f args h n adv K → HasText P f ∧ CallS P f args h (VK K) := fun f args h n adv K hw => by
  unfold inlT at hw
  split at hw
  · rename_i fn hf
    split at hw
    · rename_i c hb
      refine ⟨⟨fn, c, hf, hb⟩, CallS.text hP hf hb ((hex c _ h n adv _ (hP.code f fn c hf hb) hw).mono fun x ts' h' ⟨n', adv', k⟩ => ?_)⟩
      cases x with
      | exit id => cases k
      | normal =>
        simp only at k
        split at k
        · rename_i l hl; exact ⟨.inl rfl, l, hl, n', adv', k⟩
        · cases k
      | ret =>
        simp only at k
        split at k
        · rename_i l hl; exact ⟨.inr rfl, l, hl, n', adv', k⟩
        · cases k
    · cases hw
  · cases hw

theorem wpA_sound (hP : ProgOK P) : ∀ (k : Nat) (c : Code) (ts : List Value) (h : Heap) (n : Nat) (adv : Adv) (Q : KX), codeOK P c = true → wpA P pf wk k c ts h n adv Q → WpS P c ts h (XK (writes c ++ wk) ts Q)
  | 0, _, _, _, _, _, _, _, hw => by cases hw
  | k + 1, c, ts, h, n, adv, Q, hok, hw => by
    have ih := wpA_sound hP k
    have hin := inlT_sound hP (ex := wpA P pf wk k) fun c ts h n adv Q hc hw => (ih c ts h n adv Q hc hw).mono fun x ts' h' hx => hx.2
    unfold wpA at hw
    split at hw
    · rename_i g h2 r hwk
      have hg : (g.all fun p => wk.any (Nat.beq p.1)) = true := by
        unfold weakAt at hwk
        split at hwk
        · split at hwk
          · rename_i hc; cases hwk; simp only [Bool.and_eq_true] at hc; exact hc.2
          · cases hwk
        · cases hwk
      exact ((ih c _ h2 _ r Q hok hw.2).mono fun x ts' h' ⟨k1, k2⟩ => ⟨(Frame.setL g ts hg).right.trans k1, k2⟩).weak hw.1
    · have seqL : ∀ {a b : Code} {ts ts' : List Value}, Frame (writes a ++ wk) ts ts' → Frame (writes (.seq a b) ++ wk) ts ts' := fun {a b ts ts'} h => h.mono fun i hi => by
        simp only [writes, List.any_append, Bool.or_eq_true] at hi ⊢; rcases hi with h | h <;> simp [h]
      have seqR : ∀ {a b : Code} {ts ts' : List Value}, Frame (writes b ++ wk) ts ts' → Frame (writes (.seq a b) ++ wk) ts ts' := fun {a b ts ts'} h => h.mono fun i hi => by
        simp only [writes, List.any_append, Bool.or_eq_true] at hi ⊢; rcases hi with h | h <;> simp [h]
      cases c with
      | skip => exact WpS.skip ⟨Frame.refl _ _, n, adv, hw⟩
      | label l => exact WpS.label ⟨Frame.refl _ _, n, adv, hw⟩
      | exit id => exact WpS.exit ⟨Frame.refl _ _, n, adv, hw⟩
      | ret => exact WpS.ret ⟨Frame.refl _ _, n, adv, hw⟩
      | goto l => cases hw
      | refuse why => cases hw
      | rangeFunc f ps as b => cases hw
      | seq a b =>
        simp only [codeOK, Bool.and_eq_true] at hok
        simp only at hw
        split at hw
        · refine WpS.seq ((ih a ts h _ _ _ hok.1 hw.1).mono fun x ts' h' ⟨k1, n', adv', k2⟩ => ?_)
          cases x with
          | normal =>
            obtain ⟨q1, q2, q3⟩ := k2
            have := hw.2 q1 fun i => ts'.getD i Go.undef
            rw [overlay_self q2 k1] at this
            exact ((ih b ts' _ _ _ Q hok.2 this).mono fun x ts2 h2 ⟨q1, q2⟩ => ⟨(seqL k1).trans (seqR q1), q2⟩).weak (Weak.eqH q3)
          | exit id => exact ⟨seqL k1, n', adv', k2⟩
          | ret => exact ⟨seqL k1, n', adv', k2⟩
        · refine WpS.seq ((ih a ts h _ adv _ hok.1 hw).mono fun x ts' h' ⟨k1, n', adv', k2⟩ => ?_)
          cases x with
          | normal => exact (ih b ts' h' n' adv' Q hok.2 k2).mono fun x ts2 h2 ⟨q1, q2⟩ => ⟨(seqL k1).trans (seqR q1), q2⟩
          | exit id => exact ⟨seqL k1, n', adv', k2⟩
          | ret => exact ⟨seqL k1, n', adv', k2⟩
      | cond o a b =>
        simp only [codeOK, Bool.and_eq_true] at hok
        simp only at hw
        have wayT : ∀ {n : Nat} {adv : Adv}, evI ts o = .bool true → wpA P pf wk k a ts h n adv Q → WpS P (.cond o a b) ts h (XK (writes (.cond o a b) ++ wk) ts Q) := fun {n adv} e hw =>
          WpS.cond_true hok.1 e ((ih a ts h n adv Q hok.2.1 hw).mono fun x ts' h' ⟨k1, k2⟩ => ⟨seqL (b := b) k1, k2⟩)
        have wayF : ∀ {n : Nat} {adv : Adv}, evI ts o = .bool false → wpA P pf wk k b ts h n adv Q → WpS P (.cond o a b) ts h (XK (writes (.cond o a b) ++ wk) ts Q) := fun {n adv} e hw =>
          WpS.cond_false hok.1 e ((ih b ts h n adv Q hok.2.2 hw).mono fun x ts' h' ⟨k1, k2⟩ => ⟨seqR (a := a) k1, k2⟩)
        split at hw
        · split at hw
          · rename_i v e
            cases v with
            | true => exact wayT e (hw.1 rfl)
            | false => exact wayF e (hw.2 rfl)
          · cases hw
        · split at hw
          · rename_i v e
            obtain ⟨rfl, hw⟩ := hw
            cases v with
            | true => exact wayT e hw
            | false => exact wayF e hw
          · cases hw
        · split at hw
          · rename_i e; exact wayT e hw
          · rename_i e; exact wayF e hw
          · cases hw
      | block id b =>
        simp only [codeOK] at hok
        refine WpS.block ((ih b ts h n adv _ hok hw).mono fun x ts' h' ⟨k1, n', adv', k2⟩ => ?_)
        cases x with
        | normal => exact ⟨k1, n', adv', k2⟩
        | ret => exact ⟨k1, n', adv', k2⟩
        | exit id' =>
          simp only at k2
          simp only [blockQ]
          split at k2
          · rename_i e; rw [e]; exact ⟨k1, n', adv', k2⟩
          · rename_i e; rw [e]; exact ⟨k1, n', adv', k2⟩
      | scope b =>
        simp only [codeOK] at hok
        exact WpS.scope (ih b ts h n adv Q hok hw)
      | region id ops d =>
        simp only [codeOK] at hok
        simp only at hw
        split at hw
        · rename_i hd
          cases d with
          | false => simp at hd
          | true => exact (wpForks_sound hP hok hw).mono fun x ts' h' ⟨e, k1, n', adv', k2⟩ => by subst e; exact ⟨k1.left, _, _, k2⟩
        · rename_i hd
          have hin2 : ∀ o ∈ ops.toList, ∀ t, o.dst = some t → (ops.toList.filterMap (·.dst) ++ wk).any (Nat.beq t) = true := fun o ho t ht => by rw [List.any_append, region_writes o ho t ht, Bool.true_or]
          have go : ∀ {n : Nat} {adv : Adv} {K : KT}, wpOps P pf wk d (inlOf P pf k (wpA P pf wk k) d) ops.toList ops.toList ts h n adv K →
              WpS P (.region id ops d) ts h fun x ts' h' => x = .normal ∧ TK (ops.toList.filterMap (·.dst) ++ wk) ts K ts' h' := fun {n adv K} hw => by
            cases d with
            | false => exact WpS.region fun B w0 σ a w Q H hts hdef hQ => wpOps_sound hP hin (fun i hi => by rw [List.any_append, hi, Bool.or_true]) ops.toList ts h _ _ K hok hin2 hw B w0 σ a w Q H hts hdef fun σ' a' w' ts' h' q => hQ σ' a' w' ts' h' ⟨rfl, q⟩
            | true =>
              simp only [Bool.not_true, Bool.false_or] at hd
              obtain ⟨call, ts', h', k1, k2, k3⟩ := wpOps_draw hP ops.toList ts h _ _ K hin2 hw
              exact WpS.draw hP k1 hok k2 hd ⟨rfl, k3⟩
          have plain : ∀ {adv : Adv}, wpOps P pf wk d (inlOf P pf k (wpA P pf wk k) d) ops.toList ops.toList ts h n adv (fun ts' h' n' adv' => Q .normal ts' h' n' adv') →
              WpS P (.region id ops d) ts h (XK (writes (.region id ops d) ++ wk) ts Q) := fun {adv} hw => (go hw).mono fun x ts' h' ⟨e, k1, k2⟩ => by subst e; exact ⟨k1, k2⟩
          split at hw
          · split at hw
            · refine (go hw.1).mono fun x ts' h' ⟨e, k1, n', adv', k2, k3⟩ => ?_
              subst e; subst k3
              have := hw.2 fun i => ts'.getD i Go.undef
              rw [overlay_self k2 k1] at this
              exact ⟨k1, _, _, this⟩
            · exact plain hw
          · exact plain hw
      | loop b =>
        simp only [codeOK] at hok
        have rounds : ∀ (m : Nat) (ts1 : List Value) (h1 : Heap) (n : Nat) (adv : Adv), Frame (writes (.loop b) ++ wk) ts ts1 → unrollU (wpA P pf wk k) b m ts1 h1 n adv Q → ∀ (B : Nat) (w0 : Org) (σ : Sg) (a : Act) (w : World), HRel P B w0 σ h1 w → LRel σ ts1 a.tmps.toList → a.defers = [] →
            Code.rounds P b (AfterS P B w0 σ (XK (writes (.loop b) ++ wk) ts Q)) m a w := fun m => by
          induction m with
          | zero => intro ts1 h1 n adv _ hw; cases hw
          | succ m ihm =>
            intro ts1 h1 n adv hfr hw B w0 σ a w H hts hd
            rw [rounds_succ]
            refine Go.wp_mono (ih b ts1 h1 n adv _ hok hw B w0 σ a w H hts hd) fun e a2 w2 q => ?_
            obtain ⟨x, ts', h', rfl, ⟨k1, n', adv', k2⟩, σ', q1, q2, q3, q4⟩ := q
            cases x with
            | normal => exact rounds_mono (fun _ _ _ k => k.weaken q1 fun _ _ _ h => h) m m a2 w2 (Nat.le_refl _) (ihm ts' h' n' adv' (hfr.trans k1) k2 B w0 σ' a2 w2 q3 q2 q4)
            | exit id => exact ⟨.exit id, ts', h', rfl, ⟨hfr.trans k1, n', adv', k2⟩, σ', q1, q2, q3, q4⟩
            | ret => exact ⟨.ret, ts', h', rfl, ⟨hfr.trans k1, n', adv', k2⟩, σ', q1, q2, q3, q4⟩
        have unroll : ∀ {adv : Adv}, unrollU (wpA P pf wk k) b k ts h n adv Q → WpS P (.loop b) ts h (XK (writes (.loop b) ++ wk) ts Q) := fun {adv} hw B w0 σ a w H hts hd =>
          wp_loop_rounds k (rounds k ts h n adv (Frame.refl _ _) hw B w0 σ a w H hts hd)
        simp only at hw
        split at hw
        · rename_i σ f H Inv n0 s0 r heq
          split at hw
          · obtain ⟨⟨h1, h2, h3⟩, h4⟩ := hw
            subst h3
            refine WpS.loop_trim (fun i t g => ∃ s j, Inv i s ∧ t = overlay (writes b ++ wk) (f s) j 0 ts ∧ g = H s) n0 ⟨s0, _, h1, (overlay_self h2 (Frame.refl _ ts)).symm, rfl⟩ fun i t g ⟨s, j, hI, et, eg⟩ => ?_
            subst et; subst eg
            refine (ih b _ _ _ _ _ hok (h4 i s j hI)).mono fun x ts' h' ⟨k1, n', adv', k2⟩ => ?_
            have hov : Frame (writes b ++ wk) ts (overlay (writes b ++ wk) (f s) j 0 ts) := by
              refine ⟨overlay_length _ _ _ 0 ts, fun q hq => ?_⟩
              have key : ∀ (k : Nat) (ts : List Value) (q : Nat), (writes b ++ wk).any (Nat.beq (k + q)) = false → (overlay (writes b ++ wk) (f s) j k ts).getD q Go.undef = ts.getD q Go.undef := fun k ts => by
                induction ts generalizing k with
                | nil => intro q _; rfl
                | cons v ts ih2 =>
                  intro q hq
                  cases q with
                  | zero => simp only [overlay, List.getD_cons_zero]; rw [show (writes b ++ wk).any (Nat.beq k) = false from hq]
                  | succ q => simp only [overlay, List.getD_cons_succ]; exact ih2 (k + 1) q (by rw [show k + 1 + q = k + (q + 1) by omega]; exact hq)
              exact key 0 ts q (by rw [Nat.zero_add]; exact hq)
            cases x with
            | normal =>
              obtain ⟨i', s', q1, q2, q3, q4, q5, q7⟩ := k2
              simp only [Bool.and_eq_true] at q5
              obtain ⟨q5, q6⟩ := q5
              refine ⟨fun q => !(writes b ++ wk).any (Nat.beq q) || (f s').any (fun p => Nat.beq p.1 q), H s', Nat.eq_of_beq_eq_true q5, q4, q7, fun q hq hlt => ?_, fun ts2 r1 r2 => ⟨i', q1, s', fun q => ts2.getD q Go.undef, q2, ?_, rfl⟩⟩
              · simp only [Bool.or_eq_true, Bool.not_eq_true'] at hq
                rcases hq with hq | hq
                · exact .inr (k1.2 q hq)
                · left
                  obtain ⟨p, p1, p2⟩ := List.any_eq_true.1 hq
                  obtain rfl := Nat.eq_of_beq_eq_true p2
                  rw [agree_mem q3 p p1]
                  exact List.all_eq_true.1 q6 p p1
              · refine (overlay_self (agree_of (fun p hp => ?_) q3) ⟨r1.trans (hov.trans k1).1, fun q hq => ?_⟩).symm
                · exact r2 p.1 (by simp only [Bool.or_eq_true]; exact .inr (List.any_eq_true.2 ⟨p, hp, Nat.beq_refl _⟩))
                · rw [r2 q (by simp only [hq, Bool.not_false, Bool.true_or])]; exact (hov.trans k1).2 q hq
            | exit id => exact ⟨hov.trans k1, n', adv', k2⟩
            | ret => exact ⟨hov.trans k1, n', adv', k2⟩
          · exact unroll hw
        · exact unroll hw

end Go.Ideal

end
