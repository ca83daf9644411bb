/- Texts packed together: IMap. -/
import Derived.MapKept
import Derived.Test.YtidlganponfccaaDoorZ6
section
/- Maps, and all operations together: what the ideal interpreter answers the model answers. Over any program. -/
set_option linter.unusedVariables false
set_option linter.unusedSimpArgs false
namespace Go.Ideal
open Go.RowKit

variable {P : Program} {B : Nat} {w0 : Org}

theorem sameNow_eqD {kt : TypeId} {d : TypeDesc} {k k' : Value} {b b' : Bool} {n : Nat} (hu : P.underlying kt = some d) (h : Instr.sameNow d k k' = some b') (he : eqD P (n + 1) kt k k' = some b) : b = b' := by
  unfold Instr.sameNow at h
  split at h
  · rename_i ik a ik2 c
    simp only [eqD, hu] at he
    split at h
    · rename_i e; subst e; simp at h he; rw [← h, ← he]
    · cases h
  · simp only [eqD, hu] at he; simp at h he; rw [← h, ← he]
  · simp only [eqD, hu] at he; simp at h he; rw [← h, ← he]
  · cases h

def FindRes (es : List MapEntry) (i : Nat) (r : Option Nat) (a : Option (Nat × Value)) : Prop :=
  (r = none → a = none) ∧ ∀ j, r = some j → i ≤ j ∧ ∃ e, es[j - i]? = some e ∧ a = some (j, e.val)

theorem FindRes.cons {e0 : MapEntry} {es : List MapEntry} {i : Nat} {r : Option Nat} {a : Option (Nat × Value)} (h : FindRes es (i + 1) r a) : FindRes (e0 :: es) i r a :=
  ⟨h.1, fun j hj => let ⟨h1, e, h2, h3⟩ := h.2 j hj; ⟨by omega, e, by rw [show j - i = (j - (i + 1)) + 1 by omega]; exact h2, h3⟩⟩
theorem FindRes.here (e0 : MapEntry) (es : List MapEntry) (i : Nat) : FindRes (e0 :: es) i (some i) (some (i, e0.val)) :=
  ⟨fun h => (by cases h), fun j hj => by cases hj; exact ⟨Nat.le_refl _, e0, by simp, rfl⟩⟩

theorem findAsking_run {kt : TypeId} {k : Value} (w : World) : ∀ (es : List MapEntry) (i : Nat) (r : Option Nat), findI P kt k (es.map (·.key)) i = some r → ∃ a, (Instr.findAsking kt k es i).run P w = .ok a w ∧ FindRes es i r a
  | [], i, r, h => by
    simp only [List.map_nil, findI, Option.some.injEq] at h; subst h
    exact ⟨none, rfl, fun _ => rfl, fun j hj => by cases hj⟩
  | e :: es, i, r, h => by
    simp only [List.map_cons, findI] at h
    split at h
    · rename_i he
      simp only [Option.some.injEq] at h; subst h
      have hr := pureRun_run (eqD_sound 10000 _ _ _ _ he) w
      refine ⟨some (i, e.val), ?_, FindRes.here e es i⟩
      simp only [Instr.findAsking, Sem.run_bind]
      have : (Op.equal kt k e.key).run P w = .ok true w := hr
      rw [this]; simp
    · rename_i he
      have hr := pureRun_run (eqD_sound 10000 _ _ _ _ he) w
      obtain ⟨a, k1, k2⟩ := findAsking_run w es (i + 1) r h
      refine ⟨a, ?_, k2.cons⟩
      simp only [Instr.findAsking, Sem.run_bind]
      have : (Op.equal kt k e.key).run P w = .ok false w := hr
      rw [this]; simpa using k1
    · cases h

theorem findNow_run {kt : TypeId} {d : TypeDesc} {k : Value} (hu : P.underlying kt = some d) : ∀ (es : List MapEntry) (i : Nat) (r : Option Nat), findI P kt k (es.map (·.key)) i = some r → Instr.findNow d k es i = none ∨ ∃ a, Instr.findNow d k es i = some a ∧ FindRes es i r a
  | [], i, r, h => by
    simp only [List.map_nil, findI, Option.some.injEq] at h; subst h
    exact .inr ⟨none, rfl, fun _ => rfl, fun j hj => by cases hj⟩
  | e :: es, i, r, h => by
    simp only [List.map_cons, findI] at h
    simp only [Instr.findNow]
    cases hs : Instr.sameNow d k e.key with
    | none => exact .inl rfl
    | some b =>
      split at h
      · rename_i he
        simp only [Option.some.injEq] at h; subst h
        have := sameNow_eqD hu hs he
        subst this
        exact .inr ⟨_, rfl, FindRes.here e es i⟩
      · rename_i he
        have := sameNow_eqD hu hs he
        subst this
        rcases findNow_run hu es (i + 1) r h with k1 | ⟨a, k1, k2⟩
        · exact .inl k1
        · exact .inr ⟨a, k1, k2.cons⟩
      · cases h

theorem findKey_run {kt : TypeId} {d : TypeDesc} {k : Value} (hu : P.underlying kt = some d) (w : World) {es : List MapEntry} {r : Option Nat} (h : findI P kt k (es.map (·.key)) 0 = some r) :
    ∃ a, (Instr.findKey kt k es).run P w = .ok a w ∧ FindRes es 0 r a := by
  rcases findNow_run hu es 0 r h with k1 | ⟨a, k1, k2⟩
  · obtain ⟨a, q1, q2⟩ := findAsking_run w es 0 r h
    exact ⟨a, by simp [Instr.findKey, run_underlying hu, k1, q1], q2⟩
  · exact ⟨a, by simp [Instr.findKey, run_underlying hu, k1], k2⟩

theorem sameBits_refl : ∀ (m n : Nat) (v : Value), m ≤ n → plainK m v = true → Instr.sameBits n v v = true
  | 0, _, _, _, h => by simp [plainK] at h
  | m + 1, 0, _, hle, _ => by omega
  | m + 1, n + 1, v, hle, h => by
    cases v with
    | bool b => simp [Instr.sameBits]
    | int k x => simp [Instr.sameBits]
    | string s => show (s == s) = true; first | exact beq_self_eq_true s | (show (s.data == s.data) = true; simp)
    | agg cs =>
      simp only [plainK] at h
      simp only [Instr.sameBits, beq_self_eq_true, Bool.true_and]
      have key : ∀ (l : List Value), l.all (plainK m) = true → ((l.zip l).all fun (x, y) => Instr.sameBits n x y) = true := fun l => by
        induction l with
        | nil => intro _; rfl
        | cons x l ih =>
          intro hl
          simp only [List.all_cons, Bool.and_eq_true] at hl
          simp only [List.zip_cons_cons, List.all_cons, Bool.and_eq_true]
          exact ⟨sameBits_refl m n x (by omega) hl.1, ih hl.2⟩
      exact key cs.toList h
    | _ => simp [plainK] at h

section
variable {w : World} {σ : Sg} {h h' : Heap} {ts : List Value} {a : Act} {v : Value} {dst : Option Tmp} {ty : TypeId} {pos : String} {after : Array Edge} {guard : Option (Nat × Bool)} {told : Option Value} {l : List Ask}

/-- A map, as the model has it. -/
theorem mapI_rel (H : HRel P B w0 σ h w) {x x' : Value} {ks vs : List Value} (he : mapI h x = some (ks, vs)) (hx : VRel σ x x') :
    ks.all flat = true ∧ ((x' = .map none ∧ ks = [] ∧ vs = []) ∨ ∃ b es cl, x' = .map (some b) ∧ w.heap[b]? = some (.map es cl) ∧ es.toList.map (·.key) = ks ∧ LRel σ vs (es.toList.map (·.val))) := by
  unfold mapI at he
  split at he
  · simp only [Option.some.injEq, Prod.mk.injEq] at he; obtain ⟨rfl, rfl⟩ := he
    cases hx; exact ⟨rfl, .inl ⟨rfl, rfl, rfl⟩⟩
  · rename_i i
    split at he
    · rename_i ks2 vs2 hg
      simp only [Option.some.injEq, Prod.mk.injEq] at he; obtain ⟨rfl, rfl⟩ := he
      cases hx with
      | mptr hi =>
        obtain ⟨b, es, cl, k1, _, k3, k4, k5, _, k7⟩ := H.blk _ _ hg
        rw [hi] at k1; cases k1
        exact ⟨k7, .inr ⟨_, es, cl, rfl, k3, flats_eq k4 k7, k5⟩⟩
    · cases he
  · split at he
    · rename_i ks2 vs2 hm
      simp only [Option.some.injEq, Prod.mk.injEq] at he; obtain ⟨rfl, rfl⟩ := he
      obtain ⟨hfl, b, es, rfl, hF, hk, hv, h1, h2⟩ := asMp_rel hm hx
      obtain ⟨cl, k⟩ := H.frz.m _ _ hF
      refine ⟨hfl, .inr ⟨b, es, cl, rfl, k, ?_, ?_⟩⟩
      · refine flats_eq (σ := σ) (LRel.of_getD (by simpa using hk) fun j _ => ?_) hfl
        have := (h1 j).vrel (σ := σ)
        simpa using this
      · refine LRel.of_getD (by simpa using hv) fun j _ => ?_
        have := (h2 j).vrel (σ := σ)
        simpa using this
    · cases he

theorem placeI_find {kt : TypeId} {k : Value} {ks : List Value} {r : Option Nat} (he : placeI P kt k ks told = some (r, l)) (hl : Holds P l) : findI P kt k ks 0 = some r := by
  unfold placeI at he
  split at he
  · split at he
    · rename_i r2 hf; simp only [Option.some.injEq, Prod.mk.injEq] at he; obtain ⟨rfl, rfl⟩ := he; exact hf
    · cases he
  · simp only [Option.some.injEq, Prod.mk.injEq] at he; obtain ⟨rfl, rfl⟩ := he; exact hl.cons.1
  · split at he
    · simp only [Option.some.injEq, Prod.mk.injEq] at he; obtain ⟨rfl, rfl⟩ := he; exact hl.cons.1
    · cases he
  · simp only [Option.some.injEq, Prod.mk.injEq] at he; obtain ⟨rfl, rfl⟩ := he; exact hl.cons.1
  · cases he

theorem keyOK_spec {kt : TypeId} {k : Value} (he : keyOK P kt k = true) : (∃ d, P.underlying kt = some d) ∧ flat k = true ∧ plainK 6 k = true ∧ ∀ b w, (Instr.checkKey b 10000 kt k).run P w = .ok () w := by
  unfold keyOK at he
  simp only [Bool.and_eq_true] at he
  obtain ⟨⟨⟨h0, h1⟩, h2⟩, h3⟩ := he
  split at h3
  · rename_i e1 e2
    refine ⟨Option.isSome_iff_exists.1 h0, h1, h2, fun b w => ?_⟩
    cases b
    · exact pureRun_run e2 w
    · exact pureRun_run e1 w
  · cases h3

theorem lookup_sound (H : HRel P B w0 σ h w) (hts : LRel σ ts a.tmps.toList) {t : TypeId} {x k : Operand} {ok : Bool} (hx : operandOK P x = true) (hk : operandOK P k = true)
    (he : opH P ⟨dst, .lookup t x k ok, ty, pos, after, guard⟩ ts h told = some (v, h', l)) (hl : Holds P l) : OpRes P B w0 σ (execOp a.eval ⟨dst, .lookup t x k ok, ty, pos, after, guard⟩) w v h' := by
  have kx := ev_sound H hts hx
  have kk := ev_sound H hts hk
  simp only [opH] at he
  split at he
  · rename_i kt et ks vs hu hm
    obtain ⟨hfl, hmap⟩ := mapI_rel H hm kx
    have run : ∀ {r : Option Nat} {u : Value} {b : Bool} {u' : Value}, keyOK P kt (evI ts k) = true → findI P kt (evI ts k) ks 0 = some r → VRel σ u u' →
        ((∃ j, r = some j ∧ b = true ∧ ∀ (es : List MapEntry), LRel σ vs (es.map (·.val)) → ∀ e, es[j]? = some e → VRel σ u e.val) ∨ (r = none ∧ b = false ∧ ∀ w, (zeroValue et).run P w = .ok u' w)) →
        OpRes P B w0 σ (execOp a.eval ⟨dst, .lookup t x k ok, ty, pos, after, guard⟩) w (found ok u b) h := fun {r u b u'} hkey hf hu2 hr => by
      obtain ⟨⟨d, hd⟩, f1, _, f3⟩ := keyOK_spec hkey
      have hk' : a.eval k = evI ts k := flat_eq f1 kk
      have fin : ∀ {z : Value}, VRel σ u z → VRel σ (found ok u b) (found ok z b) := fun {z} hz => by
        cases ok
        · simpa [found] using hz
        · simp only [found, if_true]
          exact VRel.tuple_of (.cons hz (.cons (.bool _) .nil))
      rcases hmap with ⟨e', rfl, rfl⟩ | ⟨bb, es, cl, e', hb, hks, hvs⟩
      · simp only [findI, Option.some.injEq] at hf; subst hf
        rcases hr with ⟨j, hj, _⟩ | ⟨_, rfl, hz⟩
        · cases hj
        · refine .same (v' := found ok u' false) H (op_map rfl ?_) (fin hu2)
          simp [Instr.lookup, run_underlying hu, e', hk', f3, Instr.findKey, run_underlying hd, Instr.findNow, hz]
          cases ok <;> rfl
      · subst hks
        obtain ⟨q, q1, q2⟩ := findKey_run hd w hf
        have hgo : (getObj bb).run P w = .ok (.map es cl) w := by simp [getObj, Sem.run, hb]
        rcases hr with ⟨j, rfl, rfl, hj⟩ | ⟨rfl, rfl, hz⟩
        · obtain ⟨_, e, h2, h3⟩ := q2.2 j rfl
          subst h3
          rw [Nat.sub_zero] at h2
          refine .same (v' := found ok e.val true) H (op_map rfl ?_) (fin (hj _ hvs e h2))
          simp [Instr.lookup, run_underlying hu, e', hk', hgo, f3, q1]
          cases ok <;> rfl
        · have h3 := q2.1 rfl
          subst h3
          refine .same (v' := found ok u' false) H (op_map rfl ?_) (fin hu2)
          simp [Instr.lookup, run_underlying hu, e', hk', hgo, f3, q1, hz]
          cases ok <;> rfl
    have ents : ∀ {j : Nat} {u : Value}, vs[j]? = some u → ∀ (es : List MapEntry), LRel σ vs (es.map (·.val)) → ∀ e, es[j]? = some e → VRel σ u e.val := fun {j u} hj es hr e he => by
      obtain ⟨u', k1, k2⟩ := hr.get? j u hj
      rw [List.getElem?_map, he] at k1
      simp only [Option.map_some, Option.some.injEq] at k1
      rw [k1]; exact k2
    have some_rel : ∀ {j : Nat} {u : Value}, vs[j]? = some u → ∃ u', VRel σ u u' := fun {j u} hj => by
      rcases hmap with ⟨_, _, rfl⟩ | ⟨bb, es, cl, _, _, _, hvs⟩
      · simp at hj
      · obtain ⟨u', _, k2⟩ := hvs.get? j u hj; exact ⟨u', k2⟩
    split at he
    · rename_i j l' hkey hp
      split at he
      · rename_i arr htold
        split at he
        · rename_i y0 u ha
          simp only [Option.some.injEq, Prod.mk.injEq] at he; obtain ⟨rfl, rfl, rfl⟩ := he
          obtain ⟨hget, hl'⟩ := hl.cons
          simp only [Ask.holds] at hget
          obtain ⟨u', hu'⟩ := some_rel hget
          exact run hkey (placeI_find hp hl') hu' (.inl ⟨j, rfl, rfl, ents hget⟩)
        · cases he
      · split at he
        · rename_i u hget
          simp only [Option.some.injEq, Prod.mk.injEq] at he; obtain ⟨rfl, rfl, rfl⟩ := he
          obtain ⟨u', hu'⟩ := some_rel hget
          exact run hkey (placeI_find hp hl) hu' (.inl ⟨j, rfl, rfl, ents hget⟩)
        · cases he
    · rename_i l' hkey hp
      split at he
      · rename_i z hz
        split at he
        · rename_i hfz
          simp only [Option.some.injEq, Prod.mk.injEq] at he; obtain ⟨rfl, rfl, rfl⟩ := he
          refine run hkey (placeI_find hp hl) (flat_rel hfz σ) (.inr ⟨rfl, rfl, fun w => ?_⟩)
          cases hi : P.info? et with
          | none => simp [hi] at hz
          | some ti => simp only [hi, Option.bind_some] at hz; simp [zeroValue, typeInfo, hi, hz]
        · cases he
      · cases he
    · cases he
  · cases he

/-- A map of the ideal heap is exchanged. -/
theorem HRel.put_map (H : HRel P B w0 σ h w) {i b : Nat} {ks vs ks2 vs2 : List Value} {es es2 : Array MapEntry} {cl cl2 : Nat} (hg : h.get i = some (.map ks vs)) (hi : σ i = some ⟨b, 0, .exact⟩) (hB : B ≤ b) (ho : σ.f.off b)
    (h1 : LRel σ ks2 (es2.toList.map (·.key))) (h2 : LRel σ vs2 (es2.toList.map (·.val))) (hf : ks2.all flat = true) : HRel P B w0 σ (h.set i (.map ks2 vs2)) (putBlock w b (.map es2 cl2)) :=
  H.put (x := ⟨b, 0, .exact⟩) hg rfl rfl hi hB ⟨b, es2, cl2, hi, hB, (putBlock_get b (H.codom _ _ hi)).trans (if_pos rfl), h1, h2, ho, hf⟩

theorem run_setObj {w : World} {b : Nat} {es : Array MapEntry} {cl : Nat} {o' : Obj} (h : w.heap[b]? = some (.map es cl)) : (setObj b o').run P w = .ok () (putBlock w b o') := by
  simp [setObj, Sem.run, h, putBlock]

theorem update_sound (H : HRel P B w0 σ h w) {t kt et : TypeId} {m' k k' u u' : Value} {i : Nat} {ks vs : List Value} {r : Option Nat} (hu : P.underlying t = some (.map kt et)) (hm : VRel σ (.map (some i)) m') (hg : h.get i = some (.map ks vs)) (hkey : keyOK P kt k = true)
    (hk : VRel σ k k') (hv : VRel σ u u') (hf : findI P kt k ks 0 = some r) (hj : ∀ j, r = some j → ks[j]? = some k) :
    ∃ w', (Instr.mapUpdate t m' k' u').run P w = .ok () w' ∧ HRel P B w0 σ (h.set i (match r with | some j => .map ks (vs.set j u) | none => .map (ks ++ [k]) (vs ++ [u]))) w' := by
  obtain ⟨⟨d, hd⟩, f1, f2, f3⟩ := keyOK_spec hkey
  obtain rfl : k' = k := flat_eq f1 hk
  cases hm with
  | mptr hi =>
  rename_i b o kk
  obtain ⟨b2, es, cl, k1, k2, k3, k4, k5, k6, k7⟩ := H.blk _ _ hg
  rw [hi] at k1; simp only [Option.some.injEq, Spot.mk.injEq] at k1; obtain ⟨rfl, rfl, rfl⟩ := k1
  have hks : es.toList.map (·.key) = ks := flats_eq k4 k7
  obtain ⟨q, q1, q2⟩ := findKey_run hd w (hks.symm ▸ hf)
  have hgo : (getObj b).run P w = .ok (.map es cl) w := by simp [getObj, Sem.run, k3]
  cases r with
  | none =>
    obtain rfl := q2.1 rfl
    refine ⟨putBlock w b (.map (es.push { key := k', val := u', born := cl }) (cl + 1)), ?_, H.put_map hg hi k2 k6 (es := es) (cl := cl) ?_ ?_ ?_⟩
    · simp [Instr.mapUpdate, run_underlying hu, hgo, f3, q1, run_setObj k3]
    · simp only [Array.toList_push, List.map_append, List.map_cons, List.map_nil]
      exact k4.append (.cons hk .nil)
    · simp only [Array.toList_push, List.map_append, List.map_cons, List.map_nil]
      exact k5.append (.cons hv .nil)
    · simp [k7, f1]
  | some j =>
    obtain ⟨_, e, h2, rfl⟩ := q2.2 j rfl
    rw [Nat.sub_zero] at h2
    have hkj := hj j rfl
    have hek : e.key = k' := by
      rw [← hks, List.getElem?_map, h2] at hkj
      simpa using hkj
    have hjlt : j < es.size := by have := (List.getElem?_eq_some_iff.1 h2).1; simpa using this
    have hej : es[j]? = some e := by rw [← Array.getElem?_toList]; exact h2
    have stays : (Instr.keyThatStays k' k').run P w = .ok k' w := by
      unfold Instr.keyThatStays
      rw [if_pos (sameBits_refl 6 10000 k' (by omega) f2)]; rfl
    have hmod : ∀ (g : MapEntry → MapEntry), (es.modify j g).toList = es.toList.set j (g e) := fun g => by
      apply List.ext_getElem?
      intro n
      rw [Array.getElem?_toList, Array.getElem?_modify, List.getElem?_set]
      by_cases hn : j = n
      · subst hn; rw [if_pos rfl, if_pos rfl, hej, if_pos (by simpa using hjlt)]; rfl
      · simp [hn]
    refine ⟨putBlock w b (.map (es.modify j fun e => { e with key := k', val := u' }) cl), ?_, H.put_map hg hi k2 k6 (es := es) (cl := cl) ?_ ?_ k7⟩
    · simp [Instr.mapUpdate, run_underlying hu, hgo, f3, q1, hej, hek, stays, run_setObj k3]
    · rw [hmod, List.map_set]
      have : (es.toList.map (·.key)).set j k' = es.toList.map (·.key) := by
        apply List.ext_getElem?
        intro n
        rw [List.getElem?_set]
        split
        · rename_i e2; subst e2
          rw [List.getElem?_map, h2]; simp [hek, hjlt]
        · rfl
      rw [this]; exact k4
    · rw [hmod, List.map_set]
      exact k5.set hv j

theorem delete_sound (H : HRel P B w0 σ h w) {argTypes : Array TypeId} {t kt et ty : TypeId} {m' k k' : Value} {i : Nat} {ks vs : List Value} {r : Option Nat} (h0 : argTypes[0]? = some t) (hu : P.underlying t = some (.map kt et)) (hm : VRel σ (.map (some i)) m') (hg : h.get i = some (.map ks vs)) (hkey : keyOK P kt k = true)
    (hk : VRel σ k k') (hf : findI P kt k ks 0 = some r) :
    ∃ w', (Builtin.delete_ argTypes ty #[m', k']).run P w = .ok (.tuple #[]) w' ∧ HRel P B w0 σ (match r with | some j => h.set i (.map (ks.eraseIdx j) (vs.eraseIdx j)) | none => h) w' := by
  obtain ⟨⟨d, hd⟩, f1, f2, f3⟩ := keyOK_spec hkey
  obtain rfl : k' = k := flat_eq f1 hk
  cases hm with
  | mptr hi =>
  rename_i b o kk
  obtain ⟨b2, es, cl, k1, k2, k3, k4, k5, k6, k7⟩ := H.blk _ _ hg
  rw [hi] at k1; simp only [Option.some.injEq, Spot.mk.injEq] at k1; obtain ⟨rfl, rfl, rfl⟩ := k1
  have hks : es.toList.map (·.key) = ks := flats_eq k4 k7
  obtain ⟨q, q1, q2⟩ := findKey_run hd w (hks.symm ▸ hf)
  have hgo : (getObj b).run P w = .ok (.map es cl) w := by simp [getObj, Sem.run, k3]
  cases r with
  | none =>
    obtain rfl := q2.1 rfl
    refine ⟨putBlock w b (.map es cl), ?_, ?_⟩
    · simp [Builtin.delete_, h0, run_underlying hu, hgo, f3, q1, run_setObj k3]
    · rw [putBlock_self k3]; exact H
  | some j =>
    obtain ⟨_, e, h2, rfl⟩ := q2.2 j rfl
    rw [Nat.sub_zero] at h2
    have hjlt : j < es.size := by have := (List.getElem?_eq_some_iff.1 h2).1; simpa using this
    have her : (es.eraseIdxIfInBounds j).toList = es.toList.eraseIdx j := by
      unfold Array.eraseIdxIfInBounds
      rw [dif_pos hjlt]; simp
    have lr : ∀ {l l' : List Value}, LRel σ l l' → LRel σ (l.eraseIdx j) (l'.eraseIdx j) := fun {l l'} hr => by
      rw [List.eraseIdx_eq_take_drop_succ, List.eraseIdx_eq_take_drop_succ]
      exact (hr.take _).append (hr.drop _)
    have hme : ∀ (g : MapEntry → Value), (es.toList.eraseIdx j).map g = (es.toList.map g).eraseIdx j := fun g => by
      rw [List.eraseIdx_eq_take_drop_succ, List.eraseIdx_eq_take_drop_succ, List.map_append, List.map_take, List.map_drop]
    refine ⟨putBlock w b (.map (es.eraseIdxIfInBounds j) cl), ?_, H.put_map hg hi k2 k6 (es := es) (cl := cl) ?_ ?_ ?_⟩
    · simp [Builtin.delete_, h0, run_underlying hu, hgo, f3, q1, run_setObj k3]
    · rw [her, hme]; exact lr k4
    · rw [her, hme]; exact lr k5
    · rw [List.all_eq_true] at k7 ⊢
      exact fun x hx => k7 x (List.mem_of_mem_eraseIdx hx)

theorem opH_sound (H : HRel P B w0 σ h w) (hts : LRel σ ts a.tmps.toList) {o : Oper} (hok : operOK P o = true) (he : opH P o ts h told = some (v, h', l)) (hl : Holds P l) : OpRes P B w0 σ (execOp a.eval o) w v h' := by
  obtain ⟨dst, op, ty, pos, after, guard⟩ := o
  simp only [operOK] at hok
  have upd : ∀ {t : TypeId} {m k x : Operand} {e : Sem Next}, operandOK P m = true → operandOK P k = true → operandOK P x = true → e = (do Instr.mapUpdate t (a.eval m) (a.eval k) (a.eval x); pure .skip) →
      (match P.underlying t, evI ts m with
        | some (.map kt _), .map (some i) => match h.get i, keyOK P kt (evI ts k) with
          | some (.map ks vs), true => match placeI P kt (evI ts k) ks told with
            | some (some j, l) => some (Go.undef, h.set i (.map ks (vs.set j (evI ts x))), Ask.get ks j (evI ts k) :: l)
            | some (none, l) => some (Go.undef, h.set i (.map (ks ++ [evI ts k]) (vs ++ [evI ts x])), l)
            | none => none
          | _, _ => none
        | _, _ => none) = some (v, h', l) → OpRes P B w0 σ e w v h' := fun {t m k x e} hm hk hx hee he => by
    have km := ev_sound H hts hm
    have kk := ev_sound H hts hk
    have kx := ev_sound H hts hx
    split at he
    · rename_i kt et i hu em
      rw [em] at km
      split at he
      · rename_i ks vs hg hkey
        split at he
        · rename_i j l' hp
          simp only [Option.some.injEq, Prod.mk.injEq] at he; obtain ⟨rfl, rfl, rfl⟩ := he
          obtain ⟨q0, q1⟩ := hl.cons
          obtain ⟨w', k1, k2⟩ := update_sound H hu km hg hkey kk kx (placeI_find hp q1) (fun j' e => by cases e; exact q0)
          exact ⟨σ, w', .skip, _, Sg.le_refl σ, by rw [hee]; simp [k1], .inr ⟨rfl, rfl⟩, VRel.undef σ, k2⟩
        · rename_i l' hp
          simp only [Option.some.injEq, Prod.mk.injEq] at he; obtain ⟨rfl, rfl, rfl⟩ := he
          obtain ⟨w', k1, k2⟩ := update_sound H hu km hg hkey kk kx (placeI_find hp hl) (fun j' e => by cases e)
          exact ⟨σ, w', .skip, _, Sg.le_refl σ, by rw [hee]; simp [k1], .inr ⟨rfl, rfl⟩, VRel.undef σ, k2⟩
        · cases he
      · cases he
    · cases he
  cases op <;> simp only [Op.operands] at hok
  case lookup t x k ok => simp only [List.all_cons, List.all_nil, Bool.and_true, Bool.and_eq_true] at hok; exact lookup_sound H hts hok.1 hok.2 he hl
  case mapUpdate t m k x => simp only [List.all_cons, List.all_nil, Bool.and_true, Bool.and_eq_true] at hok; exact upd hok.1 hok.2.1 hok.2.2 rfl he
  case insert t m k x => simp only [List.all_cons, List.all_nil, Bool.and_true, Bool.and_eq_true] at hok; exact upd hok.1 hok.2.1 hok.2.2 rfl he
  case makeMap t r =>
    simp only [opH] at he
    cases r with
    | some x => cases he
    | none =>
      simp only [Option.some.injEq, Prod.mk.injEq] at he; obtain ⟨rfl, rfl, rfl⟩ := he
      have hB : BRel P B (σ.put h.next ⟨w.heap.size, 0, .exact⟩) (w.alloc (.map #[] 0)) h.next (.map [] []) :=
        ⟨w.heap.size, #[], 0, Sg.put_self _ _ _, H.size, by show (w.heap.push _)[w.heap.size]? = _; simp, .nil, .nil, H.frz.off (Nat.le_refl _), rfl⟩
      obtain ⟨k1, k2⟩ := H.push hB
      refine ⟨_, _, _, .map (some w.heap.size), k2, op_map rfl ?_, .inl rfl, .mptr (Sg.put_self _ _ _), k1⟩
      simp [Instr.makeMap, newObj, Sem.run]
  case call c =>
    obtain ⟨callee, args, argTypes⟩ := c
    cases callee with
    | value f => simp [opH] at he
    | invoke r m => simp [opH] at he
    | builtin b =>
      have hargs : args.toList.all (operandOK P) = true := by simpa [Call.operands] using hok
      have hr := args_rel H hts hargs
      rw [call_builtin]
      cases b <;> simp only [opH] at he <;> try (cases he; done)
      case append =>
        split at he
        · rename_i s x st xt ea h0 h1
          obtain ⟨s', x', eargs, hs, hx⟩ := two_args ea hr
          rw [eargs]
          split at he
          · rename_i elem xe tok es n cs hus hux hos
            split at he
            · rename_i m t ti zs hg hti hzs
              split at he
              · cases he
              · rename_i hc
                simp only [Bool.and_eq_true, Nat.beq_eq, Nat.ble_eq] at hc
                obtain ⟨⟨⟨rfl, rfl⟩, hpos⟩, hte⟩ := hc
                obtain ⟨i, zv, hi, hz, hzz⟩ := zsize_info hzs
                rw [hti] at hi; simp only [Option.some.injEq] at hi; subst hi
                have hsform : s = osl tok ti.size n cs ∧ ∃ nn : Nat, n = nn := by
                  unfold asOs at hos
                  split at hos
                  · rename_i tt arr
                    split at hos
                    · rename_i k1 tok1 k2 es1 k3 n1 cs1 harr
                      simp only [Option.some.injEq, Prod.mk.injEq] at hos; obtain ⟨e1, e2, rfl, rfl⟩ := hos
                      obtain rfl : arr = #[.int k1 tok1, .int k2 es1, .int k3 n1, .agg cs1] := Array.toList_inj.1 harr
                      cases hs with
                      | iface _ ht _ => simp [isV] at ht
                      | frz _ ht hf => cases hf with | iface _ ht _ => simp [isV] at ht
                      | osnil => simp only [Int.toNat_natCast] at e1 e2; subst e1; subst e2; exact ⟨rfl, 0, rfl⟩
                      | osome => simp only [Int.toNat_natCast] at e1 e2; subst e1; subst e2; exact ⟨rfl, _, rfl⟩
                    · cases hos
                  · cases hos
                obtain ⟨rfl, nn, rfl⟩ := hsform
                have fin : ∀ {k : Nat} {new new' : List Value} {ncs : List Value}, ncs = new → (∀ w, (Builtin.lenOf x').run P w = .ok k w) → ((nn + k : Nat) * (ti.bytes + 1) ≤ 1099511627776) → cs.size = m →
                    (∀ d, (Builtin.firstCells ti.size k x').run P { w with drawn := d } = .ok new'.toArray { w with drawn := d }) → (∀ j : Nat, FRel σ.f (new.getD j undef) (new'.getD j undef)) → new.length = k * ti.size → new'.length = k * ti.size → new'.all Go.Ideal.oneCell = true →
                    OpRes P B w0 σ (builtin .append argTypes ty (args.map fun | .const _ => true | _ => false) #[s', x']) w (osl tok ti.size ((nn : Int) + (k : Int)) ⟨cs.toList ++ ncs⟩) (h.set tok (.own (m + new.length) t)) := fun {k new new' ncs} hncs g1 g2 g3 g4 g5 g6 g7 g8 => by
                  obtain ⟨σ', w', v', k1, k2, k3, k4⟩ := own_append (ty := ty) H h0 h1 hus (.inl ⟨_, hux⟩) hti hz hzz hpos hte hg hs g3 g1 g2 g4 g5 g6 g7 g8
                  subst hncs
                  have e : cs ++ ncs.toArray = ⟨cs.toList ++ ncs⟩ := Array.toList_inj.1 (by simp)
                  rw [e] at k3
                  exact ⟨σ', w', _, v', k1, by simp [builtin, k2], .inl rfl, by rw [← Int.natCast_add]; exact k3, k4⟩
                split at he
                · rename_i k xs hxs
                  simp only [Option.some.injEq, Prod.mk.injEq] at he; obtain ⟨rfl, rfl, rfl⟩ := he
                  obtain ⟨q0, q1⟩ := hl.cons
                  obtain ⟨q1, q2⟩ := q1.cons
                  obtain ⟨q2, q3⟩ := q2.cons
                  have q3 := q3.cons.1
                  simp only [Ask.holds, Array.length_toList] at q0 q1 q2 q3
                  obtain ⟨kn, rfl, hsl⟩ := asSl_rel hxs hx
                  simp only [Int.toNat_natCast] at q1
                  have hbig : (nn + kn) * (ti.bytes + 1) ≤ 1099511627776 := by
                    have : (((nn + kn) * (ti.bytes + 1) : Nat) : Int) ≤ 1099511627776 := by simpa using q2
                    omega
                  rcases hsl with ⟨a', c', rfl, rfl, rfl⟩ | ⟨b, o, c', rfl, hcc, hst⟩
                  · exact fin (k := 0) (new := []) (new' := []) rfl (fun w => by simp [Builtin.lenOf]) (by simpa using hbig) q0 (fun d => by cases a' <;> simp [Builtin.firstCells, loadCells, loadCellsFrom]) (fun j => by simpa using FRel.undef σ.f) (by simp) (by simp) rfl
                  · obtain ⟨ms, k1, k2, k3⟩ := hst.load (P := P) 0 (kn * ti.size) (by omega)
                    have k3 : ∀ j : Nat, FRel σ.f (xs.toList.getD j undef) (ms.getD j undef) := fun j => by
                      have := k3 j
                      rw [List.drop_zero, List.take_of_length_le (by simp; omega)] at this
                      exact this
                    refine fin (k := kn) (new := xs.toList) (new' := ms) rfl (fun w => by simp [Builtin.lenOf]) hbig q0 (fun d => by simpa [Builtin.firstCells] using k1 { w with drawn := d } ⟨H.frz.c, H.frz.m⟩) k3 (by simpa using q1) k2 ?_
                    refine List.all_eq_true.2 fun u hu => ?_
                    obtain ⟨j, hj, rfl⟩ := List.getElem_of_mem hu
                    have hj2 : j < xs.toList.length := by simp; omega
                    have := k3 j
                    simp only [List.getD, List.getElem?_eq_getElem hj, List.getElem?_eq_getElem hj2, Option.getD_some] at this
                    rw [this.oneCell]
                    exact List.all_eq_true.1 q3 _ (List.getElem_mem hj2)
                · split at he
                  · rename_i k hlk
                    split at he
                    · rename_i new hfi
                      split at he
                      · rename_i hc
                        simp only [Bool.and_eq_true, Nat.beq_eq] at hc
                        obtain ⟨⟨c1, c2⟩, c3⟩ := hc
                        simp only [Option.some.injEq, Prod.mk.injEq] at he; obtain ⟨rfl, rfl, rfl⟩ := he
                        obtain ⟨q0, q1⟩ := hl.cons
                        have q1 := q1.cons.1
                        simp only [Ask.holds, Array.length_toList] at q0 q1
                        have hbig : (nn + k) * (ti.bytes + 1) ≤ 1099511627776 := by
                          have : (((nn + k) * (ti.bytes + 1) : Nat) : Int) ≤ 1099511627776 := by simpa using q1
                          omega
                        obtain ⟨new', n3, n2, _⟩ := first_sound_d H hfi hlk (Nat.le_refl k) hx
                        exact fin rfl (len_run hlk hx) hbig q0 n3 (fun j => by
                          have hrel := n2.getD j
                          rcases Nat.lt_or_ge j new.length with hj | hj
                          · refine clo_frel 6 ?_ hrel
                            have := List.all_eq_true.1 c2 new[j] (List.getElem_mem hj)
                            simpa [List.getD, List.getElem?_eq_getElem hj, clo] using this
                          · have hl2 := n2.len
                            simp only [List.getD, List.getElem?_eq_none hj, List.getElem?_eq_none (show new'.length ≤ j by omega)]
                            exact FRel.undef σ.f) c1 (by rw [← n2.len]; exact c1) (n2.ones c3)
                      · cases he
                    · cases he
                  · cases he
            · cases he
          · cases he
        · cases he
      case len =>
        split at he
        · rename_i i t ea h0
          obtain ⟨x', eargs, hx⟩ := one_arg ea hr
          rw [eargs]
          split at he
          · rename_i kt et ks vs hu hg
            simp only [Option.some.injEq, Prod.mk.injEq] at he; obtain ⟨rfl, rfl, rfl⟩ := he
            refine .same (v' := .int .i64 ks.length) H ?_ (.int _ _)
            have hm : mapI h (.map (some i)) = some (ks, vs) := by simp only [mapI, hg]
            have hln : (Builtin.len_ argTypes ty #[x']).run P w = .ok (.int .i64 ks.length) w := by
              rcases (mapI_rel H hm hx).2 with ⟨rfl, rfl, rfl⟩ | ⟨b, es, cl, rfl, hb, hks, _⟩
              · simp [Builtin.len_, h0, run_underlying hu, goInt]
              · have : ks.length = es.size := by rw [← hks]; simp
                simp [Builtin.len_, h0, run_underlying hu, goInt, getObj, Sem.run, hb, this]
            simp [builtin, hln]
          · cases he
        · cases he
      case delete =>
        split at he
        · rename_i m k t ea h0
          obtain ⟨m', k', eargs, hm, hk⟩ := two_args ea hr
          rw [eargs]
          split at he
          · rename_i kt et i hu
            split at he
            · rename_i ks vs hg hkey
              split at he
              · rename_i j l' hp
                simp only [Option.some.injEq, Prod.mk.injEq] at he; obtain ⟨rfl, rfl, rfl⟩ := he
                obtain ⟨w', k1, k2⟩ := delete_sound (ty := ty) H h0 hu hm hg hkey hk (placeI_find hp hl)
                exact ⟨σ, w', _, _, Sg.le_refl σ, by simp [builtin, k1]; rfl, .inl rfl, VRel.undef σ, k2⟩
              · rename_i l' hp
                simp only [Option.some.injEq, Prod.mk.injEq] at he; obtain ⟨rfl, rfl, rfl⟩ := he
                obtain ⟨w', k1, k2⟩ := delete_sound (ty := ty) H h0 hu hm hg hkey hk (placeI_find hp hl)
                exact ⟨σ, w', _, _, Sg.le_refl σ, by simp [builtin, k1]; rfl, .inl rfl, VRel.undef σ, k2⟩
              · cases he
            · cases he
          · cases he
        · cases he
  all_goals (simp [opH] at he)

theorem op_sound (H : HRel P B w0 σ h w) (hts : LRel σ ts a.tmps.toList) {o : Oper} (hok : operOK P o = true) (he : opI P o ts h = some (v, h')) : OpRes P B w0 σ (execOp a.eval o) w v h' := by
  have tests : ∀ {l : List Ask}, l.all Ask.test = true → Holds P l := fun {l} ht a ha => Ask.test_holds (List.all_eq_true.1 ht a ha)
  unfold opI at he
  split at he
  · rename_i r hr
    simp only [Option.some.injEq] at he; subst he
    exact opB_sound H hts hok hr
  · split at he
    · rename_i v1 l1 hv
      split at he
      · rename_i ht
        simp only [Option.some.injEq, Prod.mk.injEq] at he; obtain ⟨rfl, rfl⟩ := he
        exact opV_sound H hts hok hv (tests ht)
      · cases he
    · split at he
      · rename_i v1 h1 l1 hv
        split at he
        · rename_i ht
          simp only [Option.some.injEq, Prod.mk.injEq] at he; obtain ⟨rfl, rfl⟩ := he
          exact opH_sound H hts hok hv (tests ht)
        · cases he
      · split at he
        · rename_i v1 h1 l1 hv
          split at he
          · rename_i ht
            simp only [Option.some.injEq, Prod.mk.injEq] at he; obtain ⟨rfl, rfl⟩ := he
            exact opP_sound H hts hok hv (tests ht)
          · cases he
        · cases he

end
end Go.Ideal

end
