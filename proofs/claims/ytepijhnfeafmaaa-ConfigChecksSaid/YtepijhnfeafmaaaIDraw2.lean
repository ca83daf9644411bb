/- A region that draws its order: the proof that any order does. Over any program. -/
import Derived.Test.YtepijhnfeafmaaaIDraw
set_option linter.unusedVariables false
set_option linter.unusedSimpArgs false
namespace Go.Ideal
open Go.RowKit

variable {P : Program} {B : Nat} {w0 : Org} {pf : FuncId → Bool}

/-! ### the trace -/
def tsAt (ents : List Ent) (tf : List Value) (m : Nat) : List Value := match ents[m]? with
  | some e => e.ts
  | none => tf

def valAt (ents : List Ent) (m : Nat) : Value := match ents[m]? with
  | some e => e.val
  | none => Go.undef

structure Step (P : Program) (call : Nat → CallI) (all : List Oper) (ents : List Ent) (tf : List Value) (hf : Heap) (i : Nat) (o : Oper) (e : Ent) : Prop where
  at_ : ents[i]? = some e
  h : e.h = heapAt ents hf i
  ts : e.ts = tsAt ents tf i
  wanted : e.wanted = wantedI o all e.ts
  yes : e.wanted = true → operI P (call i) o e.ts e.h = some (e.val, heapAt ents hf (i + 1))
  no : e.wanted = false → e.val = Go.undef ∧ heapAt ents hf (i + 1) = e.h
  next : tsAt ents tf (i + 1) = putI e.ts o.dst e.val

theorem heapAt_cons (e : Ent) (es : List Ent) (hf : Heap) (i : Nat) : heapAt (e :: es) hf (i + 1) = heapAt es hf i := rfl
theorem tsAt_cons (e : Ent) (es : List Ent) (tf : List Value) (i : Nat) : tsAt (e :: es) tf (i + 1) = tsAt es tf i := rfl

theorem trace_facts {call : Nat → CallI} {all : List Oper} : ∀ {l : List Oper} {ts tf : List Value} {h hf : Heap} {ents : List Ent}, opsT P call all l ts h = some (ents, tf, hf) →
    ents.length = l.length ∧ heapAt ents hf 0 = h ∧ tsAt ents tf 0 = ts ∧ ∀ (i : Nat) (o : Oper), l[i]? = some o → ∃ e, Step P call all ents tf hf i o e
  | [], ts, tf, h, hf, ents, ht => by
    simp only [opsT, Option.some.injEq, Prod.mk.injEq] at ht; obtain ⟨rfl, rfl, rfl⟩ := ht
    exact ⟨rfl, rfl, rfl, fun i o hi => by simp at hi⟩
  | o :: l, ts, tf, h, hf, ents, ht => by
    have glue : ∀ {e : Ent} {es : List Ent} {h1 : Heap}, opsT P (fun n => call (n + 1)) all l (putI ts o.dst e.val) h1 = some (es, tf, hf) → e.h = h → e.ts = ts → e.wanted = wantedI o all ts →
        (e.wanted = true → operI P (call 0) o ts h = some (e.val, h1)) → (e.wanted = false → e.val = Go.undef ∧ h1 = h) →
        (e :: es).length = (o :: l).length ∧ heapAt (e :: es) hf 0 = h ∧ tsAt (e :: es) tf 0 = ts ∧ ∀ (i : Nat) (o' : Oper), (o :: l)[i]? = some o' → ∃ e', Step P call all (e :: es) tf hf i o' e' := fun {e es h1} hr eh ets ew ey en => by
      obtain ⟨k1, k2, k3, k4⟩ := trace_facts hr
      refine ⟨by simp [k1], eh, ets, fun i o' hi => ?_⟩
      cases i with
      | zero =>
        simp only [List.getElem?_cons_zero, Option.some.injEq] at hi; subst hi
        refine ⟨e, rfl, rfl, rfl, by rw [ets]; exact ew, fun hw => ?_, fun hw => ?_, ?_⟩
        · rw [heapAt_cons, k2, ets, eh]; exact ey hw
        · rw [heapAt_cons, k2, eh]; exact en hw
        · rw [tsAt_cons, k3, ets]
      | succ i =>
        obtain ⟨e', q⟩ := k4 i o' (by simpa using hi)
        exact ⟨e', q.at_, q.h, q.ts, q.wanted, q.yes, q.no, q.next⟩
    simp only [opsT] at ht
    split at ht
    · rename_i hw
      split at ht
      · rename_i v h1 ho
        split at ht
        · rename_i es r hr
          simp only [Option.some.injEq, Prod.mk.injEq] at ht; obtain ⟨rfl, rfl⟩ := ht
          exact glue (e := ⟨true, v, ts, h⟩) hr rfl rfl hw.symm (fun _ => ho) (fun h => by cases h)
        · cases ht
      · cases ht
    · rename_i hw
      split at ht
      · rename_i es r hr
        simp only [Option.some.injEq, Prod.mk.injEq] at ht; obtain ⟨rfl, rfl⟩ := ht
        exact glue (e := ⟨false, Go.undef, ts, h⟩) hr rfl rfl (by cases hq : wantedI o all ts with | true => exact absurd hq hw | false => rfl) (fun h => by cases h) (fun _ => ⟨rfl, rfl⟩)
      · cases ht

/-! ### what must come ahead -/
theorem preOf_spec (acc : List Nat) (j : Nat) : ∀ (es : List Edge) (s : Nat), (preOf acc es s).testBit j = true → s.testBit j = true ∨ ∃ e ∈ es, Region.binds .any e = true ∧ (e.on = j ∨ (acc.getD e.on 0).testBit j = true)
  | [], s, h => .inl h
  | e :: es, s, h => by
    simp only [preOf] at h
    rcases preOf_spec acc j es _ h with h1 | ⟨e', h1, h2⟩
    · split at h1
      · rename_i hb
        simp only [Nat.testBit_or, Bool.or_eq_true, Nat.testBit_two_pow, decide_eq_true_eq] at h1
        rcases h1 with (h1 | h1) | h1
        · exact .inl h1
        · exact .inr ⟨e, by simp, hb, .inl h1⟩
        · exact .inr ⟨e, by simp, hb, .inr h1⟩
      · exact .inl h1
    · exact .inr ⟨e', by simp [h1], h2⟩

theorem pres_prefix : ∀ (l : List Oper) (acc : List Nat) (i : Nat), i < acc.length → (pres l acc).getD i 0 = acc.getD i 0
  | [], _, _, _ => rfl
  | o :: l, acc, i, h => by
    simp only [pres]
    rw [pres_prefix l _ i (by simp; omega)]
    simp [List.getElem?_append_left h]

theorem pres_bit : ∀ (l : List Oper) (acc : List Nat) (i : Nat) (o : Oper), l[i]? = some o → ∀ j, ((pres l acc).getD (acc.length + i) 0).testBit j = true →
    ∃ e ∈ o.after.toList, Region.binds .any e = true ∧ (e.on = j ∨ ((pres l acc).getD e.on 0).testBit j = true)
  | [], _, _, _, h, _, _ => by simp at h
  | o' :: l, acc, 0, o, h, j, hb => by
    simp only [List.getElem?_cons_zero, Option.some.injEq] at h; subst h
    simp only [pres, Nat.add_zero] at hb ⊢
    rw [pres_prefix l _ _ (by simp)] at hb
    have : (acc ++ [preOf acc o'.after.toList 0]).getD acc.length 0 = preOf acc o'.after.toList 0 := by simp
    rw [this] at hb
    rcases preOf_spec acc j _ _ hb with h1 | ⟨e, h1, h2, h3⟩
    · simp at h1
    · refine ⟨e, h1, h2, h3.imp id fun h3 => ?_⟩
      have hlt : e.on < acc.length := by
        rcases Nat.lt_or_ge e.on acc.length with hl | hl
        · exact hl
        · have : acc.getD e.on 0 = 0 := by simp [List.getD, List.getElem?_eq_none hl]
          rw [this] at h3; simp at h3
      rw [pres_prefix l _ _ (by simp; omega)]
      have : (acc ++ [preOf acc o'.after.toList 0]).getD e.on 0 = acc.getD e.on 0 := by simp [List.getElem?_append_left hlt]
      rw [this]; exact h3
  | o' :: l, acc, i + 1, o, h, j, hb => by
    simp only [pres] at hb ⊢
    refine pres_bit l (acc ++ [preOf acc o'.after.toList 0]) i o (by simpa using h) j ?_
    rw [← hb]; congr 2; simp; omega

/-! ### pairs -/
theorem row_spec {ops : Array Oper} {pre : List Nat} {i : Nat} {oi : Oper} : ∀ (l : List Oper) (k : Nat), rowOK P pf ops pre i oi k l = true → ∀ (j : Nat) (oj : Oper), l[j]? = some oj → pairOK P pf ops pre i (k + j) oi oj = true
  | [], _, _, j, oj, h => by simp at h
  | o :: l, k, hr, j, oj, h => by
    simp only [rowOK, Bool.and_eq_true] at hr
    cases j with
    | zero => simp only [List.getElem?_cons_zero, Option.some.injEq] at h; subst h; exact hr.1
    | succ j =>
      have := row_spec l (k + 1) hr.2 j oj (by simpa using h)
      rwa [show k + 1 + j = k + (j + 1) by omega] at this

theorem pairs_spec {ops : Array Oper} {pre : List Nat} : ∀ (l : List Oper) (k : Nat), pairsOK P pf ops pre k l = true →
    (∀ (i : Nat) (oi : Oper), l[i]? = some oi → edgesOK (k + i) oi = true) ∧ ∀ (i j : Nat) (oi oj : Oper), i < j → l[i]? = some oi → l[j]? = some oj → pairOK P pf ops pre (k + i) (k + j) oi oj = true
  | [], _, _ => ⟨fun i oi h => by simp at h, fun i j oi oj _ h => by simp at h⟩
  | o :: l, k, hp => by
    simp only [pairsOK, Bool.and_eq_true] at hp
    obtain ⟨⟨h0, h1⟩, h2⟩ := hp
    obtain ⟨q1, q2⟩ := pairs_spec l (k + 1) h2
    refine ⟨fun i oi hi => ?_, fun i j oi oj hij hi hj => ?_⟩
    · cases i with
      | zero => simp only [List.getElem?_cons_zero, Option.some.injEq] at hi; subst hi; exact h0
      | succ i => have := q1 i oi (by simpa using hi); rwa [show k + 1 + i = k + (i + 1) by omega] at this
    · cases j with
      | zero => omega
      | succ j =>
        cases i with
        | zero =>
          simp only [List.getElem?_cons_zero, Option.some.injEq] at hi; subst hi
          have := row_spec l (k + 1) h1 j oj (by simpa using hj)
          rwa [show k + 1 + j = k + (j + 1) by omega] at this
        | succ i =>
          have := q2 i j oi oj (by omega) (by simpa using hi) (by simpa using hj)
          rwa [show k + 1 + j = k + (j + 1) by omega, show k + 1 + i = k + (i + 1) by omega] at this

theorem louds_spec : ∀ (l : List Oper) (k x : Nat), x ∈ loudBits P pf l k → ∃ i o, x = k + i ∧ l[i]? = some o ∧ isLoud P pf o.op = true
  | [], _, _, h => by simp [loudBits] at h
  | o :: l, k, x, h => by
    simp only [loudBits] at h
    have rec_ : x ∈ loudBits P pf l (k + 1) → ∃ i o', x = k + i ∧ (o :: l)[i]? = some o' ∧ isLoud P pf o'.op = true := fun h => by
      obtain ⟨i, o', e, h1, h2⟩ := louds_spec l (k + 1) x h
      exact ⟨i + 1, o', by omega, by simpa using h1, h2⟩
    split at h
    · rename_i hl
      rcases List.mem_cons.1 h with rfl | h
      · exact ⟨0, o, rfl, rfl, hl⟩
      · exact rec_ h
    · exact rec_ h

theorem fixed_spec {pre louds : List Nat} {all : List Oper} : ∀ (l : List Oper) (k : Nat), readsFixed P pf pre louds all k l = true → ∀ (i : Nat) (o : Oper), l[i]? = some o → readsHeap o.op = true → isLoud P pf o.op = false →
    ∀ x ∈ louds, (pre.getD (k + i) 0).testBit x = true ∨ (pre.getD x 0).testBit (k + i) = true ∨ (isLoad o.op = true ∧ k + i < x ∧ allocAt all x = true)
  | [], _, _, i, o, h, _, _, _, _ => by simp at h
  | o' :: l, k, hr, i, o, h, h1, h2, x, hx => by
    simp only [readsFixed, Bool.and_eq_true] at hr
    cases i with
    | zero =>
      simp only [List.getElem?_cons_zero, Option.some.injEq] at h; subst h
      have := hr.1
      simp only [h1, h2, Bool.not_false, Bool.and_self, Bool.not_true, Bool.false_or] at this
      have := List.all_eq_true.1 this x hx
      simpa [or_assoc, and_assoc] using this
    | succ i =>
      have := fixed_spec l (k + 1) hr.2 i o (by simpa using h) h1 h2 x hx
      rwa [show k + 1 + i = k + (i + 1) by omega] at this

theorem louds_mem : ∀ (l : List Oper) (k i : Nat) (o : Oper), l[i]? = some o → isLoud P pf o.op = true → k + i ∈ loudBits P pf l k
  | [], _, i, o, h, _ => by simp at h
  | o' :: l, k, i, o, h, hl => by
    simp only [loudBits]
    cases i with
    | zero => simp only [List.getElem?_cons_zero, Option.some.injEq] at h; subst h; simp [hl]
    | succ i =>
      have := louds_mem l (k + 1) i o (by simpa using h) hl
      rw [show k + 1 + i = k + (i + 1) by omega] at this
      split
      · exact List.mem_cons_of_mem _ this
      · exact this

theorem louds_none : ∀ (l : List Oper) (k : Nat), loudBits P pf l k = [] → ∀ o ∈ l, isLoud P pf o.op = false
  | [], _, _, o, h => by cases h
  | o' :: l, k, hn, o, h => by
    simp only [loudBits] at hn
    split at hn
    · cases hn
    · rename_i hl
      rcases List.mem_cons.1 h with rfl | h
      · simpa using hl
      · exact louds_none l (k + 1) hn o h

theorem readOK_spec {pre louds : List Nat} {ents : List Ent} {hf : Heap} {i : Nat} {o : Oper} {e : Ent} : ∀ (k : Nat), readOK P pre louds ents hf i o e k = true → ∀ m, m < k → feasible pre louds i m = true →
    ∃ v h2, opI P o e.ts (heapAt ents hf m) = some (v, h2) ∧ v = e.val
  | 0, _, m, hm, _ => absurd hm (Nat.not_lt_zero _)
  | k + 1, hr, m, hm, hfe => by
    simp only [readOK, Bool.and_eq_true] at hr
    rcases Nat.lt_or_ge m k with h | h
    · exact readOK_spec k hr.2 m h hfe
    · obtain rfl : m = k := by omega
      have := hr.1
      rw [hfe] at this
      simp only [Bool.not_true, Bool.false_or] at this
      split at this
      · rename_i v h2 hv
        exact ⟨v, h2, hv, sameN_eq 4 _ _ this⟩
      · cases this

theorem reads_spec {pre louds : List Nat} {ents : List Ent} {hf : Heap} : ∀ (l : List Oper) (es : List Ent) (k : Nat), readsOK P pf pre louds ents hf k l es = true → ∀ (i : Nat) (o : Oper) (e : Ent), l[i]? = some o → es[i]? = some e →
    readsHeap o.op = true → isLoud P pf o.op = false → e.wanted = true → readOK P pre louds ents hf (k + i) o e (ents.length + 1) = true
  | [], _, _, _, i, o, e, h, _, _, _, _ => by simp at h
  | _ :: _, [], _, _, i, o, e, _, h, _, _, _ => by simp at h
  | o' :: l, e' :: es, k, hr, i, o, e, hi, he, h1, h2, h3 => by
    simp only [readsOK, Bool.and_eq_true] at hr
    cases i with
    | zero =>
      simp only [List.getElem?_cons_zero, Option.some.injEq] at hi he; subst hi; subst he
      have := hr.1
      simpa [h1, h2, h3] using this
    | succ i =>
      have := reads_spec l es (k + 1) hr.2 i o e (by simpa using hi) (by simpa using he) h1 h2 h3
      rwa [show k + 1 + i = k + (i + 1) by omega] at this

/-! ### the frame behind some of the operations -/
def curL (D : Nat → Bool) (val : Nat → Value) : List Oper → Nat → List Value → List Value
  | [], _, ts => ts
  | o :: r, k, ts => curL D val r (k + 1) (if D k then putI ts o.dst (val k) else ts)

theorem putI_length (ts : List Value) (dst : Option Tmp) (v : Value) : (putI ts dst v).length = ts.length := by cases dst <;> simp [putI]
theorem curL_length (D : Nat → Bool) (val : Nat → Value) : ∀ (l : List Oper) (k : Nat) (ts : List Value), (curL D val l k ts).length = ts.length
  | [], _, _ => rfl
  | o :: l, k, ts => by simp only [curL]; rw [curL_length D val l]; split <;> simp [putI_length]

theorem putI_ne {ts : List Value} {dst : Option Tmp} {v : Value} {t : Nat} (h : dst ≠ some t) : (putI ts dst v).getD t Go.undef = ts.getD t Go.undef := by
  cases dst with
  | none => rfl
  | some d =>
    have : d ≠ t := fun e => h (by rw [e])
    simp [putI, List.getD, List.getElem?_set_ne this]
theorem putI_eq {ts : List Value} {v : Value} {t : Nat} (h : t < ts.length) : (putI ts (some t) v).getD t Go.undef = v := by
  simp [putI, List.getD, List.getElem?_set_self h]

theorem getD_ge {ts : List Value} {t : Nat} (h : ts.length ≤ t) : ts.getD t Go.undef = Go.undef := by simp [List.getD, List.getElem?_eq_none h]

theorem curL_agree {D D2 : Nat → Bool} {val : Nat → Value} {t : Nat} : ∀ (l : List Oper) (k : Nat) (ts ts2 : List Value), ts.length = ts2.length → ts.getD t Go.undef = ts2.getD t Go.undef →
    (∀ (i : Nat) (o : Oper), l[i]? = some o → o.dst = some t → D (k + i) = D2 (k + i)) → (curL D val l k ts).getD t Go.undef = (curL D2 val l k ts2).getD t Go.undef
  | [], _, _, _, _, h, _ => h
  | o :: l, k, ts, ts2, hl, h, hd => by
    simp only [curL]
    refine curL_agree l (k + 1) _ _ ?_ ?_ fun i o' hi hdst => ?_
    · split <;> split <;> simp [putI_length, hl]
    · by_cases e : o.dst = some t
      · have := hd 0 o rfl e
        simp only [Nat.add_zero] at this
        rw [this]
        split
        · rw [e]
          rcases Nat.lt_or_ge t ts.length with hlt | hge
          · rw [putI_eq hlt, putI_eq (by omega)]
          · rw [getD_ge (by rw [putI_length]; omega), getD_ge (by rw [putI_length]; omega)]
        · exact h
      · split <;> split <;> (try simp only [putI_ne e]) <;> exact h
    · have := hd (i + 1) o' (by simpa using hi) hdst
      rwa [show k + (i + 1) = k + 1 + i by omega] at this

theorem curL_none {val : Nat → Value} : ∀ (l : List Oper) (k : Nat) (ts : List Value), curL (fun _ => false) val l k ts = ts
  | [], _, _ => rfl
  | o :: l, k, ts => by simp only [curL, Bool.false_eq_true, if_false]; exact curL_none l _ _

theorem curL_last {D : Nat → Bool} {val : Nat → Value} {t : Nat} : ∀ (l : List Oper) (k : Nat) (ts : List Value) (i : Nat) (o : Oper), l[i]? = some o → o.dst = some t → D (k + i) = true → t < ts.length →
    (∀ (j : Nat) (oj : Oper), i < j → l[j]? = some oj → oj.dst = some t → D (k + j) = false) → (curL D val l k ts).getD t Go.undef = val (k + i)
  | [], _, _, _, _, h, _, _, _, _ => by simp at h
  | o' :: l, k, ts, 0, o, h, hd, hD, hlt, hno => by
    simp only [List.getElem?_cons_zero, Option.some.injEq] at h; subst h
    simp only [Nat.add_zero] at hD ⊢
    simp only [curL, hD, if_true]
    rw [curL_agree (D2 := fun _ => false) l (k + 1) _ (putI ts o'.dst (val k)) rfl rfl fun i oi hi hdi => ?_, curL_none, hd, putI_eq hlt]
    have := hno (i + 1) oi (by omega) (by simpa using hi) hdi
    rwa [show k + (i + 1) = k + 1 + i by omega] at this
  | o' :: l, k, ts, i + 1, o, h, hd, hD, hlt, hno => by
    simp only [curL]
    have := curL_last (D := D) (val := val) l (k + 1) (if D k then putI ts o'.dst (val k) else ts) i o (by simpa using h) hd (by rwa [show k + 1 + i = k + (i + 1) by omega]) (by split <;> simp [putI_length, hlt]) fun j oj hj hoj hdj => ?_
    · rwa [show k + 1 + i = k + (i + 1) by omega] at this
    · have := hno (j + 1) oj (by omega) (by simpa using hoj) hdj
      rwa [show k + (j + 1) = k + 1 + j by omega] at this

theorem operI_congr (P : Program) (call : CallI) {o : Oper} {ts ts2 : List Value} (h : Heap) (hx : ∀ x ∈ o.op.operands, evI ts x = evI ts2 x) : operI P call o ts h = operI P call o ts2 h := by
  unfold operI
  split
  · rename_i c hop
    split
    · exact opI_congr P h hx
    · have hargs : c.args.toList.map (evI ts) = c.args.toList.map (evI ts2) := list_congr fun y hy => hx y (by rw [hop]; simp only [Op.operands, Call.operands]; exact Array.mem_append.2 (.inr (by simpa using hy)))
      have hcal : calleeI ts c = calleeI ts2 c := by
        unfold calleeI
        split
        · rw [hargs]
        · rename_i x _ hc
          have : evI ts x = evI ts2 x := hx x (by rw [hop]; simp [Op.operands, Call.operands, hc])
          rw [hargs, this]
        · rfl
      rw [hcal]
  · exact opI_congr P h hx

theorem wantedI_congr {o : Oper} {ops : Array Oper} {ts ts2 : List Value} (hl : ts.length = ts2.length) (hx : ∀ t ∈ o.looksAt ops, ts.getD t Go.undef = ts2.getD t Go.undef) : wantedI o ops.toList ts = wantedI o ops.toList ts2 := by
  unfold wantedI
  cases hg : o.guard with
  | none => rfl
  | some gw =>
    obtain ⟨j, want⟩ := gw
    have : yieldedI ops.toList ts j = yieldedI ops.toList ts2 j := by
      unfold yieldedI
      rw [Array.getElem?_toList]
      cases hd : (ops[j]?).bind (·.dst) with
      | none => rfl
      | some t =>
        have := hx t (by simp [Oper.looksAt, hg, hd])
        simp only [List.getD] at this
        have ht : ts[t]? = ts2[t]? := by
          rcases Nat.lt_or_ge t ts.length with hlt | hge
          · rw [List.getElem?_eq_getElem hlt, List.getElem?_eq_getElem (by omega)] at this ⊢
            simp only [Option.getD_some] at this
            rw [this]
          · rw [List.getElem?_eq_none hge, List.getElem?_eq_none (by omega)]
        simp only [ht]
    simp only [this]

end Go.Ideal
