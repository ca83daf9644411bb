/- The interpreter with advice: at a step at which values alone don't tell, the advice says how it goes on, and what it says is owed. So the kernel runs through code over values that are not known. Over any program. -/
import Derived.Test.YtmaajceeaggocaaDoorILoop
set_option linter.unusedVariables false
set_option linter.unusedSimpArgs false
namespace Go.Ideal

/-- What is said at a step: a condition's truth; an answer, written otherwise; an answer that is owed whole; an operation that asks something first. -/
inductive Say where
  | yes | no
  | put (v : Value)
  | ans (v : Value)
  | chk (v : Option Value)
  | stop

structure St where
  n : Nat
  adv : List (Nat × Say)
  obl : List Prop

def AllP : List Prop → Prop
  | [] => True
  | p :: l => p ∧ AllP l

def St.next (s : St) : Option Say × St := match s.adv with
  | (m, a) :: r => match Nat.beq m s.n with
    | true => (some a, ⟨s.n + 1, r, s.obl⟩)
    | false => (none, ⟨s.n + 1, s.adv, s.obl⟩)
  | [] => (none, ⟨s.n + 1, [], s.obl⟩)
def St.owe (s : St) (p : Prop) : St := ⟨s.n, s.adv, p :: s.obl⟩

theorem St.next_obl (s : St) : s.next.2.obl = s.obl := by
  unfold St.next
  split
  · split <;> rfl
  · rfl

def wantA (o : Oper) (all : List Oper) (ts : List Value) (s : St) : Option (Bool × St) := match o.guard with
  | none => some (true, s)
  | some (j, want) => match s.next with
    | (some .yes, s') => some (true, s'.owe (yieldedI all ts j = some want))
    | (some .no, s') => some (false, s'.owe (yieldedI all ts j = some (!want)))
    | (none, s') => some (wantedI o all ts, s')
    | _ => none

/-- Operations that ask something of their operands: the answer, and what is asked. -/
def chkI (P : Program) (o : Oper) (ts : List Value) : Option (Value × Prop) := match o.op with
  | .binOp op t x y _ => match flatOp ts x && flatOp ts y with
    | false => none
    | true => match op, evI ts x, evI ts y with
      | .shl, .int k a, .int _ b => some (.int k (k.wrap (a * 2 ^ (min b.toNat k.bits))), ¬ b < 0)
      | .shr, .int k a, .int _ b => some (.int k (a.fdiv (2 ^ (min b.toNat k.bits))), ¬ b < 0)
      | .quo, .int k a, .int k' b => match decide (k = k') with
        | true => some (.int k (k.wrap (a.tdiv b)), b ≠ 0)
        | false => none
      | .rem, .int k a, .int k' b => match decide (k = k') with
        | true => some (.int k (a.tmod b), b ≠ 0)
        | false => none
      | .eql, .agg c, .agg d => match pureRun P (eqGuard .eql t x y (.agg c) (.agg d)), eqD P Op.maxDepth t (.agg c) (.agg d) with
        | some (), some b => some (.bool b, True)
        | _, _ => none
      | .neq, .agg c, .agg d => match pureRun P (eqGuard .neq t x y (.agg c) (.agg d)), eqD P Op.maxDepth t (.agg c) (.agg d) with
        | some (), some b => some (.bool (!b), True)
        | _, _ => none
      | _, _, _ => none
  | _ => none

def isCall : Op → Bool
  | .call _ => true
  | _ => false

def opA (P : Program) (o : Oper) (ts : List Value) (h : Heap) (s : St) : Option (Value × Heap × St) := match s.next with
  | (none, s') => match opI P o ts h with
    | some (v, h1) => some (v, h1, s')
    | none => none
  | (some (.put v), s') => match opI P o ts h with
    | some (v0, h1) => some (v, h1, s'.owe (v0 = v))
    | none => none
  | (some (.ans v), s') => some (v, h, s'.owe (opI P o ts h = some (v, h)))
  | (some (.chk v), s') => match isCall o.op with
    | true => none
    | false => match chkI P o ts, v with
      | some (v0, p), none => some (v0, h, s'.owe p)
      | some (v0, p), some v => some (v, h, (s'.owe p).owe (v0 = v))
      | none, _ => none
  | _ => none

abbrev CallA := FuncId → List Value → Heap → St → Option (Value × Heap × St)

def operA (P : Program) (call : CallA) (o : Oper) (ts : List Value) (h : Heap) (s : St) : Option (Value × Heap × St) := match o.op with
  | .call c => match c.callee with
    | .builtin _ => opA P o ts h s
    | _ => match calleeI ts c with
      | some (f, args) => call f args h s
      | none => none
  | _ => opA P o ts h s

def opsA (P : Program) (call : CallA) (all : List Oper) : List Oper → List Value → Heap → St → Option (List Value × Heap × St)
  | [], ts, h, s => some (ts, h, s)
  | o :: rest, ts, h, s => match wantA o all ts s with
    | some (true, s1) => match operA P call o ts h s1 with
      | some (v, h1, s2) => opsA P call all rest (putI ts o.dst v) h1 s2
      | none => none
    | some (false, s1) => opsA P call all rest (putI ts o.dst undef) h s1
    | none => none

def callWithA (P : Program) (O : Orc) (ex : Code → List Value → Heap → St → Option (Ex × List Value × Heap × St)) : CallA := fun f args h s =>
  match O.pure f with
  | some g => match s.next with
    | (none, s') => match g args with
      | some v => some (v, h, s')
      | none => none
    | (some (.put v), s') => match g args with
      | some v0 => some (v, h, s'.owe (v0 = v))
      | none => none
    | (some (.ans v), s') => some (v, h, s'.owe (g args = some v))
    | _ => none
  | none =>
  match O.heap f args h with
  | some (v, h1) => some (v, h1, s)
  | none =>
  match P.funcs[f]? with
  | some fn => match fn.body with
    | some c => match ex c (args ++ List.replicate (fn.ntmps - args.length) undef) h s with
      | some (.normal, ts, h', s') | some (.ret, ts, h', s') => match resultsI P ts h' fn.results.toList with
        | some l => some (tupleI l, h', s')
        | none => none
      | _ => none
    | none => none
  | none => none

def execA (P : Program) (O : Orc) : Nat → Code → List Value → Heap → St → Option (Ex × List Value × Heap × St)
  | 0, _, _, _, _ => none
  | n + 1, c, ts, h, s =>
    match c with
    | .skip | .label _ => some (.normal, ts, h, s)
    | .seq a b => match execA P O n a ts h s with
      | some (.normal, ts', h', s') => execA P O n b ts' h' s'
      | r => r
    | .cond c a b => match s.next with
      | (some .yes, s') => execA P O n a ts h (s'.owe (evI ts c = .bool true))
      | (some .no, s') => execA P O n b ts h (s'.owe (evI ts c = .bool false))
      | (none, s') => match evI ts c with
        | .bool true => execA P O n a ts h s'
        | .bool false => execA P O n b ts h s'
        | _ => none
      | _ => none
    | .block id b => match execA P O n b ts h s with
      | some (.exit id', ts', h', s') => match Nat.beq id' id with
        | true => some (.normal, ts', h', s')
        | false => some (.exit id', ts', h', s')
      | r => r
    | .loop b => match execA P O n b ts h s with
      | some (.normal, ts', h', s') => execA P O n (.loop b) ts' h' s'
      | r => r
    | .exit id => some (.exit id, ts, h, s)
    | .scope b => execA P O n b ts h s
    | .ret => some (.ret, ts, h, s)
    | .region _ ops draw => match !draw || (pairsOK P O.isPure ops (pres ops.toList []) 0 ops.toList && drawStill P O.isPure ops) with
      | true => match opsA P (callWithA P O (execA P O n)) ops.toList ops.toList ts h s with
        | some (ts', h', s') => some (.normal, ts', h', s')
        | none => none
      | false => none
    | _ => none

/-! ### soundness -/
section
variable {P : Program} {O : Orc}

theorem wantA_sound {o : Oper} {all : List Oper} {ts : List Value} {s s' : St} {b : Bool} (h : wantA o all ts s = some (b, s')) (ha : AllP s'.obl) : AllP s.obl ∧ wantedI o all ts = b := by
  unfold wantA at h
  cases hg : o.guard with
  | none =>
    rw [hg] at h
    simp only [Option.some.injEq, Prod.mk.injEq] at h
    obtain ⟨rfl, rfl⟩ := h
    exact ⟨ha, by unfold wantedI; rw [hg]⟩
  | some jw =>
    obtain ⟨j, want⟩ := jw
    rw [hg] at h
    have hn := s.next_obl
    simp only at h
    split at h
    · rename_i s1 e
      rw [e] at hn
      simp only [Option.some.injEq, Prod.mk.injEq] at h; obtain ⟨rfl, rfl⟩ := h
      refine ⟨hn ▸ ha.2, ?_⟩
      unfold wantedI; rw [hg]; simp only [ha.1, beq_self_eq_true]
    · rename_i s1 e
      rw [e] at hn
      simp only [Option.some.injEq, Prod.mk.injEq] at h; obtain ⟨rfl, rfl⟩ := h
      refine ⟨hn ▸ ha.2, ?_⟩
      unfold wantedI; rw [hg]; simp only [ha.1]; cases want <;> rfl
    · rename_i s1 e
      rw [e] at hn
      simp only [Option.some.injEq, Prod.mk.injEq] at h; obtain ⟨rfl, rfl⟩ := h
      exact ⟨hn ▸ ha, rfl⟩
    · cases h

theorem chkI_sound {o : Oper} {ts : List Value} {h : Heap} {v : Value} {p : Prop} (hc : chkI P o ts = some (v, p)) (hp : p) (call : CallI) : operI P call o ts h = some (v, h) := by
  unfold chkI at hc
  split at hc
  · rename_i op t x y t2 ho
    split at hc
    · cases hc
    · rename_i hf
      simp only [Bool.and_eq_true] at hf
      split at hc
      · rename_i k a k2 b hx hy
        simp only [Option.some.injEq, Prod.mk.injEq] at hc; obtain ⟨rfl, rfl⟩ := hc
        exact op_shl ho hf.1 hf.2 hx hy hp call
      · rename_i k a k2 b hx hy
        simp only [Option.some.injEq, Prod.mk.injEq] at hc; obtain ⟨rfl, rfl⟩ := hc
        exact op_shr ho hf.1 hf.2 hx hy hp call
      · rename_i k a k2 b hx hy
        split at hc
        · rename_i e; obtain rfl : k = k2 := by simpa using e
          simp only [Option.some.injEq, Prod.mk.injEq] at hc; obtain ⟨rfl, rfl⟩ := hc
          exact op_quo ho hf.1 hf.2 hx hy hp call
        · cases hc
      · rename_i k a k2 b hx hy
        split at hc
        · rename_i e; obtain rfl : k = k2 := by simpa using e
          simp only [Option.some.injEq, Prod.mk.injEq] at hc; obtain ⟨rfl, rfl⟩ := hc
          exact op_rem ho hf.1 hf.2 hx hy hp call
        · cases hc
      · rename_i c d hx hy
        split at hc
        · rename_i b hg hb
          simp only [Option.some.injEq, Prod.mk.injEq] at hc; obtain ⟨rfl, rfl⟩ := hc
          exact op_eql ho hf.1 hf.2 hx hy hg hb call
        · cases hc
      · rename_i c d hx hy
        split at hc
        · rename_i b hg hb
          simp only [Option.some.injEq, Prod.mk.injEq] at hc; obtain ⟨rfl, rfl⟩ := hc
          exact op_neq ho hf.1 hf.2 hx hy hg hb call
        · cases hc
      · cases hc
  · cases hc

theorem opA_sound {o : Oper} {ts : List Value} {h h1 : Heap} {v : Value} {s s' : St} (hi : ∀ call : CallI, operI P call o ts h = opI P o ts h) (he : opA P o ts h s = some (v, h1, s')) (ha : AllP s'.obl) : AllP s.obl ∧ ∀ call : CallI, operI P call o ts h = some (v, h1) := by
  have hn := s.next_obl
  unfold opA at he
  split at he
  · rename_i s1 e
    rw [e] at hn
    split at he
    · rename_i v0 h0 ho
      simp only [Option.some.injEq, Prod.mk.injEq] at he; obtain ⟨rfl, rfl, rfl⟩ := he
      exact ⟨hn ▸ ha, fun call => by rw [hi, ho]⟩
    · cases he
  · rename_i v1 s1 e
    rw [e] at hn
    split at he
    · rename_i v0 h0 ho
      simp only [Option.some.injEq, Prod.mk.injEq] at he; obtain ⟨rfl, rfl, rfl⟩ := he
      have h1 := ha.1
      exact ⟨hn ▸ ha.2, fun call => by rw [hi, ho, h1]⟩
    · cases he
  · rename_i v1 s1 e
    rw [e] at hn
    simp only [Option.some.injEq, Prod.mk.injEq] at he; obtain ⟨rfl, rfl, rfl⟩ := he
    have h1 := ha.1
    exact ⟨hn ▸ ha.2, fun call => by rw [hi, h1]⟩
  · rename_i v1 s1 e
    rw [e] at hn
    split at he
    · cases he
    · split at he
      · rename_i v0 p hc
        simp only [Option.some.injEq, Prod.mk.injEq] at he; obtain ⟨rfl, rfl, rfl⟩ := he
        exact ⟨hn ▸ ha.2, fun call => chkI_sound hc ha.1 call⟩
      · rename_i v0 p v2 hc
        simp only [Option.some.injEq, Prod.mk.injEq] at he; obtain ⟨rfl, rfl, rfl⟩ := he
        have h1 := ha.1
        exact ⟨hn ▸ ha.2.2, fun call => by rw [← h1]; exact chkI_sound hc ha.2.1 call⟩
      · cases he
  · cases he

def CallAOK (P : Program) (O : Orc) (call : CallA) : Prop := ∀ f args h s v h1 s', call f args h s = some (v, h1, s') → AllP s'.obl → AllP s.obl ∧ CallR P O f args h v h1

theorem opsA_sound {call : CallA} (hc : CallAOK P O call) {all : List Oper} : ∀ {l : List Oper} {ts ts' : List Value} {h h' : Heap} {s s' : St}, opsA P call all l ts h s = some (ts', h', s') → AllP s'.obl → AllP s.obl ∧ Ops P O all l ts h ts' h'
  | [], ts, ts', h, h', s, s', he, ha => by
    simp only [opsA, Option.some.injEq, Prod.mk.injEq] at he; obtain ⟨rfl, rfl, rfl⟩ := he
    exact ⟨ha, .nil⟩
  | o :: l, ts, ts', h, h', s, s', he, ha => by
    simp only [opsA] at he
    split at he
    · rename_i s1 hw
      split at he
      · rename_i v h1 s2 ho
        obtain ⟨a2, hr⟩ := opsA_sound hc he ha
        have key : AllP s1.obl ∧ Ops P O all (o :: l) ts h ts' h' := by
          have want : ∀ {a1 : AllP s1.obl}, wantedI o all ts = true := fun {a1} => (wantA_sound hw a1).2
          unfold operA at ho
          split at ho
          · rename_i c hop
            split at ho
            · rename_i b hcal
              obtain ⟨a1, k⟩ := opA_sound (fun call => by unfold operI; rw [hop]; simp only [hcal]) ho a2
              exact ⟨a1, .op (want (a1 := a1)) k hr⟩
            · rename_i hcal
              split at ho
              · rename_i f args hcl
                obtain ⟨a1, k⟩ := hc _ _ _ _ _ _ _ ho a2
                refine ⟨a1, .call (want (a1 := a1)) (fun call => ?_) k hr⟩
                unfold operI
                rw [hop]
                simp only [hcl]
              · cases ho
          · rename_i hop
            obtain ⟨a1, k⟩ := opA_sound (fun call => by
              unfold operI
              split
              · rename_i c hc2; exact absurd hc2 (hop c)
              · rfl) ho a2
            exact ⟨a1, .op (want (a1 := a1)) k hr⟩
        exact ⟨(wantA_sound hw key.1).1, key.2⟩
      · cases he
    · rename_i s1 hw
      obtain ⟨a1, hr⟩ := opsA_sound hc he ha
      obtain ⟨a0, hww⟩ := wantA_sound hw a1
      exact ⟨a0, .off hww hr⟩
    · cases he

theorem callWithA_sound {ex : Code → List Value → Heap → St → Option (Ex × List Value × Heap × St)} (hx : ∀ c ts h s x ts' h' s', ex c ts h s = some (x, ts', h', s') → AllP s'.obl → AllP s.obl ∧ Runs P O c ts h x ts' h') : CallAOK P O (callWithA P O ex) := by
  intro f args h s v h1 s' he ha
  have hn := s.next_obl
  unfold callWithA at he
  split at he
  · rename_i g hp
    split at he
    · rename_i s1 e
      rw [e] at hn
      split at he
      · rename_i v0 hg
        simp only [Option.some.injEq, Prod.mk.injEq] at he; obtain ⟨rfl, rfl, rfl⟩ := he
        exact ⟨hn ▸ ha, .pure hp hg⟩
      · cases he
    · rename_i v1 s1 e
      rw [e] at hn
      split at he
      · rename_i v0 hg
        simp only [Option.some.injEq, Prod.mk.injEq] at he; obtain ⟨rfl, rfl, rfl⟩ := he
        have h1 := ha.1
        exact ⟨hn ▸ ha.2, .pure hp (h1 ▸ hg)⟩
      · cases he
    · rename_i v1 s1 e
      rw [e] at hn
      simp only [Option.some.injEq, Prod.mk.injEq] at he; obtain ⟨rfl, rfl, rfl⟩ := he
      exact ⟨hn ▸ ha.2, .pure hp ha.1⟩
    · cases he
  · rename_i hp
    split at he
    · rename_i v0 h0 hh
      simp only [Option.some.injEq, Prod.mk.injEq] at he; obtain ⟨rfl, rfl, rfl⟩ := he
      exact ⟨ha, .heap hp hh⟩
    · rename_i hh
      split at he
      · rename_i fn hf
        split at he
        · rename_i c hb
          split at he
          · rename_i ts' h' s1 hr
            split at he
            · rename_i l hl
              simp only [Option.some.injEq, Prod.mk.injEq] at he; obtain ⟨rfl, rfl, rfl⟩ := he
              obtain ⟨a0, k⟩ := hx _ _ _ _ _ _ _ _ hr ha
              exact ⟨a0, .text hp hh hf hb k (.inl rfl) hl⟩
            · cases he
          · rename_i ts' h' s1 hr
            split at he
            · rename_i l hl
              simp only [Option.some.injEq, Prod.mk.injEq] at he; obtain ⟨rfl, rfl, rfl⟩ := he
              obtain ⟨a0, k⟩ := hx _ _ _ _ _ _ _ _ hr ha
              exact ⟨a0, .text hp hh hf hb k (.inr rfl) hl⟩
            · cases he
          · cases he
        · cases he
      · cases he

theorem execA_sound : ∀ (n : Nat) (c : Code) (ts : List Value) (h : Heap) (s : St) (x : Ex) (ts' : List Value) (h' : Heap) (s' : St), execA P O n c ts h s = some (x, ts', h', s') → AllP s'.obl → AllP s.obl ∧ Runs P O c ts h x ts' h'
  | 0, _, _, _, _, _, _, _, _, he, _ => by simp [execA] at he
  | n + 1, c, ts, h, s, x, ts', h', s', he, ha => by
    have ih := execA_sound n
    have ihc := callWithA_sound (P := P) (O := O) ih
    have hn := s.next_obl
    cases c with
    | skip => simp only [execA, Option.some.injEq, Prod.mk.injEq] at he; obtain ⟨rfl, rfl, rfl, rfl⟩ := he; exact ⟨ha, .skip⟩
    | label l => simp only [execA, Option.some.injEq, Prod.mk.injEq] at he; obtain ⟨rfl, rfl, rfl, rfl⟩ := he; exact ⟨ha, .label⟩
    | exit id => simp only [execA, Option.some.injEq, Prod.mk.injEq] at he; obtain ⟨rfl, rfl, rfl, rfl⟩ := he; exact ⟨ha, .exit⟩
    | ret => simp only [execA, Option.some.injEq, Prod.mk.injEq] at he; obtain ⟨rfl, rfl, rfl, rfl⟩ := he; exact ⟨ha, .ret⟩
    | goto l => simp [execA] at he
    | refuse w => simp [execA] at he
    | rangeFunc f ps as b => simp [execA] at he
    | scope b => rw [execA] at he; obtain ⟨a0, k⟩ := ih _ _ _ _ _ _ _ _ he ha; exact ⟨a0, .scope k⟩
    | seq a b =>
      rw [execA] at he
      split at he
      · rename_i ts1 h1 s1 h2
        obtain ⟨a1, k2⟩ := ih _ _ _ _ _ _ _ _ he ha
        obtain ⟨a0, k1⟩ := ih _ _ _ _ _ _ _ _ h2 a1
        exact ⟨a0, .seq k1 k2⟩
      · rename_i hne
        obtain ⟨a0, k1⟩ := ih _ _ _ _ _ _ _ _ he ha
        exact ⟨a0, .seq_out k1 fun e => hne ts' h' s' (e ▸ he)⟩
    | cond c0 a b =>
      rw [execA] at he
      split at he
      · rename_i s1 e
        rw [e] at hn
        obtain ⟨a1, k⟩ := ih _ _ _ _ _ _ _ _ he ha
        exact ⟨hn ▸ a1.2, .cond_true a1.1 k⟩
      · rename_i s1 e
        rw [e] at hn
        obtain ⟨a1, k⟩ := ih _ _ _ _ _ _ _ _ he ha
        exact ⟨hn ▸ a1.2, .cond_false a1.1 k⟩
      · rename_i s1 e
        rw [e] at hn
        split at he
        · rename_i hc
          obtain ⟨a1, k⟩ := ih _ _ _ _ _ _ _ _ he ha
          exact ⟨hn ▸ a1, .cond_true hc k⟩
        · rename_i hc
          obtain ⟨a1, k⟩ := ih _ _ _ _ _ _ _ _ he ha
          exact ⟨hn ▸ a1, .cond_false hc k⟩
        · cases he
      · cases he
    | block id b =>
      rw [execA] at he
      split at he
      · rename_i id' ts1 h1 s1 h2
        split at he
        · rename_i hb
          simp only [Option.some.injEq, Prod.mk.injEq] at he; obtain ⟨rfl, rfl, rfl, rfl⟩ := he
          obtain ⟨a0, k⟩ := ih _ _ _ _ _ _ _ _ h2 ha
          obtain rfl : id' = id := Nat.eq_of_beq_eq_true hb
          exact ⟨a0, .block_exit k⟩
        · rename_i hb
          simp only [Option.some.injEq, Prod.mk.injEq] at he; obtain ⟨rfl, rfl, rfl, rfl⟩ := he
          obtain ⟨a0, k⟩ := ih _ _ _ _ _ _ _ _ h2 ha
          exact ⟨a0, .block_other k hb⟩
      · rename_i hne
        obtain ⟨a0, k⟩ := ih _ _ _ _ _ _ _ _ he ha
        cases x with
        | normal => exact ⟨a0, .block k⟩
        | ret => exact ⟨a0, .block_ret k⟩
        | exit id' => exact absurd he (hne id' ts' h' s')
    | loop b =>
      rw [execA] at he
      split at he
      · rename_i ts1 h1 s1 h2
        obtain ⟨a1, k2⟩ := ih _ _ _ _ _ _ _ _ he ha
        obtain ⟨a0, k1⟩ := ih _ _ _ _ _ _ _ _ h2 a1
        exact ⟨a0, .loop k1 k2⟩
      · rename_i hne
        obtain ⟨a0, k1⟩ := ih _ _ _ _ _ _ _ _ he ha
        exact ⟨a0, .loop_out k1 fun e => hne ts' h' s' (e ▸ he)⟩
    | region id ops draw =>
      rw [execA] at he
      split at he
      · rename_i hd
        split at he
        · rename_i ts1 h1 s1 h2
          simp only [Option.some.injEq, Prod.mk.injEq] at he; obtain ⟨rfl, rfl, rfl, rfl⟩ := he
          obtain ⟨a0, k⟩ := opsA_sound ihc h2 ha
          refine ⟨a0, ?_⟩
          cases draw with
          | false => exact .region k
          | true =>
            simp only [Bool.not_true, Bool.false_or, Bool.and_eq_true] at hd
            obtain ⟨m, hm⟩ := k
            obtain ⟨ents, ht⟩ := opsT_of_opsI hm
            exact .draw ⟨m, ht⟩ hd.1 (by unfold drawReads; rw [hd.2]; rfl)
        · cases he
      · cases he

def tsOf : Option (Ex × List Value × Heap × St) → List Value
  | some (_, ts, _, _) => ts
  | none => []
def hOf : Option (Ex × List Value × Heap × St) → Heap
  | some (_, _, h, _) => h
  | none => ⟨0, .leaf⟩
def xObl (e : Option (Ex × List Value × Heap × St)) : Option (Ex × List Prop) := match e with
  | some (x, _, _, s) => some (x, s.obl)
  | none => none
def vObl (e : Option (Value × Heap × St)) : Option (Value × List Prop) := match e with
  | some (v, _, s) => some (v, s.obl)
  | none => none

/-- A call by advice: what it answers, and what is owed for it. -/
theorem CallW.adv (n : Nat) (adv : List (Nat × Say)) (obl : List Prop) {f : FuncId} {args : List Value} {h : Heap} (v : Value) {S : Value → Heap → Prop}
    (he : vObl (callWithA P O (execA P O n) f args h ⟨0, adv, []⟩) = some (v, obl)) (ho : AllP obl) (hs : ∀ h', S v h') : CallW P O f args h S := by
  unfold vObl at he
  split at he
  · rename_i v1 h1 s1 e
    simp only [Option.some.injEq, Prod.mk.injEq] at he; obtain ⟨rfl, rfl⟩ := he
    obtain ⟨_, k⟩ := callWithA_sound (execA_sound n) _ _ _ _ _ _ _ e ho
    exact ⟨_, _, k, hs _⟩
  · cases he

/-- A piece of code by advice. -/
theorem Wp.adv (n : Nat) (adv : List (Nat × Say)) (obl : List Prop) {c : Code} {ts : List Value} {h : Heap} (x : Ex) {Q : Ex → List Value → Heap → Prop}
    (he : xObl (execA P O n c ts h ⟨0, adv, []⟩) = some (x, obl)) (ho : AllP obl) (hq : Q x (tsOf (execA P O n c ts h ⟨0, adv, []⟩)) (hOf (execA P O n c ts h ⟨0, adv, []⟩))) : Wp P O c ts h Q := by
  unfold xObl at he
  split at he
  · rename_i x1 ts1 h1 s1 e
    simp only [Option.some.injEq, Prod.mk.injEq] at he; obtain ⟨rfl, rfl⟩ := he
    obtain ⟨_, k⟩ := execA_sound n _ _ _ _ _ _ _ _ e ho
    rw [e] at hq
    exact ⟨_, _, _, k, hq⟩
  · cases he
end

end Go.Ideal
