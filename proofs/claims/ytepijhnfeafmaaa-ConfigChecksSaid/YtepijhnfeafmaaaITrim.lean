/- Blocks that were made in a round of a loop, forgotten at its end. Over any program. -/
import Derived.Test.YtepijhnfeafmaaaISem
set_option linter.unusedVariables false
set_option linter.unusedSimpArgs false
namespace Go.Ideal
open Go.RowKit

variable {P : Program} {B : Nat} {w0 : Org}

/-- All that lies below N. -/
def Sg.trim (σ : Sg) (N : Nat) : Sg := ⟨fun i => if i < N then σ i else none, σ.f, fun i n => if i < N then σ.T i n else none⟩
theorem Sg.trim_lt {σ : Sg} {N i : Nat} (h : i < N) : (σ.trim N) i = σ i := if_pos h
theorem Sg.trim_T {σ : Sg} {N i n : Nat} (h : i < N) : (σ.trim N).T i n = σ.T i n := if_pos h

/-- Nothing in it leads to blocks from N on. -/
def refsOK : Nat → Nat → Value → Bool
  | 0, _, _ => false
  | n + 1, N, v => match v with
    | .pointer (some ⟨i, _, _⟩) => Nat.blt i N
    | .slice (some ⟨i, _, _⟩) _ _ => Nat.blt i N
    | .map (some i) => Nat.blt i N
    | .func _ a c => a.toList.all (refsOK n N) && c.toList.all (refsOK n N)
    | .iface t u => match isV t with
      | true => match asOs (.iface t u) with
        | some (tok, _, _, _) => Nat.blt tok N
        | none => true
      | false => refsOK n N u
    | .agg cs => cs.toList.all (refsOK n N)
    | .tuple cs => cs.toList.all (refsOK n N)
    | _ => true

theorem LRel.all_of {σ τ : Sg} {f : Value → Bool} (hf : ∀ v v', f v = true → VRel σ v v' → VRel τ v v') {l l' : List Value} (h : LRel σ l l') : l.all f = true → LRel τ l l' := by
  induction h with
  | nil => intro _; exact .nil
  | cons k _ ih => intro hh; simp only [List.all_cons, Bool.and_eq_true] at hh; exact .cons (hf _ _ hh.1 k) (ih hh.2)

theorem VRel.trim {σ : Sg} {N : Nat} : ∀ (n : Nat) (v v' : Value), refsOK n N v = true → VRel σ v v' → VRel (σ.trim N) v v'
  | 0, _, _, h, _ => by simp [refsOK] at h
  | n + 1, v, v', h, hv => by
    have lst : ∀ {l l' : List Value}, l.all (refsOK n N) = true → LRel σ l l' → LRel (σ.trim N) l l' := fun hl hr => hr.all_of (VRel.trim n) hl
    cases hv with
    | bool b => exact .bool b
    | int k n => exact .int k n
    | float k n => exact .float k n
    | complex k n m => exact .complex k n m
    | string s => exact .string s
    | pnil => exact .pnil
    | ptr hi => exact .ptr (by rw [Sg.trim_lt (by simpa [refsOK] using h)]; exact hi)
    | snil n c => exact .snil n c
    | sfix hi => exact .sfix (by rw [Sg.trim_lt (by simpa [refsOK] using h)]; exact hi)
    | sgrown hi hc hz => exact .sgrown (by rw [Sg.trim_lt (by simpa [refsOK] using h)]; exact hi) hc hz
    | sloose hi ho => exact .sloose (by rw [Sg.trim_lt (by simpa [refsOK] using h)]; exact hi) ho
    | mnil => exact .mnil
    | cnil => exact .cnil
    | nilFunc => exact .nilFunc
    | nilIface => exact .nilIface
    | func fn ha hc h1 h2 =>
      simp only [refsOK, Bool.and_eq_true] at h
      obtain ⟨_, k1, k2⟩ := VRel.func_lists (.func fn ha hc h1 h2)
      exact VRel.func_of (lst h.1 k1) (lst h.2 k2)
    | iface t ht hh => simp only [refsOK, ht] at h; exact .iface t ht (VRel.trim n _ _ h hh)
    | frz t ht hh => exact .frz t ht hh
    | osnil tok es => exact .osnil tok es
    | osome hs hF hh hT hp hn hc hnc =>
      rename_i cells ms tok es b sz n' c'
      have hlt : tok < N := by
        have h2 : Nat.blt tok N = true := h
        simpa using h2
      exact .osome hs hF hh (by rw [Sg.trim_T hlt]; exact hT) hp hn hc hnc
    | mptr hi => exact .mptr (by rw [Sg.trim_lt (by simpa [refsOK] using h)]; exact hi)
    | agg ha hh => exact VRel.agg_of (lst (by simpa [refsOK] using h) (VRel.agg_list (.agg ha hh)))
    | tuple ha hh => exact VRel.tuple_of (lst (by simpa [refsOK] using h) (VRel.tuple_list (.tuple ha hh)))

/-- What was there before. -/
theorem VRel.rebase {σ0 σ : Sg} {N : Nat} (hd : ∀ i x, σ0 i = some x → i < N) (hT : ∀ i n x, σ0.T i n = some x → i < N) {v u : Value} (h0 : VRel σ0 v u) : ∀ {v' : Value}, VRel σ v v' → VRel (σ.trim N) v v' := by
  have arr : ∀ {a a' b : Array Value}, (∀ j : Nat, ∀ {v' : Value}, VRel σ (a.getD j Go.undef) v' → VRel (σ.trim N) (a.getD j Go.undef) v') → (∀ j : Nat, VRel σ (a.getD j Go.undef) (b.getD j Go.undef)) → ∀ j : Nat, VRel (σ.trim N) (a.getD j Go.undef) (b.getD j Go.undef) := fun ih h j => ih j (h j)
  induction h0 with
  | bool b => intro v' h; cases h; exact .bool b
  | int k n => intro v' h; cases h; exact .int k n
  | float k n => intro v' h; cases h; exact .float k n
  | complex k n m => intro v' h; cases h; exact .complex k n m
  | string s => intro v' h; cases h; exact .string s
  | pnil => intro v' h; cases h; exact .pnil
  | ptr hi => intro v' h; cases h with | ptr hj => exact .ptr (by rw [Sg.trim_lt (hd _ _ hi)]; exact hj)
  | snil n c => intro v' h; cases h; exact .snil n c
  | sfix hi => intro v' h; cases h with
    | sfix hj => exact .sfix (by rw [Sg.trim_lt (hd _ _ hi)]; exact hj)
    | sgrown hj hc hz => exact .sgrown (by rw [Sg.trim_lt (hd _ _ hi)]; exact hj) hc hz
    | sloose hj ho => exact .sloose (by rw [Sg.trim_lt (hd _ _ hi)]; exact hj) ho
  | sgrown hi _ _ => intro v' h; cases h with
    | sfix hj => exact .sfix (by rw [Sg.trim_lt (hd _ _ hi)]; exact hj)
    | sgrown hj hc hz => exact .sgrown (by rw [Sg.trim_lt (hd _ _ hi)]; exact hj) hc hz
    | sloose hj ho => exact .sloose (by rw [Sg.trim_lt (hd _ _ hi)]; exact hj) ho
  | sloose hi _ => intro v' h; cases h with
    | sfix hj => exact .sfix (by rw [Sg.trim_lt (hd _ _ hi)]; exact hj)
    | sgrown hj hc hz => exact .sgrown (by rw [Sg.trim_lt (hd _ _ hi)]; exact hj) hc hz
    | sloose hj ho => exact .sloose (by rw [Sg.trim_lt (hd _ _ hi)]; exact hj) ho
  | mnil => intro v' h; cases h; exact .mnil
  | cnil => intro v' h; cases h; exact .cnil
  | nilFunc => intro v' h; cases h; exact .nilFunc
  | nilIface => intro v' h; cases h; exact .nilIface
  | func fn ha hc h1 h2 i1 i2 => intro v' h; cases h with
    | func _ ka kc k1 k2 => exact .func fn ka kc (fun j => i1 j (k1 j)) fun j => i2 j (k2 j)
  | iface t ht _ ih => intro v' h; cases h with
    | iface _ _ hh => exact .iface t ht (ih hh)
    | frz _ ht' _ => rw [ht] at ht'; cases ht'
    | osnil => simp [isV] at ht
    | osome => simp [isV] at ht
  | frz t ht hf => intro v' h; cases h with
    | iface _ ht' _ => rw [ht] at ht'; cases ht'
    | frz _ _ hh => exact .frz t ht hh
    | osnil => exact .osnil _ _
    | osome => cases hf with | iface _ ht' _ => rw [ht] at ht'; cases ht'
  | osnil tok es => intro v' h; generalize ho : osl tok es 0 #[] = q at h; cases h with
    | frz t ht hh => exact .frz t ht hh
    | osnil tok2 es2 => exact .osnil tok2 es2
    | osome hs hF hh hT' hp hn hc hnc =>
      simp only [osl, Value.iface.injEq, Value.tuple.injEq, Array.mk.injEq, List.cons.injEq, Value.int.injEq, Value.agg.injEq, true_and, and_true] at ho
      obtain ⟨_, _, _, e4⟩ := ho
      subst e4
      simp at hp
    | iface t ht _ => cases ho; simp [isV] at ht
    | _ => cases ho
  | osome hs hF hh hT0 hp hn hc hnc =>
    rename_i cells ms tok es b sz n c'
    intro v' h; generalize ho : osl tok es n cells = q at h; cases h with
    | frz t ht hh => exact .frz t ht hh
    | osnil tok2 es2 => exact .osnil tok2 es2
    | osome hs2 hF2 hh2 hT2 hp2 hn2 hc2 hnc2 =>
      rename_i cells2 ms2 tok2 es2 b2 sz2 n2 c2'
      have e1 : tok = tok2 := by
        simp only [osl, Value.iface.injEq, Value.tuple.injEq, Array.mk.injEq, List.cons.injEq, Value.int.injEq, Value.agg.injEq, true_and, and_true] at ho
        omega
      exact .osome hs2 hF2 hh2 (by rw [Sg.trim_T (by rw [← e1]; exact hT _ _ _ hT0)]; exact hT2) hp2 hn2 hc2 hnc2
    | iface t ht _ => cases ho; simp [isV] at ht
    | _ => cases ho
  | mptr hi => intro v' h; cases h with | mptr hj => exact .mptr (by rw [Sg.trim_lt (hd _ _ hi)]; exact hj)
  | agg ha _ ih => intro v' h; cases h with | agg ka k => exact .agg ka fun j => ih j (k j)
  | tuple ha _ ih => intro v' h; cases h with
    | tuple ka k => exact .tuple ka fun j hj => ih j hj (k j hj)

theorem exists_array {n : Nat} {p : Nat → Value → Prop} (h : ∀ j, j < n → ∃ v, p j v) : ∃ a : Array Value, a.size = n ∧ ∀ j, j < n → p j (a.getD j Go.undef) := by
  induction n with
  | zero => exact ⟨#[], rfl, fun j hj => absurd hj (Nat.not_lt_zero _)⟩
  | succ n ih =>
    obtain ⟨a, h1, h2⟩ := ih fun j hj => h j (by omega)
    obtain ⟨v, hv⟩ := h n (by omega)
    refine ⟨a.push v, by simp [h1], fun j hj => ?_⟩
    rcases Nat.lt_or_ge j n with k | k
    · have := h2 j k
      simpa [Array.getD_eq_getD_getElem?, Array.getElem?_push, show ¬ j = a.size by omega] using this
    · have e : (a.push v).getD j Go.undef = v := by
        have : j = a.size := by omega
        subst this
        simp [Array.getD_eq_getD_getElem?]
      have e2 : j = n := by omega
      rw [e, e2]; exact hv
theorem getDA_ge {a : Array Value} {j : Nat} (h : a.size ≤ j) : a.getD j Go.undef = Go.undef := by
  simp [Array.getD_eq_getD_getElem?, Array.getElem?_eq_none h]

/-- Something is known of anything. -/
theorem VRel.blank {σ : Sg} (N : Nat) {v v' : Value} (h : VRel σ v v') : ∃ v2, VRel (σ.trim N) v2 v' := by
  have any : ∀ {v' : Value}, refLike v' = true → ∃ v2, VRel (σ.trim N) v2 v' := fun h => ⟨vany, (FRel.any h : FRel σ.f vany _).vrel (σ := σ.trim N)⟩
  induction h with
  | bool b => exact ⟨_, .bool b⟩
  | int k n => exact ⟨_, .int k n⟩
  | float k n => exact ⟨_, .float k n⟩
  | complex k n m => exact ⟨_, .complex k n m⟩
  | string s => exact ⟨_, .string s⟩
  | pnil => exact ⟨_, .pnil⟩
  | ptr hi => exact any rfl
  | snil n c => exact ⟨_, .snil n c⟩
  | sfix hi => exact any rfl
  | sgrown hi _ _ => exact any rfl
  | sloose hi _ => exact any rfl
  | mnil => exact ⟨_, .mnil⟩
  | cnil => exact ⟨_, .cnil⟩
  | nilFunc => exact ⟨_, .nilFunc⟩
  | nilIface => exact ⟨_, .nilIface⟩
  | @func fn a a' c c' ha hc h1 h2 i1 i2 =>
    obtain ⟨b, k1, k2⟩ := exists_array (n := a'.size) (p := fun j v => VRel (σ.trim N) v (a'.getD j Go.undef)) fun j _ => i1 j
    obtain ⟨d, q1, q2⟩ := exists_array (n := c'.size) (p := fun j v => VRel (σ.trim N) v (c'.getD j Go.undef)) fun j _ => i2 j
    refine ⟨.func fn b d, .func fn k1 q1 (fun j => ?_) fun j => ?_⟩
    · rcases Nat.lt_or_ge j a'.size with h | h
      · exact k2 j h
      · rw [getDA_ge h, getDA_ge (by omega)]; exact VRel.undef _
    · rcases Nat.lt_or_ge j c'.size with h | h
      · exact q2 j h
      · rw [getDA_ge h, getDA_ge (by omega)]; exact VRel.undef _
  | iface t ht _ ih => obtain ⟨v2, h2⟩ := ih; exact ⟨.iface t v2, .iface t ht h2⟩
  | frz t ht hf => exact ⟨_, .frz t ht hf⟩
  | osnil tok es => exact ⟨_, .snil 0 0⟩
  | osome hs hF hh hT hp hn hc hnc => exact any rfl
  | mptr hi => exact any rfl
  | @agg a a' ha h ih =>
    obtain ⟨b, k1, k2⟩ := exists_array (n := a'.size) (p := fun j v => VRel (σ.trim N) v (a'.getD j Go.undef)) fun j _ => ih j
    refine ⟨.agg b, .agg k1 fun j => ?_⟩
    rcases Nat.lt_or_ge j a'.size with h | h
    · exact k2 j h
    · rw [getDA_ge h, getDA_ge (by omega)]; exact VRel.undef _
  | @tuple a a' ha h ih =>
    obtain ⟨b, k1, k2⟩ := exists_array (n := a'.size) (p := fun j v => VRel (σ.trim N) v (a'.getD j Go.undef)) fun j hj => ih j (by omega)
    exact ⟨.tuple b, .tuple k1 fun j hj => k2 j (by omega)⟩

/-! ### heaps -/
/-- Nothing in the blocks below i leads to blocks from N on. -/
def refsP (N : Nat) (h : Heap) : Nat → Prop
  | 0 => True
  | i + 1 => match h.get i with
    | some (.cells cs _ _) => cs.all (refsOK 8 N) = true ∧ refsP N h i
    | some (.map _ vs) => vs.all (refsOK 8 N) = true ∧ refsP N h i
    | _ => refsP N h i
def refsB (N : Nat) : Blk → Prop
  | .cells cs _ _ => cs.all (refsOK 8 N) = true
  | .map _ vs => vs.all (refsOK 8 N) = true
  | _ => True
/-- The blocks below, the same in both. -/
def EqBlks (h1 h2 : Heap) : Nat → Prop
  | 0 => True
  | i + 1 => match h1.get i, h2.get i with
    | none, none => EqBlks h1 h2 i
    | a, b => a = b ∧ EqBlks h1 h2 i
theorem EqBlks.get {h1 h2 : Heap} : ∀ {N : Nat}, EqBlks h1 h2 N → ∀ i, i < N → h1.get i = h2.get i
  | 0, _, i, hi => absurd hi (Nat.not_lt_zero _)
  | N + 1, h, i, hi => by
    simp only [EqBlks] at h
    split at h
    · rename_i e1 e2
      rcases Nat.lt_or_ge i N with k | k
      · exact h.get i k
      · obtain rfl : i = N := by omega
        rw [e1, e2]
    · rcases Nat.lt_or_ge i N with k | k
      · exact h.2.get i k
      · obtain rfl : i = N := by omega
        exact h.1
theorem refsP_get {N : Nat} {hp : Heap} : ∀ {k : Nat}, refsP N hp k → ∀ i, i < k → ∀ b, hp.get i = some b → refsB N b
  | 0, _, i, hi, _, _ => absurd hi (Nat.not_lt_zero _)
  | k + 1, h, i, hi, b, hb => by
    have rest : refsP N hp k := by
      simp only [refsP] at h
      split at h
      · exact h.2
      · exact h.2
      · exact h
    rcases Nat.lt_or_ge i k with q | q
    · exact refsP_get rest i q b hb
    · obtain rfl : i = k := by omega
      simp only [refsP] at h
      rw [hb] at h
      cases b <;> first | exact h.1 | trivial

theorem HRel.trim {σ : Sg} {h h2 : Heap} {w : World} (H : HRel P B w0 σ h w) (hg : P.globals.size ≤ h2.next) (he : EqBlks h h2 h2.next) (hr : refsP h2.next h2 h2.next) : HRel P B w0 (σ.trim h2.next) h2 w := by
  have lt : ∀ {i : Nat} {b : Blk}, h2.get i = some b → i < h2.next := fun hb => Heap.lt_of_get hb
  have old : ∀ {i : Nat} {b : Blk}, h2.get i = some b → h.get i = some b := fun {i b} hb => by rw [he.get i (lt hb)]; exact hb
  have loc : ∀ {i : Nat} {b : Blk}, i < h2.next → b.loc (σ.trim h2.next) i = b.loc σ i := fun {i b} hi => by
    cases b with
    | cells cs t m => cases m <;> simp [Blk.loc, Sg.trim_lt hi]
    | own n t => simp [Blk.loc, Sg.trim_T hi]
    | _ => simp [Blk.loc, Sg.trim_lt hi]
  refine ⟨H.below, H.size, fun i x hx => ?_, fun i x hx => ?_, fun g hg' => ?_, fun i b hb => ?_, fun i j bi bj b hi hj li lj hB => ?_, H.frz, H.old, fun i n x hx => ?_⟩
  · rcases Nat.lt_or_ge i h2.next with k | k
    · exact k
    · simp [Sg.trim, show ¬ i < h2.next by omega] at hx
  · rcases Nat.lt_or_ge i h2.next with k | k
    · rw [Sg.trim_lt k] at hx; exact H.codom i x hx
    · simp [Sg.trim, show ¬ i < h2.next by omega] at hx
  · rw [Sg.trim_lt (by omega)]; exact H.glob g hg'
  · have hi := lt hb
    have hB := H.blk i b (old hb)
    have hrb := refsP_get hr i hi b hb
    have lr : ∀ {l l' : List Value}, l.all (refsOK 8 h2.next) = true → LRel σ l l' → LRel (σ.trim h2.next) l l' := fun hl k => k.all_of (VRel.trim 8) hl
    cases b with
    | cells cs t m => cases m with
      | ro => obtain ⟨b, o, cc, t', fz, h1, h2', h3, h4, h5⟩ := hB; exact ⟨b, o, cc, t', fz, by rw [Sg.trim_lt hi]; exact h1, h2', h3, h4, lr hrb h5⟩
      | fix => obtain ⟨b, cc, t', fz, h1, h2', h3, h4, h5, h6⟩ := hB; exact ⟨b, cc, t', fz, by rw [Sg.trim_lt hi]; exact h1, h2', h3, h4, lr hrb h5, h6⟩
      | grow => obtain ⟨b, es, cc, t', fz, h1, h2', h3, h4, h5, h6, h7, h8⟩ := hB; exact ⟨b, es, cc, t', fz, by rw [Sg.trim_lt hi]; exact h1, h2', h3, h4, h5, h6, lr hrb h7, h8⟩
      | dead => trivial
    | iter s pos => obtain ⟨b, h1, h2', h3, h4⟩ := hB; exact ⟨b, by rw [Sg.trim_lt hi]; exact h1, h2', h3, h4⟩
    | own n t =>
      rcases hB with ⟨h1, h2'⟩ | ⟨b, cc, t', fz, h1, h2', h3, h4, h5, h6, h7, h8⟩
      · exact .inl ⟨h1, fun m => by rw [Sg.trim_T hi]; exact h2' m⟩
      · exact .inr ⟨b, cc, t', fz, by rw [Sg.trim_T hi]; exact h1, fun m x hx => h2' m x (by rw [Sg.trim_T hi] at hx; exact hx), h3, h4, h5, h6, h7, h8⟩
    | map ks vs =>
      obtain ⟨b, es, cl, h1, h2', h3, h4, h5, h6, h7⟩ := hB
      refine ⟨b, es, cl, by rw [Sg.trim_lt hi]; exact h1, h2', h3, ?_, lr hrb h5, h6, h7⟩
      rw [flats_eq h4 h7]; exact flats_rel h7 _
  · rw [loc (lt hi)] at li; rw [loc (lt hj)] at lj
    exact H.inj i j bi bj b (old hi) (old hj) li lj hB
  · rcases Nat.lt_or_ge i h2.next with k | k
    · exact k
    · simp [Sg.trim, show ¬ i < h2.next by omega] at hx

theorem Sg.le_trim {σ0 σ : Sg} {N : Nat} (hle : σ0.le σ) (hd : ∀ i x, σ0 i = some x → i < N) (hT : ∀ i n x, σ0.T i n = some x → i < N) : σ0.le (σ.trim N) :=
  ⟨fun i x hx => by rw [Sg.trim_lt (hd i x hx)]; exact hle.pl i x hx, hle.f, fun i n x hx => by rw [Sg.trim_T (hT i n x hx)]; exact hle.T i n x hx⟩

/-- A frame: what is outside W was there before; what S says of W leads to nothing new; of the rest something is known. -/
theorem LRel.trim {σ0 σ : Sg} {N : Nat} (hd : ∀ i x, σ0 i = some x → i < N) (hT : ∀ i n x, σ0.T i n = some x → i < N) {ts ts' l l' : List Value} (h0 : LRel σ0 ts l) (h : LRel σ ts' l') (good : Nat → Bool)
    (hg : ∀ i, good i = true → i < ts'.length → refsOK 8 N (ts'.getD i Go.undef) = true ∨ ts'.getD i Go.undef = ts.getD i Go.undef) : ∃ ts2, LRel (σ.trim N) ts2 l' ∧ ts2.length = ts'.length ∧ ∀ i, good i = true → ts2.getD i Go.undef = ts'.getD i Go.undef := by
  have key : ∀ i, i < ts'.length → ∃ v2, VRel (σ.trim N) v2 (l'.getD i Go.undef) ∧ (good i = true → v2 = ts'.getD i Go.undef) := fun i hi => by
    have hv := h.getD i
    cases hgd : good i with
    | false => obtain ⟨v2, k⟩ := hv.blank N; exact ⟨v2, k, fun e => by cases e⟩
    | true =>
      rcases hg i hgd hi with k | k
      · exact ⟨_, VRel.trim 8 _ _ k hv, fun _ => rfl⟩
      · rw [k] at hv ⊢
        exact ⟨_, VRel.rebase hd hT (h0.getD i) hv, fun _ => rfl⟩
  obtain ⟨a, h1, h2⟩ := exists_array (n := ts'.length) (p := fun i v => VRel (σ.trim N) v (l'.getD i Go.undef) ∧ (good i = true → v = ts'.getD i Go.undef)) key
  refine ⟨a.toList, LRel.of_getD (by simp [h1, h.len]) fun j hj => ?_, by simp [h1], fun i hi => ?_⟩
  · have := (h2 j (by simpa [h1] using hj)).1
    simpa using this
  · rcases Nat.lt_or_ge i ts'.length with k | k
    · have := (h2 i k).2 hi
      simpa using this
    · have e1 : a.toList[i]? = none := by simp [h1]; omega
      have e2 : ts'[i]? = none := by simp; omega
      simp [List.getD, e1, e2]

/-- A loop: what holds at each round's head; what a round made is forgotten at its end. -/
theorem WpS.loop_trim {a : Code} {ts : List Value} {h : Heap} {Q : Ex → List Value → Heap → Prop} (I : Nat → List Value → Heap → Prop) (n : Nat) (h0 : I n ts h)
    (hstep : ∀ (n : Nat) (ts : List Value) (h : Heap), I n ts h → WpS P a ts h fun x ts' h' => match x with
      | .normal => ∃ (good : Nat → Bool) (h2 : Heap), h2.next = h.next ∧ EqBlks h' h2 h.next ∧ refsP h.next h2 h.next ∧
          (∀ i, good i = true → i < ts'.length → refsOK 8 h.next (ts'.getD i Go.undef) = true ∨ ts'.getD i Go.undef = ts.getD i Go.undef) ∧
          ∀ ts2 : List Value, ts2.length = ts'.length → (∀ i, good i = true → ts2.getD i Go.undef = ts'.getD i Go.undef) → ∃ m, m < n ∧ I m ts2 h2
      | x => Q x ts' h') : WpS P (.loop a) ts h Q := fun B w0 σ act w H hts hd => by
  have key : ∀ (n : Nat) (ts : List Value) (h : Heap) (σ : Sg) (act : Act) (w : World), I n ts h → HRel P B w0 σ h w → LRel σ ts act.tmps.toList → act.defers = [] → Code.rounds P a (AfterS P B w0 σ Q) (n + 1) act w := fun n => by
    induction n using Nat.strongRecOn with
    | _ n ih =>
      intro ts h σ act w hI H hts hd
      rw [rounds_succ]
      refine Go.wp_mono (hstep n ts h hI B w0 σ act w H hts hd) fun e a2 w2 k => ?_
      obtain ⟨x, ts', h', rfl, q, σ', k1, k2, k3, k4⟩ := k
      cases x with
      | normal =>
        obtain ⟨good, h2, q1, q2, q3, q4, q5⟩ := q
        have hdom := H.dom
        have htdom := H.tdom
        rw [← q1] at hdom htdom q2 q3 q4
        have hgl : P.globals.size ≤ h2.next := by
          rcases Nat.eq_zero_or_pos P.globals.size with h0 | h0
          · omega
          · have := hdom _ _ (H.glob (P.globals.size - 1) (by omega)); omega
        obtain ⟨ts2, r1, r2, r3⟩ := LRel.trim hdom htdom hts k2 good q4
        obtain ⟨m, hm, hI'⟩ := q5 ts2 r2 r3
        have H2 := k3.trim hgl q2 (by rw [q1] at q3 ⊢; exact q3)
        exact rounds_mono (fun _ _ _ k => k.weaken (Sg.le_trim k1 hdom htdom) fun _ _ _ h => h) (m + 1) n a2 w2 hm (ih m hm ts2 h2 (σ'.trim h2.next) a2 w2 hI' H2 r1 k4)
      | exit id => exact ⟨.exit id, ts', h', rfl, q, σ', k1, k2, k3, k4⟩
      | ret => exact ⟨.ret, ts', h', rfl, q, σ', k1, k2, k3, k4⟩
  exact wp_loop_rounds (n + 1) (key n ts h σ act w h0 H hts hd)

end Go.Ideal
