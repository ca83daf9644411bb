/- Memory that is read for a while, or from now on, as memory that stays. Over any program. -/
import Derived.Test.YtepijhnfeafmaaaIPure
set_option linter.unusedVariables false
set_option linter.unusedSimpArgs false
namespace Go.Ideal
open Go.RowKit

def borL (f : Value → Option Value) : List Value → Option (List Value)
  | [] => some []
  | v :: l => match f v, borL f l with
    | some v', some l' => some (v' :: l')
    | _, _ => none

/-- Values of memory that stays, and what is appended to. -/
def borF (t : TypeId) (u : Value) : Option Value := match asOs (.iface t u) with
  | some (_, _, m, cells) => some (vsl m cells)
  | none => match Nat.beq t 1000000 || Nat.beq t 1000001 || Nat.beq t 1000002 || Nat.beq t 1000004 with
    | true => some (.iface t u)
    | false => none

/-- A value, the memory behind it read as it stands now. -/
def borV (mp : Bool) : Nat → Heap → Value → Option Value
  | 0, _, _ => none
  | n + 1, h, v => match v with
    | .bool b => some (.bool b)
    | .int k x => some (.int k x)
    | .float k x => some (.float k x)
    | .complex k x y => some (.complex k x y)
    | .string s => some (.string s)
    | .pointer none => some (.pointer none)
    | .pointer (some ⟨i, off, none⟩) => match h.get i with
      | some (.cells cs _ .fix) | some (.cells cs _ .grow) => match borL (borV mp n h) cs with
        | some l => some (vpt off l.toArray)
        | none => none
      | _ => none
    | .slice none k c => some (.slice none k c)
    | .slice (some ⟨i, off, none⟩) k c => match Nat.beq k 0 with
      | true => some (vsl 0 #[])
      | false => match Nat.ble k c, h.get i with
        | true, some (.cells cs _ .fix) | true, some (.cells cs _ .grow) => match borL (borV mp n h) ((cs.drop off).take (k * ((cs.length - off) / c))) with
          | some l => some (vsl k l.toArray)
          | none => none
        | _, _ => none
    | .map none => some (.map none)
    | .map (some i) => match h.get i with
      | some (.map ks vs) => match mp with
        | true => some (vmp ks.toArray vs.toArray)
        | false => none
      | _ => none
    | .chan none => some (.chan none)
    | .nilFunc => some .nilFunc
    | .nilIface => some .nilIface
    | .func f a c => match borL (borV mp n h) a.toList, borL (borV mp n h) c.toList with
      | some l, some m => some (.func f l.toArray m.toArray)
      | _, _ => none
    | .iface t u => match isV t with
      | false => match borV mp n h u with
        | some u' => some (.iface t u')
        | none => none
      | true => borF t u
    | .agg cs => match borL (borV mp n h) cs.toList with
      | some l => some (.agg l.toArray)
      | none => none
    | .tuple cs => match borL (borV mp n h) cs.toList with
      | some l => some (.tuple l.toArray)
      | none => none
    | _ => none

/-- The maps' values lead to no memory. -/
def mapsP (h : Heap) : Nat → Prop
  | 0 => True
  | i + 1 => match h.get i with
    | some (.map _ vs) => vs.all flat = true ∧ mapsP h i
    | _ => mapsP h i
theorem mapsP_get {h : Heap} : ∀ {k : Nat}, mapsP h k → ∀ i, i < k → ∀ ks vs, h.get i = some (.map ks vs) → vs.all flat = true
  | 0, _, i, hi, _, _, _ => absurd hi (Nat.not_lt_zero _)
  | k + 1, hm, i, hi, ks, vs, hg => by
    have rest : mapsP h k := by
      simp only [mapsP] at hm
      split at hm
      · exact hm.2
      · exact hm
    rcases Nat.lt_or_ge i k with q | q
    · exact mapsP_get rest i q ks vs hg
    · obtain rfl : i = k := by omega
      simp only [mapsP] at hm
      rw [hg] at hm
      exact hm.1

variable {P : Program} {B : Nat} {w0 : Org} {mp : Bool}

/-- F says of all that is made since B that it stays as it stands in w. -/
structure Whole (B : Nat) (F : Fz) (w : World) : Prop where
  c : ∀ b o cc t fz v, B ≤ b → w.heap[b]? = some (.cells cc t fz) → cc[o]? = some v → F.c b o = some v
  m : ∀ b es cl, B ≤ b → w.heap[b]? = some (.map es cl) → F.m b = some es

def CellsR (F : Fz) (l l' : List Value) : Prop := l.length = l'.length ∧ ∀ j, FRel F (l.getD j Go.undef) (l'.getD j Go.undef)
theorem CellsR.nil (F : Fz) : CellsR F [] [] := ⟨rfl, fun j => by simpa using FRel.undef F⟩
theorem CellsR.cons {F : Fz} {v v' : Value} {l l' : List Value} (h : FRel F v v') (k : CellsR F l l') : CellsR F (v :: l) (v' :: l') := ⟨by simp [k.1], fun j => by
  cases j with
  | zero => simpa using h
  | succ j => simpa using k.2 j⟩
theorem CellsR.stay {F : Fz} {b o : Nat} {l l' : List Value} (h : CellsR F l l') (hF : ∀ j, j < l'.length → F.c b (o + j) = some (l'.getD j Go.undef)) : Stay F b o l.toArray :=
  ⟨l'.toArray, by simpa using h.1, fun j hj => by simpa using hF j (by simpa using hj), fun j => by simpa using h.2 j⟩

theorem borL_rel {σ : Sg} {F : Fz} {f : Value → Option Value} (hf : ∀ v v2 v', f v = some v2 → VRel σ v v' → FRel F v2 v') {l l' : List Value} (hr : LRel σ l l') : ∀ {l2 : List Value}, borL f l = some l2 → CellsR F l2 l' := by
  induction hr with
  | nil => intro l2 h; simp only [borL, Option.some.injEq] at h; subst h; exact .nil F
  | cons k _ ih =>
    intro l2 h
    simp only [borL] at h
    split at h
    · rename_i v' l'' h1 h2
      simp only [Option.some.injEq] at h; subst h
      exact .cons (hf _ _ _ h1 k) (ih h2)
    · cases h

theorem getD_of_some {l : List Value} {j : Nat} (h : j < l.length) : l[j]? = some (l.getD j Go.undef) := by simp [List.getD, List.getElem?_eq_getElem h]

theorem asOs_asSl {v : Value} {tok es : Nat} {m : Int} {cells : Array Value} (h : asOs v = some (tok, es, m, cells)) : asSl v = some (m, cells) := by
  unfold asOs at h
  unfold asSl
  split at h
  · split at h
    · rename_i e
      simp only [Option.some.injEq, Prod.mk.injEq] at h
      obtain ⟨_, _, rfl, rfl⟩ := h
      simp only [e]
    · cases h
  · cases h
theorem borF_rel {σ : Sg} {t : TypeId} {u v2 v' : Value} (ht : isV t = true) (he : borF t u = some v2) (hv : VRel σ (.iface t u) v') : FRel σ.f v2 v' := by
  unfold borF at he
  cases ha : asOs (.iface t u) with
  | some x =>
    obtain ⟨tok, es, m, cells⟩ := x
    rw [ha] at he
    simp only [Option.some.injEq] at he
    subst he
    obtain ⟨n', e, ⟨a', c', rfl, e2, rfl⟩ | ⟨b, o, c', rfl, hc, hst⟩⟩ := asSl_rel (asOs_asSl ha) hv
    · subst e; subst e2; exact .vnil a' c'
    · subst e
      exact hst.vsl hc
  | none =>
    rw [ha] at he
    simp only at he
    split at he
    · simp only [Option.some.injEq] at he
      subst he
      generalize hx : Value.iface t u = x at hv ha
      cases hv with
      | iface _ ht' _ => cases hx; rw [ht] at ht'; cases ht'
      | frz _ _ hf => exact hf
      | osnil => simp [asOs, osl] at ha
      | osome => simp [asOs, osl] at ha
      | _ => cases hx
    · cases he

theorem flat_clo : ∀ (n : Nat) {v : Value}, flatN n v = true → cloN n v = true
  | 0, v, h => by simp [flatN] at h
  | n + 1, v, h => by
    have lst : ∀ {l : List Value}, l.all (flatN n) = true → l.all (cloN n) = true := fun h => List.all_eq_true.2 fun x hx => flat_clo n (List.all_eq_true.1 h x hx)
    cases v with
    | pointer a => cases a <;> first | rfl | simp [flatN] at h
    | slice a x y => cases a <;> first | rfl | simp [flatN] at h
    | map r => cases r <;> first | rfl | simp [flatN] at h
    | chan r => cases r <;> first | rfl | simp [flatN] at h
    | func fn a c => simp only [flatN, Bool.and_eq_true] at h; simp only [cloN, Bool.and_eq_true]; exact ⟨lst h.1, lst h.2⟩
    | iface t u =>
      cases ht : isV t with
      | true => simp [flatN, ht] at h
      | false => simp only [flatN, ht] at h; simp only [cloN, ht]; exact flat_clo n h
    | agg cs => simp only [flatN] at h; simp only [cloN]; exact lst h
    | tuple cs => simp only [flatN] at h; simp only [cloN]; exact lst h
    | _ => rfl
theorem flatN_frel : ∀ (n : Nat) {v : Value}, flatN n v = true → ∀ F, FRel F v v := fun n v h F => clo_frel n (flat_clo n h) (flatN_rel n h ⟨fun _ => none, F, fun _ _ => none⟩)
theorem flat_frel {l : List Value} (h : l.all flat = true) (F : Fz) (j : Nat) : FRel F (l.getD j Go.undef) (l.getD j Go.undef) := by
  rcases Nat.lt_or_ge j l.length with k | k
  · refine flatN_frel 6 (List.all_eq_true.1 h _ ?_) F
    simp only [List.getD, List.getElem?_eq_getElem k, Option.getD_some]; exact List.getElem_mem k
  · simp only [List.getD, List.getElem?_eq_none k, Option.getD_none]; exact FRel.undef F

theorem borV_rel {σ : Sg} {h : Heap} {w : World} (H : HRel P B w0 σ h w) {F : Fz} (hle : σ.f.le F) (hW : Whole B F w) (hm : mp = true → mapsP h h.next) : ∀ (n : Nat) (v v2 v' : Value), borV mp n h v = some v2 → VRel σ v v' → FRel F v2 v'
  | 0, _, _, _, he, _ => by cases he
  | n + 1, v, v2, v', he, hv => by
    have ih := borV_rel H hle hW hm n
    have lst : ∀ {l l' l2 : List Value}, LRel σ l l' → borL (borV mp n h) l = some l2 → CellsR F l2 l' := fun hr he => borL_rel ih hr he
    have cells : ∀ {b off : Nat} {cc : Array Value} {t : TypeId} {fz : Nat × Nat} {ms : List Value} {k : Nat}, B ≤ b → w.heap[b]? = some (.cells cc t fz) → ms = ((cc.toList.take k).drop off) → ∀ j, j < ms.length → F.c b (off + j) = some (ms.getD j Go.undef) := fun {b off cc t fz ms k} hB hb e j hj => by
      subst e
      refine hW.c b _ cc t fz _ hB hb ?_
      have := getD_of_some hj
      rw [← this, List.getElem?_drop, List.getElem?_take, if_pos (by simp at hj; omega)]
      simp
    have blk : ∀ {i off : Nat} {cs : List Value} {t : TypeId} {m : Mode} {l : List Value} {x : Spot} (K : Nat), σ i = some x → h.get i = some (.cells cs t m) → m = .fix ∨ m = .grow → borL (borV mp n h) ((cs.drop off).take K) = some l → x.o = 0 ∧ Stay F x.b off l.toArray := fun {i off cs t m l x} K hi hg hm hb => by
      have hB := H.blk _ _ hg
      rcases hm with rfl | rfl
      · obtain ⟨b, cc, t', fz, h1, h2, h3, h4, h5, _⟩ := hB
        rw [hi] at h1; cases h1
        refine ⟨rfl, (lst ((h5.drop off).take K) hb).stay ?_⟩
        intro j hj
        have hj2 : j < (cc.toList.drop off).length := by simp at hj ⊢; omega
        have := cells (off := off) (ms := cc.toList.drop off) (k := cc.size) h2 h3 (by rw [← Array.length_toList, List.take_length]) j hj2
        rw [this]
        have e1 := getD_of_some hj
        have e2 := getD_of_some hj2
        rw [List.getElem?_take, if_pos (by simp at hj; omega)] at e1
        rw [← e1, ← e2]
      · obtain ⟨b, es, cc, t', fz, h1, h2, h3, h4, h5, h6, h7, _⟩ := hB
        rw [hi] at h1; cases h1
        refine ⟨rfl, (lst ((h7.drop off).take K) hb).stay ?_⟩
        intro j hj
        have hj2 : j < ((cc.toList.take cs.length).drop off).length := by simp at hj ⊢; omega
        have := cells (off := off) (ms := (cc.toList.take cs.length).drop off) (k := cs.length) h3 h4 rfl j hj2
        rw [this]
        have e1 := getD_of_some hj
        have e2 := getD_of_some hj2
        rw [List.getElem?_take, if_pos (by simp at hj; omega)] at e1
        rw [← e1, ← e2]
    have ptr : ∀ {i off : Nat} {cs : List Value} {t : TypeId} {m : Mode}, v = .pointer (some ⟨i, off, none⟩) → h.get i = some (.cells cs t m) → m = .fix ∨ m = .grow → (match borL (borV mp n h) cs with | some l => some (vpt off l.toArray) | none => none) = some v2 → FRel F v2 v' := fun {i off cs t m} ev hg hm he2 => by
      subst ev
      split at he2
      · rename_i l hl
        simp only [Option.some.injEq] at he2; subst he2
        cases hv with
        | ptr hi =>
          have hl' : borL (borV mp n h) ((cs.drop 0).take cs.length) = some l := by rw [List.drop_zero, List.take_length]; exact hl
          obtain ⟨e0, st⟩ := blk cs.length hi hg hm hl'
          simp only at e0; subst e0
          exact st.vpt off
      · cases he2
    have sli : ∀ {i off k c : Nat} {cs : List Value} {t : TypeId} {m : Mode}, v = .slice (some ⟨i, off, none⟩) k c → Nat.beq k 0 = false → Nat.ble k c = true → h.get i = some (.cells cs t m) → m = .fix ∨ m = .grow → (match borL (borV mp n h) ((cs.drop off).take (k * ((cs.length - off) / c))) with | some l => some (vsl k l.toArray) | none => none) = some v2 → FRel F v2 v' := fun {i off k c cs t m} ev hk hkc hg hm he2 => by
      subst ev
      split at he2
      · rename_i l hl
        simp only [Option.some.injEq] at he2; subst he2
        have hkc := Nat.le_of_ble_eq_true hkc
        cases hv with
        | sfix hi =>
          obtain ⟨e0, st⟩ := blk _ hi hg hm hl
          simp only at e0; subst e0
          rw [Nat.zero_add]
          exact st.vsl hkc
        | sgrown hi hc hz =>
          obtain ⟨e0, st⟩ := blk _ hi hg hm hl
          rw [Nat.zero_add]
          exact st.vsl (Nat.le_trans hkc hc)
        | sloose hi ho => simp at hk
      · cases he2
    unfold borV at he
    split at he
    · cases he; cases hv; exact .bool _
    · cases he; cases hv; exact .int _ _
    · cases he; cases hv; exact .float _ _
    · cases he; cases hv; exact .complex _ _ _
    · cases he; cases hv; exact .string _
    · cases he; cases hv; exact .pnil
    · split at he
      · rename_i hg; exact ptr rfl hg (.inl rfl) he
      · rename_i hg; exact ptr rfl hg (.inr rfl) he
      · cases he
    · cases he; cases hv; exact .snil _ _
    · split at he
      · rename_i hk
        have hk := Nat.eq_of_beq_eq_true hk
        subst hk
        cases he
        cases hv with
        | sfix _ => exact .vnil _ _
        | sgrown _ _ _ => exact .vnil _ _
        | sloose _ _ => exact .vnil _ _
      · rename_i hk
        split at he
        · rename_i hkc hg; exact sli rfl hk hkc hg (.inl rfl) he
        · rename_i hkc hg; exact sli rfl hk hkc hg (.inr rfl) he
        · cases he
    · cases he; cases hv; exact .mnil
    · split at he
      · rename_i ks vs hg
        split at he
        · cases he
          obtain ⟨b, es, cl, h1, h2, h3, h4, h5, _, h7⟩ := H.blk _ _ hg
          cases hv with
          | mptr hi =>
            rw [hi] at h1; cases h1
            have hvf := mapsP_get (hm rfl) _ (Heap.lt_of_get hg) _ _ hg
            have q1 : CellsR F ks (es.toList.map (·.key)) := ⟨h4.len, fun j => by
              have := flats_eq h4 h7
              rw [this]; exact flat_frel h7 F j⟩
            have q2 : CellsR F vs (es.toList.map (·.val)) := ⟨h5.len, fun j => by
              have := flats_eq h5 hvf
              rw [this]; exact flat_frel hvf F j⟩
            refine .vmp (by simpa using h7) (by simpa using q1.1) (by simpa using q2.1) (hW.m _ _ _ h2 h3) (fun j => ?_) fun j => ?_
            · have := q1.2 j; simpa [List.getD, Array.getD_eq_getD_getElem?] using this
            · have := q2.2 j; simpa [List.getD, Array.getD_eq_getD_getElem?] using this
        · cases he
      · cases he
    · cases he; cases hv; exact .cnil
    · cases he; cases hv; exact .nilFunc
    · cases he; cases hv; exact .nilIface
    · split at he
      · rename_i l m hl hm
        cases he
        cases hv with
        | func _ ha hc h1 h2 =>
          obtain ⟨_, k1, k2⟩ := VRel.func_lists (.func (.func 0) ha hc h1 h2)
          have q1 := lst k1 hl
          have q2 := lst k2 hm
          exact .func _ (by simpa using q1.1) (by simpa using q2.1) (fun j => by simpa using q1.2 j) fun j => by simpa using q2.2 j
      · cases he
    · split at he
      · rename_i ht
        split at he
        · rename_i u' hu
          cases he
          cases hv with
          | iface _ _ hh => exact .iface _ ht (ih _ _ _ hu hh)
          | frz _ ht' _ => rw [ht] at ht'; cases ht'
          | osnil => simp [isV] at ht
          | osome => simp [isV] at ht
        · cases he
      · rename_i ht
        exact (borF_rel ht he hv).mono hle
    · split at he
      · rename_i l hl
        cases he
        cases hv with
        | agg ha hh =>
          have q := lst (VRel.agg_list (.agg ha hh)) hl
          exact .agg (by simpa using q.1) fun j => by simpa using q.2 j
      · cases he
    · split at he
      · rename_i l hl
        cases he
        cases hv with
        | tuple ha hh =>
          have q := lst (VRel.tuple_list (.tuple ha hh)) hl
          exact .tuple (by simpa using q.1) fun j _ => by simpa using q.2 j
      · cases he
    · cases he

/-- All memory, as it stands. -/
def memAll (w : World) : Fz := ⟨fun b o => match w.heap[b]? with
  | some (.cells cc _ _) => cc[o]?
  | _ => none, fun b => match w.heap[b]? with
  | some (.map es _) => some es
  | _ => none⟩
theorem memAll_ok (w : World) : FzOK (memAll w) w := by
  refine ⟨fun b o v h => ?_, fun b es h => ?_⟩
  · simp only [memAll] at h
    split at h
    · rename_i cc t fz e; exact ⟨cc, t, fz, e, h⟩
    · cases h
  · simp only [memAll] at h
    split at h
    · rename_i es' cl e; cases h; exact ⟨cl, e⟩
    · cases h
theorem memAll_whole (B : Nat) (w : World) : Whole B (memAll w) w := ⟨fun b o cc t fz v _ hb hv => by simp only [memAll, hb]; exact hv, fun b es cl _ hb => by simp only [memAll, hb]⟩
theorem FzOK.le_all {F : Fz} {w : World} (h : FzOK F w) : F.le (memAll w) := ⟨fun b o v hv => by
  obtain ⟨cc, t, fz, k1, k2⟩ := h.c b o v hv
  simp only [memAll, k1]; exact k2, fun b es he => by
  obtain ⟨cl, k⟩ := h.m b es he
  simp only [memAll, k]⟩

theorem CellsR.lrel {τ : Sg} {l l' : List Value} (h : CellsR τ.f l l') : LRel τ l l' := LRel.of_getD h.1 fun j _ => (h.2 j).vrel

/-- A call that leaves memory alone, of what it is handed seen as it stands: its answer leads to no memory. -/
theorem CallS.borrow {f : FuncId} {args args2 : List Value} {h : Heap} {v : Value} (hk : CallK P f args2 v) (hb : borL (borV false 8 h) args = some args2) (hv : flat v = true) : CallS P f args h fun v1 h1 => v1 = v ∧ h1 = h := fun B w0 σ w args' H hargs => by
  have hF := memAll_ok w
  have hle := H.frz.le_all
  have H0 := HRel.start (P := P) (Nat.le_refl _) w H.globs hF
  have ha := borL_rel (borV_rel H hle (memAll_whole B w) (fun e => by cases e) 8) hargs hb
  refine (hk (Heap.empty P.globals.size) w.heap.size ⟨w, memAll w⟩ (Sg.start P.globals.size (memAll w)) w args' H0 (CellsR.lrel (τ := Sg.start P.globals.size (memAll w)) ha)).mono fun e w' ⟨v1, v', h1, k1, k2, σ', k3, k4, k5⟩ => ?_
  obtain ⟨rfl, _⟩ := k2
  obtain rfl := flat_eq hv k4
  have hb' := k5.below
  have hs := H.size
  refine ⟨v', v', h, k1, ⟨rfl, rfl⟩, σ, Sg.le_refl σ, flat_rel hv σ, ⟨H.below.trans (hb'.mono hs), Nat.le_trans hs hb'.size, H.dom, fun i x hx => Nat.lt_of_lt_of_le (H.codom i x hx) hb'.size, H.glob, fun i b hg => ?_, H.inj, ?_, H.old, H.tdom⟩⟩
  · exact (H.blk i b hg).same fun b' hl => hb'.block _ (H.blk_lt hg hl)
  · refine ⟨fun b o v hv => ?_, fun b es he => ?_⟩
    · obtain ⟨cc, t, fz, q1, q2⟩ := H.frz.c b o v hv
      exact ⟨cc, t, fz, by rw [hb'.block _ (Array.getElem?_eq_some_iff.1 q1).1]; exact q1, q2⟩
    · obtain ⟨cl, q⟩ := H.frz.m b es he
      exact ⟨cl, by rw [hb'.block _ (Array.getElem?_eq_some_iff.1 q).1]; exact q⟩

/-- From now on nothing is written: all that was made stays. -/
theorem Weak.freeze {vs vs2 : List Value} {h : Heap} (hm : mapsP h h.next) (hb : borL (borV true 8 h) vs = some vs2) : Weak P vs h vs2 ⟨h.next, .leaf⟩ := fun B w0 σ w l H hl => by
  let F2 : Fz := ⟨fun b o => if b < B then σ.f.c b o else (memAll w).c b o, fun b => if b < B then σ.f.m b else (memAll w).m b⟩
  have hle : σ.f.le F2 := ⟨fun b o v hv => by
    show (if b < B then σ.f.c b o else (memAll w).c b o) = some v
    split
    · exact hv
    · exact H.frz.le_all.c _ _ _ hv, fun b es he => by
    show (if b < B then σ.f.m b else (memAll w).m b) = some es
    split
    · exact he
    · exact H.frz.le_all.m _ _ he⟩
  have hW : Whole B F2 w := ⟨fun b o cc t fz v hB hb hv => by
    show (if b < B then σ.f.c b o else (memAll w).c b o) = some v
    rw [if_neg (by omega)]; exact (memAll_whole B w).c b o cc t fz v hB hb hv, fun b es cl hB hb => by
    show (if b < B then σ.f.m b else (memAll w).m b) = some es
    rw [if_neg (by omega)]; exact (memAll_whole B w).m b es cl hB hb⟩
  have hget : ∀ i, Heap.get ⟨h.next, .leaf⟩ i = none := fun i => by
    unfold Heap.get
    split
    · exact Trie.get_leaf i
    · rfl
  have hr := borL_rel (borV_rel H hle hW (fun _ => hm) 8) hl hb
  refine ⟨{ σ with f := F2 }, ⟨fun _ _ h => h, hle, fun _ _ _ h => h⟩, ⟨H.below, H.size, H.dom, H.codom, H.glob, fun i b hg => (by rw [hget] at hg; cases hg), fun i j bi bj b hi => (by rw [hget] at hi; cases hi), ⟨fun b o v hv => ?_, fun b es he => ?_⟩, fun b hb => ?_, H.tdom⟩, CellsR.lrel (τ := { σ with f := F2 }) hr⟩
  · have hv : (if b < B then σ.f.c b o else (memAll w).c b o) = some v := hv
    split at hv
    · exact H.frz.c b o v hv
    · exact (memAll_ok w).c b o v hv
  · have he : (if b < B then σ.f.m b else (memAll w).m b) = some es := he
    split at he
    · exact H.frz.m b es he
    · exact (memAll_ok w).m b es he
  · obtain ⟨q1, q2⟩ := H.old b hb
    refine ⟨?_, ?_⟩
    · rw [← q1]; funext o; exact if_pos hb
    · rw [← q2]; exact if_pos hb

end Go.Ideal
