/- Texts packed together: ICore. -/
import Derived.Orders
import Derived.Below
section
/- The ideal interpreter: it runs the translated code over a heap of its own, with fuel. Plain definitions, over any program. -/
set_option linter.unusedVariables false
set_option linter.unusedSimpArgs false
namespace Go.Ideal

/-! ### runs that touch no memory -/
def pureRun {α : Type} (P : Program) : Sem α → Option α
  | .pure a => some a
  | .program k => pureRun P (k P)
  | .mark _ k => pureRun P k
  | _ => none

/-! ### the heap: a trie of blocks -/
inductive Trie (α : Type) where
  | leaf
  | node (v : Option α) (l r : Trie α)

def Trie.get {α : Type} : Trie α → Nat → Option α
  | .leaf, _ => none
  | .node v _ _, 0 => v
  | .node _ l r, n + 1 => match Nat.beq (n % 2) 0 with
    | true => l.get (n / 2)
    | false => r.get (n / 2)

def Trie.setF {α : Type} (a : α) : Nat → Trie α → Nat → Trie α
  | 0, t, _ => t
  | _ + 1, .leaf, 0 => .node (some a) .leaf .leaf
  | _ + 1, .node _ l r, 0 => .node (some a) l r
  | f + 1, .leaf, n + 1 => match Nat.beq (n % 2) 0 with
    | true => .node none (Trie.setF a f .leaf (n / 2)) .leaf
    | false => .node none .leaf (Trie.setF a f .leaf (n / 2))
  | f + 1, .node v l r, n + 1 => match Nat.beq (n % 2) 0 with
    | true => .node v (Trie.setF a f l (n / 2)) r
    | false => .node v l (Trie.setF a f r (n / 2))

def Trie.set {α : Type} (t : Trie α) (n : Nat) (a : α) : Trie α := Trie.setF a (n + 1) t n

/-- How a block may be used: only read; written, its size exact (what slices of it say of their capacity is exact); written, grown by append: it may have more room than is known. -/
inductive Mode where
  | ro | fix | grow | dead

/-- A row of a pool: memory that lies somewhere by itself; a channel; nothing any more. -/
inductive Row where
  | dead
  | cells (cs : List Value)
  | chan (cap : Nat) (buf : List Value)

/-- 'pool': rows, each of memory of its own, however many. 'own': an array that one slice alone appends to: so many cells of it are said, and stay as they are. 'map': a map's keys and values. -/
inductive Blk where
  | cells (cs : List Value) (t : TypeId) (m : Mode)
  | iter (s : ByteArray) (pos : Nat)
  | own (n : Nat) (t : TypeId)
  | map (ks vs : List Value)
  | pool (rows : List Row)

structure Heap where
  next : Nat
  tr : Trie Blk

def Heap.get (h : Heap) (i : Nat) : Option Blk := match Nat.blt i h.next with
  | true => h.tr.get i
  | false => none
def Heap.set (h : Heap) (i : Nat) (b : Blk) : Heap := { h with tr := h.tr.set i b }
def Heap.push (h : Heap) (b : Blk) : Heap := { next := h.next + 1, tr := h.tr.set h.next b }

/-! ### values -/
/-- Types from here on are no types: they mark values that stand for memory that stays as it is. -/
def isV (t : Nat) : Bool := Nat.ble 1000000 t
/-- A slice of n elements whose cells are these, for ever. -/
def vsl (n : Int) (cells : Array Value) : Value := .iface 1000000 (.tuple #[.int .i64 n, .agg cells])
/-- A pointer into cells that stay. -/
def vpt (off : Nat) (cells : Array Value) : Value := .iface 1000001 (.tuple #[.int .i64 off, .agg cells])
/-- A slice without room. -/
def vzc : Value := .iface 1000002 .nilIface
/-- What leads to memory. -/
def refLike : Value → Bool
  | .pointer (some _) | .slice (some _) _ _ | .map (some _) | .chan (some _) => true
  | _ => false
/-- Anything that leads to memory: nothing is known of it. -/
def vany : Value := .iface 1000005 .nilIface
/-- A slice that is appended to, by the token tok: elements of es cells. -/
def osl (tok es : Nat) (n : Int) (cells : Array Value) : Value := .iface 1000003 (.tuple #[.int .i64 tok, .int .i64 es, .int .i64 n, .agg cells])
/-- A slice of a pool's row: elements of es cells, from a cell on. -/
def rsl (p : Nat) (r : Nat) (es : Nat) (off : Nat) (n : Int) : Value := .iface 1000006 (.tuple #[.int .i64 p, .int .i64 r, .int .i64 es, .int .i64 off, .int .i64 n])
/-- A pointer into a pool's row. -/
def rpt (p : Nat) (r : Nat) (off : Nat) : Value := .iface 1000007 (.tuple #[.int .i64 p, .int .i64 r, .int .i64 off])
/-- A pool's channel. -/
def rch (p : Nat) (r : Nat) : Value := .iface 1000008 (.tuple #[.int .i64 p, .int .i64 r])
/-- A map that stays. -/
def vmp (ks vs : Array Value) : Value := .iface 1000004 (.tuple #[.agg ks, .agg vs])

/-- No address, no map, no channel in it. -/
def flatN : Nat → Value → Bool
  | 0, _ => false
  | n + 1, v => match v with
    | .bool _ | .int _ _ | .float _ _ | .complex _ _ _ | .string _ => true
    | .pointer none | .slice none _ _ | .map none | .chan none | .nilFunc | .nilIface => true
    | .func _ a b => a.toList.all (flatN n) && b.toList.all (flatN n)
    | .iface t v => match isV t with
      | true => false
      | false => flatN n v
    | .agg cs => cs.toList.all (flatN n)
    | .tuple cs => cs.toList.all (flatN n)
    | _ => false

def flat (v : Value) : Bool := flatN 6 v

def Value.cellList : Value → List Value
  | .agg cs => cs.toList
  | v => [v]

def evI (ts : List Value) : Operand → Value
  | .tmp t => ts.getD t undef
  | .const v => v
  | .global g => .pointer (some ⟨g, 0, none⟩)
  | .func f => .func (.func f) #[] #[]

def flatOp (ts : List Value) : Operand → Bool
  | .global _ => false
  | x => flat (evI ts x)

/-! ### types -/
def isAggI (P : Program) (t : TypeId) : Option Bool :=
  match P.underlying t with
  | some (.struct _) | some (.array _ _) => some true
  | some _ => some false
  | none => none

def sizeI (P : Program) (t : TypeId) : Option Nat := (P.info? t).map (·.size)

/-! ### reading and writing -/
def rdCells (h : Heap) (a : Addr) (n : Nat) : Option (List Value) :=
  match h.get a.block, a.spot with
  | some (.cells cs _ m), none =>
    match m with
    | .dead => none
    | _ => if a.off + n ≤ cs.length then some ((cs.drop a.off).take n) else none
  | _, _ => none

def oneCell : Value → Bool
  | .agg _ | .tuple _ => false
  | _ => true

def splice (cs : List Value) (off : Nat) (vs : List Value) : List Value := cs.take off ++ vs ++ cs.drop (off + vs.length)

def wrCells (h : Heap) (a : Addr) (vs : List Value) : Option Heap :=
  match h.get a.block, a.spot with
  | some (.cells cs t m), none =>
    match m with
    | .fix | .grow => if Nat.ble (a.off + vs.length) cs.length && vs.all oneCell then some (h.set a.block (.cells (splice cs a.off vs) t m)) else none
    | _ => none
  | _, _ => none

def loadI (P : Program) (h : Heap) (t : TypeId) (a : Addr) : Option Value :=
  match isAggI P t, sizeI P t with
  | some true, some n => (rdCells h a n).map fun cs => .agg cs.toArray
  | some false, some _ => match rdCells h a 1 with
    | some [v] => some v
    | _ => none
  | _, _ => none

def storeI (P : Program) (h : Heap) (t : TypeId) (a : Addr) (v : Value) : Option Heap :=
  match sizeI P t with
  | some n =>
    let cs := Value.cellList v
    if Nat.beq cs.length n then wrCells h a cs else none
  | none => none

def newI (h : Heap) (cs : List Value) (t : TypeId) (m : Mode) : Value × Heap :=
  (.pointer (some ⟨h.next, 0, none⟩), h.push (.cells cs t m))

/-- An element's zero cells: one after the other, so many times. -/
def zerosI (z : List Value) : Nat → List Value
  | 0 => []
  | n + 1 => z ++ zerosI z n

def zeroI (P : Program) (t : TypeId) : Option (List Value) :=
  match (P.info? t).bind (·.zero) with
  | some z => if flat z then some (Value.cellList z) else none
  | none => none

def intI : Value → Option Int
  | .int _ n => some n
  | _ => none

/-- A slice's bounds, as far as they are known. -/
def boundI (x : Option Value) (dflt most : Nat) : Option Nat :=
  match x with
  | none => some dflt
  | some v => match intI v with
    | some i => if 0 ≤ i ∧ i ≤ most then some i.toNat else none
    | none => none

def modeOf (h : Heap) (i : Nat) : Option Mode :=
  match h.get i with
  | some (.cells _ _ m) => some m
  | _ => none

/-- Low, high, and up to where there is room. -/
def boundsI (len cap : Nat) (lo hi mx : Option Value) : Option (Nat × Nat × Nat) :=
  match hi, mx with
  | none, some _ => none
  | _, _ =>
    match boundI mx cap cap with
    | none => none
    | some m => match boundI hi len m with
      | none => none
      | some hh => match boundI lo 0 hh with
        | none => none
        | some l => some (l, hh, m)

/-- x[lo:hi] or x[lo:hi:mx] of a slice, its elements of so many cells. -/
def sliceI (P : Program) (h : Heap) (size : Nat) (a : Option Addr) (len cap : Nat) (lo hi mx : Option Value) : Option Value :=
  match boundsI len cap lo hi mx with
  | none => none
  | some (l, hh, m) =>
    match a with
    | none => some (.slice none (hh - l) (m - l))
    | some ad =>
      match h.get ad.block with
      | some (.cells _ t m') => match m' with
        | .fix | .ro => some (.slice (some (if m = l then ad else ad.add (l * size))) (hh - l) (m - l))
        | .grow => match mx, sizeI P t with
          | none, some (s + 1) => if Nat.beq (s + 1) size && Nat.ble l m && Nat.ble hh m then some (.slice (some (ad.add (l * size))) (hh - l) (m - l)) else none
          | _, _ => none
        | .dead => none
      | _ => none

def zsizeI (P : Program) (t : TypeId) : Option Nat := ((P.info? t).bind (·.zero)).map (·.cells.size)

/-- append(s, new..): the new elements as cells. -/
def appendI (P : Program) (h : Heap) (elem : TypeId) (s : Value) (n : Nat) (new : List Value) : Option (Value × Heap) :=
  match P.info? elem with
  | none => none
  | some ti =>
  match ti.size, zsizeI P elem with
  | size + 1, some zs => if Nat.beq zs (size + 1) then
  match s with
  | .slice none sl cap =>
    if Nat.beq sl 0 && Nat.beq cap 0 then
      match n with
      | 0 => some (s, h)
      | n + 1 => if Nat.ble ((n + 1) * (ti.bytes + 1)) 1099511627776 then some (.slice (some ⟨h.next, 0, none⟩) (n + 1) (n + 1), h.push (.cells new elem .grow)) else none
    else none
  | .slice (some a) sl cap =>
    let need := sl + n
    if Nat.ble need cap then
      match n with
      | 0 => some (s, h)
      | _ + 1 => match wrCells h (a.add (sl * (size + 1))) new with
        | some h' => some (.slice (some a) need cap, h')
        | none => none
    else if Nat.ble (need * (ti.bytes + 1)) 1099511627776 then
      match h.get a.block with
      | some (.cells cs t m) =>
        match m with
        | .fix | .ro => match rdCells h a (sl * (size + 1)) with
          | some old => some (.slice (some ⟨h.next, 0, none⟩) need need, h.push (.cells (old ++ new) elem .grow))
          | none => none
        | .grow => match a.off, a.spot, sizeI P t with
          | 0, none, some s' => if Nat.beq s' (size + 1) && Nat.beq (sl * (size + 1)) cs.length && new.all oneCell then
              some (.slice (some ⟨h.next, 0, none⟩) need need, (h.set a.block (.cells [] t .dead)).push (.cells (cs ++ new) elem .grow)) else none
          | _, _, _ => none
        | .dead => none
      | _ => none
    else none
  | _ => none
  else none
  | _, _ => none

/-- The first so many elements of a slice or a string, as cells. -/
def firstI (h : Heap) (size n : Nat) : Value → Option (List Value)
  | .slice (some a) _ _ => match n with
    | 0 => some []
    | _ => rdCells h a (n * size)
  | .slice none _ _ => some []
  | .string s => some ((s.data.toList.take n).map fun b => .int .u8 b.toNat)
  | _ => none

def lenI : Value → Option Nat
  | .slice _ n _ => some n
  | .string s => some s.size
  | _ => none

def bytesI : List Value → Option (List UInt8)
  | [] => some []
  | .int .u8 n :: rest => (bytesI rest).map (UInt8.ofNat n.toNat :: ·)
  | _ :: _ => none

def builtinI (P : Program) (h : Heap) (b : Builtin) (argTypes : Array TypeId) (args : List Value) : Option (Value × Heap) :=
  match b, args with
  | .append, [s, x] =>
    match argTypes[0]?, argTypes[1]? with
    | some st, some xt => match P.underlying st, P.underlying xt with
      | some (.slice elem), some (.slice _) | some (.slice elem), some .string =>
        match sizeI P elem, lenI x with
        | some size, some n => match firstI h size n x with
          | some new => if Nat.beq new.length (n * size) then appendI P h elem s n new else none
          | none => none
        | _, _ => none
      | _, _ => none
    | _, _ => none
  | .copy, [d, x] =>
    match argTypes[0]? with
    | some dt => match P.underlying dt, d with
      | some (.slice elem), .slice base dl _ => match sizeI P elem, lenI x with
        | some size, some xl =>
          let n := Nat.min xl dl
          match firstI h size n x with
          | some new => match base, new with
            | none, _ => some (.int .i64 n, h)
            | some _, [] => some (.int .i64 n, h)
            | some a, new => (wrCells h a new).map fun h' => (.int .i64 n, h')
          | none => none
        | _, _ => none
      | _, _ => none
    | none => none
  | .len, [x] =>
    match argTypes[0]? with
    | some t => match P.underlying t, x with
      | some (.slice _), .slice _ n _ => some (.int .i64 n, h)
      | some .string, .string s => some (.int .i64 s.size, h)
      | some (.array n _), _ => some (.int .i64 n, h)
      | some (.pointer arr), _ => match P.underlying arr with
        | some (.array n _) => some (.int .i64 n, h)
        | _ => none
      | _, _ => none
    | none => none
  | .max, [.int k a, .int _ b] => some (.int k (if b > a then b else a), h)
  | .min, [.int k a, .int _ b] => some (.int k (if b < a then b else a), h)
  | .cap, [x] =>
    match argTypes[0]? with
    | some t => match P.underlying t, x with
      | some (.slice _), .slice none _ c => some (.int .i64 c, h)
      | some (.slice _), .slice (some a) _ c => match modeOf h a.block with
        | some .fix | some .ro => some (.int .i64 c, h)
        | _ => none
      | _, _ => none
    | none => none
  | _, _ => none

/-! ### whether two plain values are alike -/
def eqFs (P : Program) (eq : TypeId → Value → Value → Option Bool) (xs ys : Array Value) : List Field → Option Bool
  | [] => some true
  | f :: fs => match f.name == "_" with
    | true => eqFs P eq xs ys fs
    | false => match pureRun P (part f.type xs f.offset), pureRun P (part f.type ys f.offset) with
      | some a, some b => match eq f.type a b, fs with
        | some r, [] => some r
        | some r, f' :: fs' => match eqFs P eq xs ys (f' :: fs') with
          | some s => some (r && s)
          | none => none
        | none, _ => none
      | _, _ => none

def eqEs (P : Program) (eq : TypeId → Value → Value → Option Bool) (elem : TypeId) (size : Nat) (xs ys : Array Value) : Nat → Nat → Option Bool
  | _, 0 => some true
  | i, k + 1 => match pureRun P (part elem xs (i * size)), pureRun P (part elem ys (i * size)) with
    | some a, some b => match eq elem a b, k with
      | some r, 0 => some r
      | some r, k' + 1 => match eqEs P eq elem size xs ys (i + 1) (k' + 1) with
        | some s => some (r && s)
        | none => none
      | none, _ => none
    | _, _ => none

def eqD (P : Program) : Nat → TypeId → Value → Value → Option Bool
  | 0, _, _, _ => none
  | d + 1, t, x, y => match P.underlying t, x, y with
    | some (.struct fs), .agg xs, .agg ys => match P.stoodInHeld t with
      | true => none
      | false => eqFs P (eqD P d) xs ys fs.toList
    | some (.array len elem), .agg xs, .agg ys => match sizeI P elem with
      | some size => eqEs P (eqD P d) elem size xs ys 0 len
      | none => none
    | some .bool, .bool a, .bool b => some (a == b)
    | some (.int _), .int k a, .int k' b => match decide (k = k') with
      | true => some (a == b)
      | false => none
    | some .string, .string a, .string b => some (a == b)
    | _, _, _ => none

/-- At which place is a key? -/
def findI (P : Program) (kt : TypeId) (k : Value) : List Value → Nat → Option (Option Nat)
  | [], _ => some none
  | k' :: ks, i => match eqD P 10000 kt k k' with
    | some true => some (some i)
    | some false => findI P kt k ks (i + 1)
    | none => none

/-- Equality where addresses are about: with nil alone. -/
def eqNil (P : Program) (t : TypeId) (x y : Value) : Option Bool :=
  match P.underlying t, x, y with
  | some (.pointer _), .pointer (some _), .pointer none | some (.pointer _), .pointer none, .pointer (some _) => some false
  | some (.slice _), .slice (some _) _ _, .slice none _ _ | some (.slice _), .slice none _ _, .slice (some _) _ _ => some false
  | some (.func _ _ _), .nilFunc, .func _ _ _ | some (.func _ _ _), .func _ _ _, .nilFunc => some false
  | some (.interface _), .nilIface, .iface t _ | some (.interface _), .iface t _, .nilIface => match isV t with
    | true => none
    | false => some false
  | _, _, _ => none

def fieldOf (P : Program) (s : TypeId) (f : Nat) : Option Field :=
  match P.underlying s with
  | some (.struct fields) => fields[f]?
  | _ => none

/-- A part of an aggregate. -/
def partI (P : Program) (t : TypeId) (cs : List Value) (off : Nat) : Option Value :=
  match isAggI P t, sizeI P t with
  | some true, some n => some (.agg ((cs.drop off).take n).toArray)
  | some false, some _ => cs[off]?
  | _, _ => none

def fillI (place : Nat → Option (Nat × Nat)) : List Value → List (Nat × Value) → Option (List Value)
  | cells, [] => some cells
  | cells, (i, v) :: rest =>
    match place i with
    | none => none
    | some (off, size) =>
      let vs := Value.cellList v
      if Nat.beq vs.length size && Nat.ble (off + vs.length) cells.length then fillI place (splice cells off vs) rest else none

def sizesI (P : Program) : List Field → Option (List (Nat × Nat))
  | [] => some []
  | f :: rest => match sizeI P f.type, sizesI P rest with
    | some n, some l => some ((f.offset, n) :: l)
    | _, _ => none

/-- One operation that is no call of a function, on memory of the ideal heap. -/
def opB (P : Program) (o : Oper) (ts : List Value) (h : Heap) : Option (Value × Heap) :=
  match o.op with
  | .move x | .assign x => some (evI ts x, h)
  | .pick c a b => match evI ts c with
    | .bool true => some (evI ts a, h)
    | .bool false => some (evI ts b, h)
    | _ => none
  | .alloc t => match zeroI P t with
    | some z => some (newI h z t .fix)
    | none => none
  | .box t x => some (newI h (Value.cellList (evI ts x)) t .fix)
  | .build t parts =>
    match zeroI P t, P.underlying t with
    | some z, some (.struct fields) => match sizesI P fields.toList with
      | some pl => (fillI (pl[·]?) z (parts.toList.map fun p => (p.1, evI ts p.2))).map fun cs => (.agg cs.toArray, h)
      | none => none
    | some z, some (.array _ elem) => match sizeI P elem with
      | some size => (fillI (fun i => some (i * size, size)) z (parts.toList.map fun p => (p.1, evI ts p.2))).map fun cs => (.agg cs.toArray, h)
      | none => none
    | _, _ => none
  | .buildSlice t len parts =>
    match P.underlying t with
    | some (.slice elem) => match sizeI P elem, zeroI P elem with
      | some size, some z =>
        if Nat.beq z.length size && Nat.ble (len * size) 16777216 && Nat.ble parts.toList.length len then
          (fillI (fun i => some (i * size, size)) (zerosI z len) (parts.toList.map fun p => (p.1, evI ts p.2))).map fun cs =>
            (.slice (some ⟨h.next, 0, none⟩) len len, h.push (.cells cs elem .fix))
        else none
      | _, _ => none
    | _ => none
  | .load t a => match evI ts a with
    | .pointer (some ad) => (loadI P h t ad).map fun v => (v, h)
    | _ => none
  | .store t a x => match evI ts a with
    | .pointer (some ad) => (storeI P h t ad (evI ts x)).map fun h' => (undef, h')
    | _ => none
  | .nilCheck x => match evI ts x with
    | .pointer (some ad) => some (.pointer (some ad), h)
    | .iface t v => match isV t with
      | true => none
      | false => some (.iface t v, h)
    | .func (.func f) a b => some (.func (.func f) a b, h)
    | _ => none
  | .makeSlice t l c =>
    match P.underlying t with
    | some (.slice elem) => match P.info? elem, zeroI P elem, evI ts l, evI ts c with
      | some ti, some z, .int _ ln, .int _ cn =>
        if Nat.beq z.length ti.size && decide (0 ≤ ln) && decide (ln ≤ cn) && Nat.ble (cn.toNat * (ti.bytes + 1)) 1099511627776 then
          some (.slice (some ⟨h.next, 0, none⟩) ln.toNat cn.toNat, h.push (.cells (zerosI z cn.toNat) elem .fix))
        else none
      | _, _, _, _ => none
    | _ => none
  | .slice t x lo hi mx => match P.underlying t with
    | some .string => match evI ts x, mx with
      | .string s, none =>
        match boundI (hi.map (evI ts)) s.size s.size with
        | some hh => match boundI (lo.map (evI ts)) 0 hh with
          | some l => some (.string (s.extract l hh), h)
          | none => none
        | none => none
      | _, _ => none
    | some (.slice elem) => match evI ts x, sizeI P elem with
      | .slice a len cap, some size => (sliceI P h size a len cap (lo.map (evI ts)) (hi.map (evI ts)) (mx.map (evI ts))).map fun v => (v, h)
      | _, _ => none
    | some (.array n elem) => match evI ts x, sizeI P elem with
      | .pointer (some a), some size => match modeOf h a.block with
        | some .fix | some .ro => (sliceI P h size (some a) n n (lo.map (evI ts)) (hi.map (evI ts)) (mx.map (evI ts))).map fun v => (v, h)
        | _ => none
      | _, _ => none
    | _ => none
  | .fieldAddr s x f => match fieldOf P s f, evI ts x with
    | some fl, .pointer (some a) => match sizeI P fl.type with
      | some 0 | none => none
      | _ => some (.pointer (some (a.add fl.offset)), h)
    | _, _ => none
  | .indexAddr t x ix => match intI (evI ts ix), P.underlying t, evI ts x with
    | some i, some (.array len elem), .pointer (some a) => match sizeI P elem with
      | some size => if 0 ≤ i ∧ i < len then some (.pointer (some (a.add (i.toNat * size))), h) else none
      | none => none
    | some i, some (.slice elem), .slice (some a) len _ => match sizeI P elem with
      | some size => if 0 ≤ i ∧ i < len then some (.pointer (some (a.add (i.toNat * size))), h) else none
      | none => none
    | _, _, _ => none
  | .field s x f => match fieldOf P s f, evI ts x with
    | some fl, .agg cs => (partI P fl.type cs.toList fl.offset).map fun v => (v, h)
    | _, _ => none
  | .index t x ix => match intI (evI ts ix), P.underlying t, evI ts x with
    | some i, some (.array len elem), .agg cs => match sizeI P elem with
      | some size => if 0 ≤ i ∧ i < len then (partI P elem cs.toList (i.toNat * size)).map fun v => (v, h) else none
      | none => none
    | some i, some .string, .string s => if 0 ≤ i then match s.data.toList[i.toNat]? with
      | some b => some (.int .u8 b.toNat, h)
      | none => none
      else none
    | _, _, _ => none
  | .extract t i => match evI ts t with
    | .tuple vs => (vs.toList[i]?).map fun v => (v, h)
    | _ => none
  | .makeInterface t x => match P.underlying t with
    | some (.interface _) | none => none
    | _ => match isV t with
      | true => none
      | false => some (.iface t (evI ts x), h)
  | .makeFunc fn first captured => some (.func fn (first.toList.map (evI ts)).toArray (captured.toList.map (evI ts)).toArray, h)
  | .convert src dst x => match P.underlying src, P.underlying dst, evI ts x with
    | some .string, some (.slice e), .string s => match P.underlying e, sizeI P e with
      | some (.int .u8), some 1 => if Nat.ble s.size 1099511627776 then
          some (.slice (some ⟨h.next, 0, none⟩) s.size s.size, h.push (.cells (s.data.toList.map fun b => .int .u8 b.toNat) e .grow)) else none
      | _, _ => none
    | some (.slice e), some .string, .slice a n _ => match P.underlying e with
      | some (.int .u8) => match a with
        | none => some (.string .empty, h)
        | some ad => match rdCells h ad n with
          | some cs => (bytesI cs).map fun l => (.string ⟨l.toArray⟩, h)
          | none => none
      | _ => none
    | _, _, _ => if flatOp ts x then (pureRun P (convert src dst (evI ts x))).bind fun v => if flat v then some (v, h) else none else none
  | .binOp op t x y _ =>
    if flatOp ts x && flatOp ts y then (pureRun P (execOp (evI ts) o)).bind fun
      | .value v => if flat v then some (v, h) else none
      | _ => none
    else match op, eqNil P t (evI ts x) (evI ts y) with
      | .eql, some b => some (.bool b, h)
      | .neq, some b => some (.bool (!b), h)
      | _, _ => none
  | .unOp _ _ x => if flatOp ts x then (pureRun P (execOp (evI ts) o)).bind fun
      | .value v => if flat v then some (v, h) else none
      | _ => none
    else none
  | .typeAssert x _ asserted ok => match P.underlying asserted, evI ts x with
    | some (.interface _), _ | none, _ => none
    | _, .iface t v => if isV t = false ∧ t = asserted then some (if ok then .tuple #[v, .bool true] else v, h) else none
    | _, _ => none
  | .range t x => match P.underlying t, evI ts x with
    | some .string, .string s => some (.pointer (some ⟨h.next, 0, none⟩), h.push (.iter s 0))
    | _, _ => none
  | .next it true => match evI ts it with
    | .pointer (some ⟨r, 0, none⟩) => match h.get r with
      | some (.iter s pos) =>
        if pos < s.size then
          let cw := Utf8.decode s pos
          some (.tuple #[.bool true, .int .i64 pos, .int .i32 cw.1], h.set r (.iter s (pos + cw.2)))
        else some (.tuple #[.bool false], h)
      | _ => none
    | _ => none
  | .call { callee := .builtin b, args, argTypes } =>
    match builtinI P h b argTypes (args.toList.map (evI ts)) with
    | some r => some r
    | none => if args.toList.all (flatOp ts) then (pureRun P (execOp (evI ts) o)).bind fun
      | .value v => if flat v then some (v, h) else none
      | _ => none
      else none
  | _ => none

/-- Are two values the same? (Of values that hold functions it says no.) -/
def sameN : Nat → Value → Value → Bool
  | 0, _, _ => false
  | n + 1, v, v' => match v, v' with
    | .bool a, .bool b => a == b
    | .int k a, .int k' b => decide (k = k') && a == b
    | .string s, .string s' => s.data.toList == s'.data.toList
    | .pointer a, .pointer b => decide (a = b)
    | .slice a l c, .slice b l' c' => decide (a = b) && Nat.beq l l' && Nat.beq c c'
    | .nilFunc, .nilFunc => true
    | .nilIface, .nilIface => true
    | .map none, .map none => true
    | .chan none, .chan none => true
    | .iface t v, .iface t' v' => Nat.beq t t' && sameN n v v'
    | .agg cs, .agg cs' => sameL n cs.toList cs'.toList
    | .tuple cs, .tuple cs' => sameL n cs.toList cs'.toList
    | _, _ => false
where
  sameL (n : Nat) : List Value → List Value → Bool
    | [], [] => true
    | a :: l, b :: l' => sameN n a b && sameL n l l'
    | _, _ => false

/-! ### values of memory that stays -/
def asSl : Value → Option (Int × Array Value)
  | .iface t (.tuple a) => match t, a.toList with
    | 1000000, [.int _ n, .agg cs] => some (n, cs)
    | 1000003, [_, _, .int _ n, .agg cs] => some (n, cs)
    | _, _ => none
  | _ => none
def asPt : Value → Option (Nat × Array Value)
  | .iface t (.tuple a) => match t, a.toList with
    | 1000001, [.int _ off, .agg cs] => some (off.toNat, cs)
    | _, _ => none
  | _ => none
def asOs : Value → Option (Nat × Nat × Int × Array Value)
  | .iface t (.tuple a) => match t, a.toList with
    | 1000003, [.int _ tok, .int _ es, .int _ n, .agg cs] => some (tok.toNat, es.toNat, n, cs)
    | _, _ => none
  | _ => none
def asMp : Value → Option (Array Value × Array Value)
  | .iface t (.tuple a) => match t, a.toList with
    | 1000004, [.agg ks, .agg vs] => some (ks, vs)
    | _, _ => none
  | _ => none

/-- What an operation asks of values that are not known. -/
inductive Ask where
  | le (a b : Int)
  | lt (a b : Int)
  | eq (a b : Nat)
  | part (cs : List Value) (off n : Nat) (out : List Value)
  | bytes (cs : List Value) (l : List UInt8)
  | find (kt : TypeId) (k : Value) (ks : List Value) (r : Option Nat)
  | get (vs : List Value) (i : Nat) (v : Value)
  | ne (a b : Int)
  | nle (a b : Nat)
  | eqv (t : TypeId) (x y : Value) (b : Bool)
  | partv (t : TypeId) (cs : List Value) (off : Nat) (v : Value)
  | byte (s : List UInt8) (i : Nat) (b : Int)
  | ones (cs : List Value)
  | row (rows : List Row) (r off n : Nat) (out : List Value)
  | space (rows : List Row) (r n : Nat)
  | full (rows : List Row) (r n : Nat)
  | flats (cs : List Value)
/-- What stands in a pool's row. -/
def cellsAt (rows : List Row) (r : Nat) : List Value := match rows[r]? with
  | some (.cells cs) => cs
  | _ => []
def liveAt (rows : List Row) (r : Nat) : Bool := match rows[r]? with
  | some (.cells _) => true
  | _ => false

def Ask.test : Ask → Bool
  | .le a b => decide (a ≤ b)
  | .lt a b => decide (a < b)
  | .eq a b => Nat.beq a b
  | .get vs i v => match vs[i]? with
    | some v' => sameN 6 v' v
    | none => false
  | .ones cs => cs.all oneCell
  | .space rows r n => liveAt rows r && Nat.ble n (cellsAt rows r).length
  | .full rows r n => liveAt rows r && Nat.beq (cellsAt rows r).length n
  | .flats cs => cs.all flat
  | _ => false

/-- Values that lead to nothing in the ideal heap. -/
def cloN : Nat → Value → Bool
  | 0, _ => false
  | n + 1, v => match v with
    | .bool _ | .int _ _ | .float _ _ | .complex _ _ _ | .string _ => true
    | .pointer none | .slice none _ _ | .map none | .chan none | .nilFunc | .nilIface => true
    | .func _ a b => a.toList.all (cloN n) && b.toList.all (cloN n)
    | .iface t v => match isV t with
      | true => Nat.beq t 1000000 || Nat.beq t 1000001 || Nat.beq t 1000002 || Nat.beq t 1000004
      | false => cloN n v
    | .agg cs => cs.toList.all (cloN n)
    | .tuple cs => cs.toList.all (cloN n)
    | _ => false
def clo (v : Value) : Bool := cloN 6 v

def ptPart (P : Program) (t : TypeId) (off : Nat) (cs : Array Value) (told : Option Value) : Option (Value × List Ask) :=
  match isAggI P t, sizeI P t with
  | some true, some n => match told with
    | some (.agg l) => some (.agg l, [.part cs.toList off n l.toList])
    | some _ => none
    | none => some (.agg ((cs.toList.drop off).take n).toArray, [.le (off + n : Nat) cs.toList.length])
  | some false, some _ => match told with
    | some v => some (v, [.part cs.toList off 1 [v]])
    | none => match cs.toList[off]? with
      | some v => some (v, [])
      | none => none
  | _, _ => none

def nilSide (P : Program) (t : TypeId) (x y : Value) : Option (List Ask) := match P.underlying t, y with
  | some (.slice _), .slice none _ _ => match asSl x with
    | some (n, _) => some [.lt 0 n]
    | none => none
  | some (.pointer _), .pointer none => match asPt x with
    | some _ => some []
    | none => none
  | some (.map _ _), .map none => match asMp x with
    | some _ => some []
    | none => none
  | _, _ => none

/-- Operations on values of memory that stays: the answer, and what is asked. -/
def opV (P : Program) (o : Oper) (ts : List Value) (told : Option Value) : Option (Value × List Ask) :=
  match o.op with
  | .call { callee := .builtin .len, args, argTypes } => match args.toList.map (evI ts), argTypes[0]? with
    | [x], some t => match P.underlying t, asSl x with
      | some (.slice _), some (n, _) => some (.int .i64 n, [])
      | some (.map _ _), none => match asMp x with
        | some (ks, _) => some (.int .i64 ks.toList.length, [])
        | none => none
      | _, _ => none
    | _, _ => none
  | .indexAddr t x ix => match intI (evI ts ix), P.underlying t with
    | some i, some (.slice elem) => match asSl (evI ts x), sizeI P elem with
      | some (n, cs), some size => some (vpt (i.toNat * size) cs, [.le 0 i, .lt i n])
      | _, _ => none
    | some i, some (.array len elem) => match asPt (evI ts x), sizeI P elem with
      | some (off, cs), some size => some (vpt (off + i.toNat * size) cs, [.le 0 i, .lt i len])
      | _, _ => none
    | _, _ => none
  | .fieldAddr s x f => match fieldOf P s f, asPt (evI ts x) with
    | some fl, some (off, cs) => match sizeI P fl.type with
      | some 0 | none => none
      | _ => some (vpt (off + fl.offset) cs, [])
    | _, _ => none
  | .nilCheck x => match asPt (evI ts x) with
    | some (off, cs) => some (vpt off cs, [])
    | none => none
  | .buildSlice t len parts => match Nat.ble parts.toList.length len with
    | true => none
    | false => match P.underlying t with
      | some (.slice elem) => match sizeI P elem, zeroI P elem with
        | some size, some z => match Nat.beq z.length size && Nat.ble (len * size) 16777216 with
          | true => match fillI (fun i => some (i * size, size)) (zerosI z len) (parts.toList.map fun p => (p.1, evI ts p.2)) with
            | some cs => some (vsl len cs.toArray, [.flats cs])
            | none => none
          | false => none
        | _, _ => none
      | _ => none
  | .load t a => match asPt (evI ts a) with
    | some (off, cs) => ptPart P t off cs told
    | none => none
  | .slice t x lo hi mx => match P.underlying t with
    | some (.slice elem) => match asSl (evI ts x), sizeI P elem, (lo.map (evI ts)), (hi.map (evI ts)), mx.map (evI ts) with
      | some (n, cs), some size, lo, hi, none => match (match lo with | some l => intI l | none => some 0), (match hi with | some l => intI l | none => some n) with
        | some l, some hh => some (vsl (hh - l) ((cs.toList.drop (l.toNat * size)).take ((hh - l).toNat * size)).toArray, [.le 0 l, .le l hh, .le hh n])
        | _, _ => none
      | some (n, cs), some size, lo, some hi, some mx => match (match lo with | some l => intI l | none => some 0), intI hi, intI mx with
        | some 0, some 0, some 0 => some (vzc, [])
        | some l, some hh, some m => some (vsl (hh - l) ((cs.toList.drop (l.toNat * size)).take ((hh - l).toNat * size)).toArray, [.le 0 l, .le l hh, .le hh m, .le m n])
        | _, _, _ => none
      | _, _, _, _, _ => none
    | _ => none
  | .binOp .eql t x y _ => match nilSide P t (evI ts x) (evI ts y) with
    | some l => some (.bool false, l)
    | none => match nilSide P t (evI ts y) (evI ts x) with
      | some l => some (.bool false, l)
      | none => none
  | .binOp .neq t x y _ => match nilSide P t (evI ts x) (evI ts y) with
    | some l => some (.bool true, l)
    | none => match nilSide P t (evI ts y) (evI ts x) with
      | some l => some (.bool true, l)
      | none => none
  | .convert src dst x => match P.underlying src, P.underlying dst, asSl (evI ts x), told with
    | some (.slice e), some .string, some (n, cs), some (.string s) => match P.underlying e with
      | some (.int .u8) => some (.string s, [.bytes cs.toList s.data.toList, .eq n.toNat cs.toList.length])
      | _ => none
    | some (.slice e), some .string, some (n, cs), none => match P.underlying e, bytesI cs.toList with
      | some (.int .u8), some l => some (.string ⟨l.toArray⟩, [.eq n.toNat cs.toList.length])
      | _, _ => none
    | _, _, _, _ => none
  | _ => none

/-- A map's keys and values, where they are known. -/
def mapI (h : Heap) : Value → Option (List Value × List Value)
  | .map none => some ([], [])
  | .map (some i) => match h.get i with
    | some (.map ks vs) => some (ks, vs)
    | _ => none
  | x => match asMp x with
    | some (ks, vs) => some (ks.toList, vs.toList)
    | none => none
/-- Bools, integers, strings and what is made of them. -/
def plainK : Nat → Value → Bool
  | 0, _ => false
  | n + 1, v => match v with
    | .bool _ | .int _ _ | .string _ => true
    | .agg cs => cs.toList.all (plainK n)
    | _ => false
def keyOK (P : Program) (kt : TypeId) (k : Value) : Bool := (P.underlying kt).isSome && flat k && plainK 6 k && match pureRun P (Instr.checkKey true 10000 kt k), pureRun P (Instr.checkKey false 10000 kt k) with
  | some (), some () => true
  | _, _ => false
def found (ok : Bool) (v : Value) (b : Bool) : Value := if ok then .tuple #[v, .bool b] else v
/-- A key's place: found out, or told: '.int i', or nothing at all. -/
def placeI (P : Program) (kt : TypeId) (k : Value) (ks : List Value) (told : Option Value) : Option (Option Nat × List Ask) := match told with
  | none => match findI P kt k ks 0 with
    | some r => some (r, [])
    | none => none
  | some (.int _ i) => some (some i.toNat, [.find kt k ks (some i.toNat)])
  | some (.tuple a) => match a.toList with
    | [.int _ i, _] => some (some i.toNat, [.find kt k ks (some i.toNat)])
    | _ => none
  | some .nilFunc => some (none, [.find kt k ks none])
  | _ => none

/-- Operations on arrays that are appended to, and on maps. -/
def opH (P : Program) (o : Oper) (ts : List Value) (h : Heap) (told : Option Value) : Option (Value × Heap × List Ask) :=
  match o.op with
  | .call { callee := .builtin .append, args, argTypes } => match args.toList.map (evI ts), argTypes[0]?, argTypes[1]? with
    | [s, x], some st, some xt => match P.underlying st, P.underlying xt, asOs s with
      | some (.slice elem), some (.slice _), some (tok, es, n, cs) => match h.get tok, P.info? elem, zsizeI P elem with
        | some (.own m t), some ti, some zs => match Nat.beq zs ti.size && Nat.beq es ti.size && Nat.ble 1 es && Nat.beq elem t with
          | false => none
          | true => match asSl x with
            | some (k, xs) => some (osl tok es (n + k) ⟨cs.toList ++ xs.toList⟩, h.set tok (.own (m + xs.toList.length) t), [.eq cs.toList.length m, .eq xs.toList.length (k.toNat * es), .le ((n + k) * ((ti.bytes : Int) + 1)) 1099511627776, .ones xs.toList])
            | none => match lenI x with
              | some k => match firstI h es k x with
                | some new => match Nat.beq new.length (k * es) && new.all clo && new.all oneCell with
                  | true => some (osl tok es (n + (k : Int)) ⟨cs.toList ++ new⟩, h.set tok (.own (m + new.length) t), [.eq cs.toList.length m, .le ((n + (k : Int)) * ((ti.bytes : Int) + 1)) 1099511627776])
                  | false => none
                | none => none
              | none => none
        | _, _, _ => none
      | _, _, _ => none
    | _, _, _ => none
  | .call { callee := .builtin .len, args, argTypes } => match args.toList.map (evI ts), argTypes[0]? with
    | [.map (some i)], some t => match P.underlying t, h.get i with
      | some (.map _ _), some (.map ks _) => some (.int .i64 ks.length, h, [])
      | _, _ => none
    | _, _ => none
  | .call { callee := .builtin .delete, args, argTypes } => match args.toList.map (evI ts), argTypes[0]? with
    | [m, k], some t => match P.underlying t, m with
      | some (.map kt _), .map (some i) => match h.get i, keyOK P kt k with
        | some (.map ks vs), true => match placeI P kt k ks told with
          | some (some j, l) => some (.tuple #[], h.set i (.map (ks.eraseIdx j) (vs.eraseIdx j)), l)
          | some (none, l) => some (.tuple #[], h, l)
          | none => none
        | _, _ => none
      | _, _ => none
    | _, _ => none
  | .makeMap t r => match r with
    | none => some (.map (some h.next), h.push (.map [] []), [])
    | some _ => none
  | .lookup t x k ok => match P.underlying t, mapI h (evI ts x) with
    | some (.map kt et), some (ks, vs) => match keyOK P kt (evI ts k), placeI P kt (evI ts k) ks told with
      | true, some (some j, l) => match told with
        | some (.tuple a) => match a.toList with
          | [_, v] => some (found ok v true, h, .get vs j v :: l)
          | _ => none
        | _ => match vs[j]? with
          | some v => some (found ok v true, h, l)
          | none => none
      | true, some (none, l) => match (P.info? et).bind (·.zero) with
        | some z => match flat z with
          | true => some (found ok z false, h, l)
          | false => none
        | none => none
      | _, _ => none
    | _, _ => none
  | .mapUpdate t m k v | .insert t m k v => match P.underlying t, evI ts m with
    | some (.map kt _), .map (some i) => match h.get i, keyOK P kt (evI ts k) with
      | some (.map ks vs), true => match placeI P kt (evI ts k) ks told with
        | some (some j, l) => some (Go.undef, h.set i (.map ks (vs.set j (evI ts v))), .get ks j (evI ts k) :: l)
        | some (none, l) => some (Go.undef, h.set i (.map (ks ++ [evI ts k]) (vs ++ [evI ts v])), l)
        | none => none
      | _, _ => none
    | _, _ => none
  | _ => none

/-! ### pools -/
def asRs : Value → Option (Nat × Nat × Nat × Nat × Int)
  | .iface t (.tuple a) => match t, a.toList with
    | 1000006, [.int _ p, .int _ r, .int _ es, .int _ off, .int _ n] => some (p.toNat, r.toNat, es.toNat, off.toNat, n)
    | _, _ => none
  | _ => none
def asRp : Value → Option (Nat × Nat × Nat)
  | .iface t (.tuple a) => match t, a.toList with
    | 1000007, [.int _ p, .int _ r, .int _ off] => some (p.toNat, r.toNat, off.toNat)
    | _, _ => none
  | _ => none
def rowsAt (h : Heap) (p : Nat) : Option (List Row) := match h.get p with
  | some (.pool rows) => some rows
  | _ => none
def putAt (rows : List Row) (r off : Nat) (vs : List Value) : List Row := rows.set r (.cells (splice (cellsAt rows r) off vs))
/-- A row that goes on elsewhere. -/
def moveAt (rows : List Row) (r : Nat) (new : List Value) : List Row := rows.set r .dead ++ [.cells (cellsAt rows r ++ new)]

def nilSideP (P : Program) (t : TypeId) (x y : Value) : Option (List Ask) := match P.underlying t, y with
  | some (.slice _), .slice none _ _ => match asRs x with
    | some (_, _, _, _, n) => some [.lt 0 n]
    | none => none
  | some (.pointer _), .pointer none => match asRp x with
    | some _ => some []
    | none => none
  | _, _ => none

/-- Operations on pools. -/
def opP (P : Program) (o : Oper) (ts : List Value) (h : Heap) (told : Option Value) : Option (Value × Heap × List Ask) := match o.op with
  | .load t x => match asRp (evI ts x) with
    | some (p, r, off) => match rowsAt h p, isAggI P t, sizeI P t, told with
      | some rows, some true, some n, some (.agg l) => some (.agg l, h, [.row rows r off n l.toList])
      | some rows, some true, some n, none => some (.agg (((cellsAt rows r).drop off).take n).toArray, h, [.space rows r (off + n)])
      | some rows, some false, some _, some v => some (v, h, [.row rows r off 1 [v]])
      | some rows, some false, some _, none => match (cellsAt rows r)[off]? with
        | some v => some (v, h, [.space rows r (off + 1)])
        | none => none
      | _, _, _, _ => none
    | none => none
  | .store t x y => match asRp (evI ts x), sizeI P t with
    | some (p, r, off), some n => match rowsAt h p, Nat.beq (Value.cellList (evI ts y)).length n && (Value.cellList (evI ts y)).all oneCell with
      | some rows, true => some (Go.undef, h.set p (.pool (putAt rows r off (Value.cellList (evI ts y)))), [.space rows r (off + n)])
      | _, _ => none
    | _, _ => none
  | .nilCheck x => match asRp (evI ts x) with
    | some (p, r, off) => some (rpt p r off, h, [])
    | none => none
  | .fieldAddr s x f => match fieldOf P s f, asRp (evI ts x) with
    | some fl, some (p, r, off) => match sizeI P fl.type with
      | some 0 | none => none
      | _ => some (rpt p r (off + fl.offset), h, [])
    | _, _ => none
  | .indexAddr t x ix => match intI (evI ts ix), P.underlying t with
    | some i, some (.slice elem) => match asRs (evI ts x), sizeI P elem with
      | some (p, r, es, off, n), some size => match Nat.beq es size with
        | true => some (rpt p r (off + i.toNat * size), h, [.le 0 i, .lt i n])
        | false => none
      | _, _ => none
    | some i, some (.array len elem) => match asRp (evI ts x), sizeI P elem with
      | some (p, r, off), some size => some (rpt p r (off + i.toNat * size), h, [.le 0 i, .lt i len])
      | _, _ => none
    | _, _ => none
  | .slice t x none (some hi) (some mx) => match P.underlying t, asRs (evI ts x), intI (evI ts hi), intI (evI ts mx) with
    | some (.slice elem), some _, some 0, some 0 => match sizeI P elem with
      | some _ => some (vzc, h, [])
      | none => none
    | _, _, _, _ => none
  | .slice t x lo hi none => match P.underlying t, asRs (evI ts x) with
    | some (.slice elem), some (p, r, es, off, n) => match sizeI P elem, lo.map (evI ts), (match hi.map (evI ts) with | some v => intI v | none => some n) with
      | some size, none, some hh => match Nat.beq es size with
        | true => some (rsl p r es off hh, h, [.le 0 hh, .le hh n])
        | false => none
      | some size, some lv, some hh => match Nat.beq es size, intI lv with
        | true, some l => some (rsl p r es (off + l.toNat * es) (hh - l), h, [.le 0 l, .le l hh, .le hh n, .lt l n])
        | _, _ => none
      | _, _, _ => none
    | _, _ => none
  | .convert src dst x => match P.underlying src, P.underlying dst, asRs (evI ts x) with
    | some (.slice e), some .string, some (p, r, es, off, n) => match P.underlying e, rowsAt h p with
      | some (.int .u8), some rows => match Nat.beq es 1, bytesI (((cellsAt rows r).drop off).take n.toNat) with
        | true, some l => some (.string ⟨l.toArray⟩, h, [.space rows r (off + n.toNat)])
        | _, _ => none
      | _, _ => none
    | _, _, _ => none
  | .binOp .eql t x y _ => match nilSideP P t (evI ts x) (evI ts y), nilSideP P t (evI ts y) (evI ts x) with
    | some l, _ => some (.bool false, h, l)
    | none, some l => some (.bool false, h, l)
    | none, none => none
  | .binOp .neq t x y _ => match nilSideP P t (evI ts x) (evI ts y), nilSideP P t (evI ts y) (evI ts x) with
    | some l, _ => some (.bool true, h, l)
    | none, some l => some (.bool true, h, l)
    | none, none => none
  | .call { callee := .builtin .len, args, argTypes } => match args.toList.map (evI ts), argTypes[0]? with
    | [x], some t => match P.underlying t, asRs x with
      | some (.slice _), some (_, _, _, _, n) => some (.int .i64 n, h, [])
      | _, _ => none
    | _, _ => none
  | .call { callee := .builtin .append, args, argTypes } => match args.toList.map (evI ts), argTypes[0]?, argTypes[1]? with
    | [s, x], some st, some xt => match P.underlying st, P.underlying xt, asRs s with
      | some (.slice elem), some (.slice _), some (p, r, es, off, n) => match rowsAt h p, P.info? elem, zsizeI P elem with
        | some rows, some ti, some zs => match Nat.beq zs ti.size && Nat.beq es ti.size && Nat.ble 1 es && Nat.beq off 0 with
          | false => none
          | true => match asSl x with
            | some (k, xs) => some (rsl p rows.length es 0 (n + k), h.set p (.pool (moveAt rows r xs.toList)), [.full rows r (n.toNat * es), .eq xs.toList.length (k.toNat * es), .le ((n + k) * ((ti.bytes : Int) + 1)) 1099511627776, .ones xs.toList])
            | none => match lenI x with
              | some k => match firstI h es k x with
                | some new => match Nat.beq new.length (k * es) && new.all oneCell with
                  | true => some (rsl p rows.length es 0 (n + (k : Int)), h.set p (.pool (moveAt rows r new)), [.full rows r (n.toNat * es), .le ((n + (k : Int)) * ((ti.bytes : Int) + 1)) 1099511627776])
                  | false => none
                | none => none
              | none => none
        | _, _, _ => none
      | _, _, _ => none
    | _, _, _ => none
  | _ => none

/-- One operation that is no call of a function. -/
def opI (P : Program) (o : Oper) (ts : List Value) (h : Heap) : Option (Value × Heap) :=
  match opB P o ts h with
  | some r => some r
  | none => match opV P o ts none with
    | some (v, l) => match l.all Ask.test with
      | true => some (v, h)
      | false => none
    | none => match opH P o ts h none with
      | some (v, h', l) => match l.all Ask.test with
        | true => some (v, h')
        | false => none
      | none => match opP P o ts h none with
        | some (v, h', l) => match l.all Ask.test with
          | true => some (v, h')
          | false => none
        | none => none

/-- What stands in the text: no address, no variable that is not there. -/
def operandOK (P : Program) : Operand → Bool
  | .tmp _ | .func _ => true
  | .const v => flat v
  | .global g => Nat.blt g P.globals.size

def operOK (P : Program) (o : Oper) : Bool := o.op.operands.toList.all (operandOK P)

def codeOK (P : Program) : Code → Bool
  | .region _ ops _ => ops.toList.all (operOK P)
  | .seq a b => codeOK P a && codeOK P b
  | .cond c a b => operandOK P c && (codeOK P a && codeOK P b)
  | .block _ b | .loop b | .scope b => codeOK P b
  | _ => true

/-! ### control -/
inductive Ex where
  | normal
  | exit (id : Nat)
  | ret

def yieldedI (ops : List Oper) (ts : List Value) (j : Nat) : Option Bool :=
  match (ops[j]?).bind (·.dst) with
  | some t => match ts[t]? with
    | some (.bool b) => some b
    | _ => none
  | none => none

def wantedI (o : Oper) (ops : List Oper) (ts : List Value) : Bool :=
  match o.guard with
  | none => true
  | some (j, want) => match yieldedI ops ts j with
    | some b => b == want
    | none => false

def putI (ts : List Value) (dst : Option Tmp) (v : Value) : List Value :=
  match dst with
  | some d => ts.set d v
  | none => ts

abbrev CallI := FuncId → List Value → Heap → Option (Value × Heap)

/-- What is known of functions: of some, that they answer so and touch no memory; of others, what they answer in which heap. -/
structure Orc where
  pure : FuncId → Option (List Value → Option Value)
  heap : CallI

def Orc.isPure (O : Orc) (f : FuncId) : Bool := (O.pure f).isSome

/-- A call of a function: which one, and with what. -/
def calleeI (ts : List Value) (c : Call) : Option (FuncId × List Value) :=
  match c.callee with
  | .value (.func f) => some (f, c.args.toList.map (evI ts))
  | .value x => match evI ts x with
    | .func (.func f) first captured => some (f, first.toList ++ c.args.toList.map (evI ts) ++ captured.toList)
    | _ => none
  | _ => none

def operI (P : Program) (call : CallI) (o : Oper) (ts : List Value) (h : Heap) : Option (Value × Heap) :=
  match o.op with
  | .call c => match c.callee with
    | .builtin _ => opI P o ts h
    | _ => match calleeI ts c with
      | some (f, args) => call f args h
      | none => none
  | _ => opI P o ts h

/-! ### regions that draw their order -/
/-- May it make or change memory? -/
def isLoud (P : Program) (pf : FuncId → Bool) : Op → Bool
  | .move _ | .assign _ | .pick _ _ _ | .build _ _ | .load _ _ | .nilCheck _ | .binOp _ _ _ _ _ | .unOp _ _ _ | .slice _ _ _ _ _ | .fieldAddr _ _ _ | .indexAddr _ _ _
  | .field _ _ _ | .index _ _ _ | .extract _ _ | .makeInterface _ _ | .makeFunc _ _ _ | .typeAssert _ _ _ _ => false
  | .convert _ d _ => match P.underlying d with
    | some (.slice _) => true
    | _ => false
  | .call { callee := .builtin b, argTypes, .. } => match b with
    | .max | .min => false
    | .len => match (argTypes[0]?).bind P.underlying with
      | some (.map _ _) => true
      | _ => false
    | _ => true
  | .call { callee := .value (.func f), .. } => !pf f
  | .buildSlice _ len parts => Nat.ble parts.toList.length len
  | _ => true

/-- Does what it answers hang on memory? -/
def readsHeap : Op → Bool
  | .load _ _ | .slice _ _ _ _ _ | .convert _ _ _ => true
  | _ => false

def preOf (acc : List Nat) : List Edge → Nat → Nat
  | [], s => s
  | e :: r, s => preOf acc r (if Region.binds .any e then s ||| 2 ^ e.on ||| acc.getD e.on 0 else s)

/-- What must come ahead of each operation: a set of places, as bits. -/
def pres : List Oper → List Nat → List Nat
  | [], acc => acc
  | o :: r, acc => pres r (acc ++ [preOf acc o.after.toList 0])

def pairOK (P : Program) (pf : FuncId → Bool) (ops : Array Oper) (pre : List Nat) (i j : Nat) (oi oj : Oper) : Bool :=
  (pre.getD j 0).testBit i || (oi.apart ops oj && !(isLoud P pf oi.op && isLoud P pf oj.op))

def rowOK (P : Program) (pf : FuncId → Bool) (ops : Array Oper) (pre : List Nat) (i : Nat) (oi : Oper) : Nat → List Oper → Bool
  | _, [] => true
  | j, oj :: r => pairOK P pf ops pre i j oi oj && rowOK P pf ops pre i oi (j + 1) r

def edgesOK (i : Nat) (o : Oper) : Bool := o.after.toList.all fun e => !Region.binds .any e || Nat.blt e.on i

def pairsOK (P : Program) (pf : FuncId → Bool) (ops : Array Oper) (pre : List Nat) : Nat → List Oper → Bool
  | _, [] => true
  | i, oi :: r => edgesOK i oi && rowOK P pf ops pre i oi (i + 1) r && pairsOK P pf ops pre (i + 1) r

/-- What is known of an operation's coming up: was it wanted, what it answered, with which frame and heap. -/
structure Ent where
  wanted : Bool
  val : Value
  ts : List Value
  h : Heap

def heapAt (ents : List Ent) (hf : Heap) (m : Nat) : Heap := match ents[m]? with
  | some e => e.h
  | none => hf

def loudBits (P : Program) (pf : FuncId → Bool) : List Oper → Nat → List Nat
  | [], _ => []
  | o :: r, i => if isLoud P pf o.op then i :: loudBits P pf r (i + 1) else loudBits P pf r (i + 1)

/-- May operation i come up when just the loud ones below m have? -/
def feasible (pre louds : List Nat) (i m : Nat) : Bool :=
  louds.all fun l => (!(pre.getD i 0).testBit l || Nat.blt l m) && (!(pre.getD l 0).testBit i || Nat.ble m l)

def readOK (P : Program) (pre louds : List Nat) (ents : List Ent) (hf : Heap) (i : Nat) (o : Oper) (e : Ent) : Nat → Bool
  | 0 => true
  | m + 1 => (!feasible pre louds i m || match opI P o e.ts (heapAt ents hf m) with
    | some (v, _) => sameN 4 v e.val
    | none => false) && readOK P pre louds ents hf i o e m

def readsOK (P : Program) (pf : FuncId → Bool) (pre louds : List Nat) (ents : List Ent) (hf : Heap) : Nat → List Oper → List Ent → Bool
  | i, o :: r, e :: es => (!(readsHeap o.op && !isLoud P pf o.op && e.wanted) || readOK P pre louds ents hf i o e (ents.length + 1)) && readsOK P pf pre louds ents hf (i + 1) r es
  | _, _, _ => true

def isAlloc : Op → Bool
  | .alloc _ => true
  | _ => false
def isLoad : Op → Bool
  | .load _ _ => true
  | _ => false
def allocAt (all : List Oper) (l : Nat) : Bool := match all[l]? with
  | some o => isAlloc o.op
  | none => false

/-- Does each operation that reads memory stand in order to all that may change it? (What is made behind a load changes nothing for it.) -/
def readsFixed (P : Program) (pf : FuncId → Bool) (pre louds : List Nat) (all : List Oper) : Nat → List Oper → Bool
  | _, [] => true
  | i, o :: r => (!(readsHeap o.op && !isLoud P pf o.op) || louds.all fun l => (pre.getD i 0).testBit l || (pre.getD l 0).testBit i || (isLoad o.op && Nat.blt i l && allocAt all l)) && readsFixed P pf pre louds all (i + 1) r

/-- Where nothing changes memory, or all that does stands in order to what reads it, reading is free. -/
def drawStill (P : Program) (pf : FuncId → Bool) (ops : Array Oper) : Bool :=
  match loudBits P pf ops.toList 0 with
  | [] => true
  | l => readsFixed P pf (pres ops.toList []) l ops.toList 0 ops.toList

def drawReads (P : Program) (pf : FuncId → Bool) (ops : Array Oper) (ents : List Ent) (hf : Heap) : Bool :=
  drawStill P pf ops || readsOK P pf (pres ops.toList []) (loudBits P pf ops.toList 0) ents hf 0 ops.toList ents

/-- Operations, one by one; each with its own calls. -/
def opsI (P : Program) (call : Nat → CallI) (all : List Oper) : List Oper → List Value → Heap → Option (List Value × Heap)
  | [], ts, h => some (ts, h)
  | o :: rest, ts, h =>
    if wantedI o all ts then
      match operI P (call 0) o ts h with
      | some (v, h') => opsI P (fun n => call (n + 1)) all rest (putI ts o.dst v) h'
      | none => none
    else opsI P (fun n => call (n + 1)) all rest (putI ts o.dst undef) h

def opsT (P : Program) (call : Nat → CallI) (all : List Oper) : List Oper → List Value → Heap → Option (List Ent × List Value × Heap)
  | [], ts, h => some ([], ts, h)
  | o :: rest, ts, h =>
    if wantedI o all ts then
      match operI P (call 0) o ts h with
      | some (v, h') => match opsT P (fun n => call (n + 1)) all rest (putI ts o.dst v) h' with
        | some (l, r) => some (⟨true, v, ts, h⟩ :: l, r)
        | none => none
      | none => none
    else match opsT P (fun n => call (n + 1)) all rest (putI ts o.dst undef) h with
      | some (l, r) => some (⟨false, undef, ts, h⟩ :: l, r)
      | none => none

def resultI (P : Program) (ts : List Value) (h : Heap) : ResultVar → Option Value
  | .tmp t => some (ts.getD t undef)
  | .cell a t => match ts.getD a undef with
    | .pointer (some ad) => loadI P h t ad
    | _ => none

def resultsI (P : Program) (ts : List Value) (h : Heap) : List ResultVar → Option (List Value)
  | [] => some []
  | r :: rest => match resultI P ts h r, resultsI P ts h rest with
    | some v, some l => some (v :: l)
    | _, _ => none

def tupleI : List Value → Value
  | [v] => v
  | l => .tuple l.toArray

/-- A call: the body is run by 'ex'. -/
def callWith (P : Program) (O : Orc) (ex : Code → List Value → Heap → Option (Ex × List Value × Heap)) : CallI := fun f args h =>
  match O.pure f with
  | some g => match g args with
    | some v => some (v, h)
    | none => none
  | none =>
  match O.heap f args h with
  | some r => some r
  | none =>
  match P.funcs[f]? with
  | some fn => match fn.body with
    | some c => match ex c (args ++ List.replicate (fn.ntmps - args.length) undef) h with
      | some (.normal, ts, h') | some (.ret, ts, h') => match resultsI P ts h' fn.results.toList with
        | some l => some (tupleI l, h')
        | none => none
      | _ => none
    | none => if args.all flat then (pureRun P (callFunc f args.toArray)).bind fun
        | .value v => if flat v then some (v, h) else none
        | _ => none
      else none
  | none => none

def exec (P : Program) (O : Orc) : Nat → Code → List Value → Heap → Option (Ex × List Value × Heap)
  | 0, _, _, _ => none
  | n + 1, c, ts, h =>
    match c with
    | .skip | .label _ => some (.normal, ts, h)
    | .seq a b => match exec P O n a ts h with
      | some (.normal, ts', h') => exec P O n b ts' h'
      | r => r
    | .cond c a b => match evI ts c with
      | .bool true => exec P O n a ts h
      | .bool false => exec P O n b ts h
      | _ => none
    | .block id b => match exec P O n b ts h with
      | some (.exit id', ts', h') => match Nat.beq id' id with
        | true => some (.normal, ts', h')
        | false => some (.exit id', ts', h')
      | r => r
    | .loop b => match exec P O n b ts h with
      | some (.normal, ts', h') => exec P O n (.loop b) ts' h'
      | r => r
    | .exit id => some (.exit id, ts, h)
    | .scope b => exec P O n b ts h
    | .ret => some (.ret, ts, h)
    | .region _ ops draw => match draw with
      | false => match opsI P (fun _ => callWith P O (exec P O n)) ops.toList ops.toList ts h with
        | some (ts', h') => some (.normal, ts', h')
        | none => none
      | true => match opsT P (fun _ => callWith P O (exec P O n)) ops.toList ops.toList ts h with
        | some (ents, ts', h') => match pairsOK P O.isPure ops (pres ops.toList []) 0 ops.toList && drawReads P O.isPure ops ents h' with
          | true => some (.normal, ts', h')
          | false => none
        | none => none
    | _ => none

def callI (P : Program) (O : Orc) (n : Nat) : CallI := callWith P O (exec P O n)

/-- No call is answered without its text. -/
def noOrc : Orc := ⟨fun _ => none, fun _ _ _ => none⟩

def Heap.empty (g : Nat) : Heap := ⟨g, .leaf⟩

end Go.Ideal

end
