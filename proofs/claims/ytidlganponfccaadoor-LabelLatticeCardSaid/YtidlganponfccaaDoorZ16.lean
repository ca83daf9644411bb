/- Texts packed together: CComD CData. -/
import Derived.Test.YtidlganponfccaaDoorCards
import Derived.Test.YtidlganponfccaaDoorTie
import Derived.LaidMore
import Derived.Deep.DeepLaidRun
import Derived.WalkKit
import Derived.Deep.DeepHandedRow
import Derived.Lib.LaidTab
import Derived.Lib.SmallJoins
import Derived.Test.YtidlganponfccaaDoorZ15
section
/- What the closings of the tied cards share. -/
set_option linter.unusedVariables false
set_option linter.unusedSimpArgs false
namespace Go.Proofs.YtidlganponfccaaDoor
open Go Go.Ideal Go.ChangeShapes Go.WideShapes Go.ChangeAt Go.RowKit

theorem own : ownKnob Tryd.prog.godebug = none := by kernel_rfl
theorem globals8 : Tryd.prog.globals.size = 8 := by kernel_rfl
theorem globsLe {W : World} (h : W.ShapedOpen Tryd.prog) : Tryd.prog.globals.size ≤ W.heap.size := globs_le 7 globals8 (by kernel_rfl) h
theorem laidOut : laidOutB Tryd.prog = true := by kernel_rfl
theorem mapsOK : mapsRowed Tryd.prog = true := by kernel_rfl
theorem slicesOK : ((List.range Tryd.prog.types.size).all fun t => match Tryd.prog.underlying t with | some (.slice e) => decide (0 < Tryd.prog.cellsOf e) | _ => true) = true := by kernel_rfl
noncomputable def laidWorld (os : Os) : World := World.doorLaid Tryd.prog 100 os
end Go.Proofs.YtidlganponfccaaDoor

end
section
/- Configs' data as plain structures, and their cells. -/
set_option linter.unusedVariables false
set_option linter.unusedSimpArgs false
namespace Go.Proofs.YtidlganponfccaaDoor
open Go Go.Ideal

/-- A set's bytes. -/
def catsL (c : List Int) : List Value := [.int .u8 (c.getD 0 0), .int .u8 (c.getD 1 0), .int .u8 (c.getD 2 0), .int .u8 (c.getD 3 0), .int .u8 (c.getD 4 0), .int .u8 (c.getD 5 0), .int .u8 (c.getD 6 0), .int .u8 (c.getD 7 0), .int .u8 (c.getD 8 0), .int .u8 (c.getD 9 0), .int .u8 (c.getD 10 0), .int .u8 (c.getD 11 0), .int .u8 (c.getD 12 0), .int .u8 (c.getD 13 0), .int .u8 (c.getD 14 0), .int .u8 (c.getD 15 0), .int .u8 (c.getD 16 0), .int .u8 (c.getD 17 0), .int .u8 (c.getD 18 0), .int .u8 (c.getD 19 0), .int .u8 (c.getD 20 0), .int .u8 (c.getD 21 0), .int .u8 (c.getD 22 0), .int .u8 (c.getD 23 0), .int .u8 (c.getD 24 0), .int .u8 (c.getD 25 0), .int .u8 (c.getD 26 0), .int .u8 (c.getD 27 0), .int .u8 (c.getD 28 0), .int .u8 (c.getD 29 0)]
def catsV (c : List Int) : Value := .agg (catsL c).toArray
structure Pfx where
  addr : Int
  bits : Int
instance : Inhabited Pfx := ⟨⟨0, 0⟩⟩
def pfxL (x : Pfx) : List Value := [.int .u32 x.addr, .int .i64 x.bits]
def pfxV (x : Pfx) : Value := .agg (pfxL x).toArray
theorem pfxL_length (x : Pfx) : (pfxL x).length = 2 := rfl
structure Lbl where
  level : Int
  cats : List Int
instance : Inhabited Lbl := ⟨⟨0, []⟩⟩
def lblL (x : Lbl) : List Value := [.int .i64 x.level] ++ catsL x.cats
def lblV (x : Lbl) : Value := .agg (lblL x).toArray
theorem lblL_length (x : Lbl) : (lblL x).length = 31 := rfl
structure Face where
  addr : Int
  mtu : Int
  mode : Int
  doi : Int
  lo : Lbl
  hi : Lbl
  dflt : Lbl
instance : Inhabited Face := ⟨⟨0, 0, 0, 0, default, default, default⟩⟩
def faceL (x : Face) : List Value := [.int .u32 x.addr, .int .i64 x.mtu, .int .i64 x.mode, .int .i64 x.doi] ++ lblL x.lo ++ lblL x.hi ++ lblL x.dflt
def faceV (x : Face) : Value := .agg (faceL x).toArray
theorem faceL_length (x : Face) : (faceL x).length = 97 := rfl
structure Pair where
  here : Int
  there : Int
instance : Inhabited Pair := ⟨⟨0, 0⟩⟩
def pairL (x : Pair) : List Value := [.int .i64 x.here, .int .i64 x.there]
def pairV (x : Pair) : Value := .agg (pairL x).toArray
theorem pairL_length (x : Pair) : (pairL x).length = 2 := rfl
def pairsL (xs : List Pair) : List Value := cellsOf pairL xs
def pairsV (xs : List Pair) : Value := vsl xs.length (pairsL xs).toArray
structure Doi where
  number : Int
  levels : List Pair
  cats : List Pair
instance : Inhabited Doi := ⟨⟨0, [], []⟩⟩
def doiL (x : Doi) : List Value := [.int .u32 x.number, pairsV x.levels, pairsV x.cats]
def doiV (x : Doi) : Value := .agg (doiL x).toArray
theorem doiL_length (x : Doi) : (doiL x).length = 3 := rfl
structure Rule where
  inp : Int
  out : Int
  src : Pfx
  dst : Pfx
  proto : Int
  sportLo : Int
  sportHi : Int
  dportLo : Int
  dportHi : Int
  allow : Bool
instance : Inhabited Rule := ⟨⟨0, 0, default, default, 0, 0, 0, 0, 0, false⟩⟩
def ruleL (x : Rule) : List Value := [.int .i64 x.inp, .int .i64 x.out] ++ pfxL x.src ++ pfxL x.dst ++ [.int .i64 x.proto, .int .i64 x.sportLo, .int .i64 x.sportHi, .int .i64 x.dportLo, .int .i64 x.dportHi, .bool x.allow]
def ruleV (x : Rule) : Value := .agg (ruleL x).toArray
theorem ruleL_length (x : Rule) : (ruleL x).length = 12 := rfl
structure Relab where
  inp : Int
  label : Int
  src : Pfx
  dst : Pfx
  proto : Int
  to : Int
instance : Inhabited Relab := ⟨⟨0, 0, default, default, 0, 0⟩⟩
def relabL (x : Relab) : List Value := [.int .i64 x.inp, .int .i64 x.label] ++ pfxL x.src ++ pfxL x.dst ++ [.int .i64 x.proto, .int .i64 x.to]
def relabV (x : Relab) : Value := .agg (relabL x).toArray
theorem relabL_length (x : Relab) : (relabL x).length = 8 := rfl
structure Rout where
  to : Pfx
  out : Int
instance : Inhabited Rout := ⟨⟨default, 0⟩⟩
def routL (x : Rout) : List Value := pfxL x.to ++ [.int .i64 x.out]
def routV (x : Rout) : Value := .agg (routL x).toArray
theorem routL_length (x : Rout) : (routL x).length = 3 := rfl
structure Quot where
  queue : Int
  flows : Int
  bytes : Int
  datagrams : Int
  audit : Int
  tokens : Int
  whole : Int
  idle : Int
  open_ : Int
instance : Inhabited Quot := ⟨⟨0, 0, 0, 0, 0, 0, 0, 0, 0⟩⟩
def quotL (x : Quot) : List Value := [.int .i64 x.queue, .int .i64 x.flows, .int .i64 x.bytes, .int .i64 x.datagrams, .int .i64 x.audit, .int .i64 x.tokens, .int .i64 x.whole, .int .i64 x.idle, .int .i64 x.open_]
def quotV (x : Quot) : Value := .agg (quotL x).toArray
theorem quotL_length (x : Quot) : (quotL x).length = 9 := rfl
def facesL (xs : List Face) : List Value := cellsOf faceL xs
def facesV (xs : List Face) : Value := vsl xs.length (facesL xs).toArray
def lblsL (xs : List Lbl) : List Value := cellsOf lblL xs
def lblsV (xs : List Lbl) : Value := vsl xs.length (lblsL xs).toArray
def doisL (xs : List Doi) : List Value := cellsOf doiL xs
def doisV (xs : List Doi) : Value := vsl xs.length (doisL xs).toArray
def relabsL (xs : List Relab) : List Value := cellsOf relabL xs
def relabsV (xs : List Relab) : Value := vsl xs.length (relabsL xs).toArray
def rulesL (xs : List Rule) : List Value := cellsOf ruleL xs
def rulesV (xs : List Rule) : Value := vsl xs.length (rulesL xs).toArray
def routsL (xs : List Rout) : List Value := cellsOf routL xs
def routsV (xs : List Rout) : Value := vsl xs.length (routsL xs).toArray
structure Conf where
  faces : List Face
  labels : List Lbl
  dois : List Doi
  relabels : List Relab
  rules : List Rule
  routes : List Rout
  quotas : Quot
instance : Inhabited Conf := ⟨⟨[], [], [], [], [], [], default⟩⟩
def confL (x : Conf) : List Value := [facesV x.faces, lblsV x.labels, doisV x.dois, relabsV x.relabels, rulesV x.rules, routsV x.routes] ++ quotL x.quotas
def confV (x : Conf) : Value := .agg (confL x).toArray
theorem confL_length (x : Conf) : (confL x).length = 15 := rfl
end Go.Proofs.YtidlganponfccaaDoor

end
