/- Texts packed together: CCats3 CCats4 CCatsLaw8 CEq0 CList. -/
import Derived.Test.YtidlganponfccaaDoorZ18
section
/- What the functions of sets answer: in all, and in common. -/
set_option linter.unusedVariables false
set_option linter.unusedSimpArgs false
set_option maxRecDepth 100000
namespace Go.Proofs.YtidlganponfccaaDoor
open Go Go.Ideal
def or8 (x y : Int) : Int := IntKind.u8.wrap (BitVec.ofInt 8 x ||| BitVec.ofInt 8 y).toNat
def un3 (a b c : List Int) : List Int := (List.range 30).map fun i => or8 (or8 (or8 0 (a.getD i 0)) (b.getD i 0)) (c.getD i 0)
def me3 (a b c : List Int) : List Int := (List.range 30).map fun i => and8 (and8 (a.getD i 0) (b.getD i 0)) (c.getD i 0)
def cats3V (a b c : List Int) : Value := vsl 3 (Array.mk (catsL a ++ catsL b ++ catsL c))
def cats2V (a b : List Int) : Value := vsl 2 (Array.mk (catsL a ++ catsL b))
theorem union3_w (a b c : List Int) : CallK Tryd.prog 26 [cats3V a b c] (catsV (un3 a b c)) := CallK.via progOK (pfs []) [] 100 (Adv.nil) (by kernel_rfl) (by kernel_rfl) (p := Value.agg (Array.mk [Value.int IntKind.u8 (IntKind.wrap IntKind.u8 (↑(BitVec.toNat (BitVec.ofInt (IntKind.bits IntKind.u8) (IntKind.wrap IntKind.u8 (↑(BitVec.toNat (BitVec.ofInt (IntKind.bits IntKind.u8) (IntKind.wrap IntKind.u8 (↑(BitVec.toNat (BitVec.ofInt (IntKind.bits IntKind.u8) (0 : Int) ||| BitVec.ofInt (IntKind.bits IntKind.u8) (List.getD a (0 : Nat) (0 : Int)))) : Int)) ||| BitVec.ofInt (IntKind.bits IntKind.u8) (List.getD b (0 : Nat) (0 : Int)))) : Int)) ||| BitVec.ofInt (IntKind.bits IntKind.u8) (List.getD c (0 : Nat) (0 : Int)))) : Int)), Value.int IntKind.u8 (IntKind.wrap IntKind.u8 (↑(BitVec.toNat (BitVec.ofInt (IntKind.bits IntKind.u8) (IntKind.wrap IntKind.u8 (↑(BitVec.toNat (BitVec.ofInt (IntKind.bits IntKind.u8) (IntKind.wrap IntKind.u8 (↑(BitVec.toNat (BitVec.ofInt (IntKind.bits IntKind.u8) (0 : Int) ||| BitVec.ofInt (IntKind.bits IntKind.u8) (List.getD a (1 : Nat) (0 : Int)))) : Int)) ||| BitVec.ofInt (IntKind.bits IntKind.u8) (List.getD b (1 : Nat) (0 : Int)))) : Int)) ||| BitVec.ofInt (IntKind.bits IntKind.u8) (List.getD c (1 : Nat) (0 : Int)))) : Int)), Value.int IntKind.u8 (IntKind.wrap IntKind.u8 (↑(BitVec.toNat (BitVec.ofInt (IntKind.bits IntKind.u8) (IntKind.wrap IntKind.u8 (↑(BitVec.toNat (BitVec.ofInt (IntKind.bits IntKind.u8) (IntKind.wrap IntKind.u8 (↑(BitVec.toNat (BitVec.ofInt (IntKind.bits IntKind.u8) (0 : Int) ||| BitVec.ofInt (IntKind.bits IntKind.u8) (List.getD a (2 : Nat) (0 : Int)))) : Int)) ||| BitVec.ofInt (IntKind.bits IntKind.u8) (List.getD b (2 : Nat) (0 : Int)))) : Int)) ||| BitVec.ofInt (IntKind.bits IntKind.u8) (List.getD c (2 : Nat) (0 : Int)))) : Int)), Value.int IntKind.u8 (IntKind.wrap IntKind.u8 (↑(BitVec.toNat (BitVec.ofInt (IntKind.bits IntKind.u8) (IntKind.wrap IntKind.u8 (↑(BitVec.toNat (BitVec.ofInt (IntKind.bits IntKind.u8) (IntKind.wrap IntKind.u8 (↑(BitVec.toNat (BitVec.ofInt (IntKind.bits IntKind.u8) (0 : Int) ||| BitVec.ofInt (IntKind.bits IntKind.u8) (List.getD a (3 : Nat) (0 : Int)))) : Int)) ||| BitVec.ofInt (IntKind.bits IntKind.u8) (List.getD b (3 : Nat) (0 : Int)))) : Int)) ||| BitVec.ofInt (IntKind.bits IntKind.u8) (List.getD c (3 : Nat) (0 : Int)))) : Int)), Value.int IntKind.u8 (IntKind.wrap IntKind.u8 (↑(BitVec.toNat (BitVec.ofInt (IntKind.bits IntKind.u8) (IntKind.wrap IntKind.u8 (↑(BitVec.toNat (BitVec.ofInt (IntKind.bits IntKind.u8) (IntKind.wrap IntKind.u8 (↑(BitVec.toNat (BitVec.ofInt (IntKind.bits IntKind.u8) (0 : Int) ||| BitVec.ofInt (IntKind.bits IntKind.u8) (List.getD a (4 : Nat) (0 : Int)))) : Int)) ||| BitVec.ofInt (IntKind.bits IntKind.u8) (List.getD b (4 : Nat) (0 : Int)))) : Int)) ||| BitVec.ofInt (IntKind.bits IntKind.u8) (List.getD c (4 : Nat) (0 : Int)))) : Int)), Value.int IntKind.u8 (IntKind.wrap IntKind.u8 (↑(BitVec.toNat (BitVec.ofInt (IntKind.bits IntKind.u8) (IntKind.wrap IntKind.u8 (↑(BitVec.toNat (BitVec.ofInt (IntKind.bits IntKind.u8) (IntKind.wrap IntKind.u8 (↑(BitVec.toNat (BitVec.ofInt (IntKind.bits IntKind.u8) (0 : Int) ||| BitVec.ofInt (IntKind.bits IntKind.u8) (List.getD a (5 : Nat) (0 : Int)))) : Int)) ||| BitVec.ofInt (IntKind.bits IntKind.u8) (List.getD b (5 : Nat) (0 : Int)))) : Int)) ||| BitVec.ofInt (IntKind.bits IntKind.u8) (List.getD c (5 : Nat) (0 : Int)))) : Int)), Value.int IntKind.u8 (IntKind.wrap IntKind.u8 (↑(BitVec.toNat (BitVec.ofInt (IntKind.bits IntKind.u8) (IntKind.wrap IntKind.u8 (↑(BitVec.toNat (BitVec.ofInt (IntKind.bits IntKind.u8) (IntKind.wrap IntKind.u8 (↑(BitVec.toNat (BitVec.ofInt (IntKind.bits IntKind.u8) (0 : Int) ||| BitVec.ofInt (IntKind.bits IntKind.u8) (List.getD a (6 : Nat) (0 : Int)))) : Int)) ||| BitVec.ofInt (IntKind.bits IntKind.u8) (List.getD b (6 : Nat) (0 : Int)))) : Int)) ||| BitVec.ofInt (IntKind.bits IntKind.u8) (List.getD c (6 : Nat) (0 : Int)))) : Int)), Value.int IntKind.u8 (IntKind.wrap IntKind.u8 (↑(BitVec.toNat (BitVec.ofInt (IntKind.bits IntKind.u8) (IntKind.wrap IntKind.u8 (↑(BitVec.toNat (BitVec.ofInt (IntKind.bits IntKind.u8) (IntKind.wrap IntKind.u8 (↑(BitVec.toNat (BitVec.ofInt (IntKind.bits IntKind.u8) (0 : Int) ||| BitVec.ofInt (IntKind.bits IntKind.u8) (List.getD a (7 : Nat) (0 : Int)))) : Int)) ||| BitVec.ofInt (IntKind.bits IntKind.u8) (List.getD b (7 : Nat) (0 : Int)))) : Int)) ||| BitVec.ofInt (IntKind.bits IntKind.u8) (List.getD c (7 : Nat) (0 : Int)))) : Int)), Value.int IntKind.u8 (IntKind.wrap IntKind.u8 (↑(BitVec.toNat (BitVec.ofInt (IntKind.bits IntKind.u8) (IntKind.wrap IntKind.u8 (↑(BitVec.toNat (BitVec.ofInt (IntKind.bits IntKind.u8) (IntKind.wrap IntKind.u8 (↑(BitVec.toNat (BitVec.ofInt (IntKind.bits IntKind.u8) (0 : Int) ||| BitVec.ofInt (IntKind.bits IntKind.u8) (List.getD a (8 : Nat) (0 : Int)))) : Int)) ||| BitVec.ofInt (IntKind.bits IntKind.u8) (List.getD b (8 : Nat) (0 : Int)))) : Int)) ||| BitVec.ofInt (IntKind.bits IntKind.u8) (List.getD c (8 : Nat) (0 : Int)))) : Int)), Value.int IntKind.u8 (IntKind.wrap IntKind.u8 (↑(BitVec.toNat (BitVec.ofInt (IntKind.bits IntKind.u8) (IntKind.wrap IntKind.u8 (↑(BitVec.toNat (BitVec.ofInt (IntKind.bits IntKind.u8) (IntKind.wrap IntKind.u8 (↑(BitVec.toNat (BitVec.ofInt (IntKind.bits IntKind.u8) (0 : Int) ||| BitVec.ofInt (IntKind.bits IntKind.u8) (List.getD a (9 : Nat) (0 : Int)))) : Int)) ||| BitVec.ofInt (IntKind.bits IntKind.u8) (List.getD b (9 : Nat) (0 : Int)))) : Int)) ||| BitVec.ofInt (IntKind.bits IntKind.u8) (List.getD c (9 : Nat) (0 : Int)))) : Int)), Value.int IntKind.u8 (IntKind.wrap IntKind.u8 (↑(BitVec.toNat (BitVec.ofInt (IntKind.bits IntKind.u8) (IntKind.wrap IntKind.u8 (↑(BitVec.toNat (BitVec.ofInt (IntKind.bits IntKind.u8) (IntKind.wrap IntKind.u8 (↑(BitVec.toNat (BitVec.ofInt (IntKind.bits IntKind.u8) (0 : Int) ||| BitVec.ofInt (IntKind.bits IntKind.u8) (List.getD a (10 : Nat) (0 : Int)))) : Int)) ||| BitVec.ofInt (IntKind.bits IntKind.u8) (List.getD b (10 : Nat) (0 : Int)))) : Int)) ||| BitVec.ofInt (IntKind.bits IntKind.u8) (List.getD c (10 : Nat) (0 : Int)))) : Int)), Value.int IntKind.u8 (IntKind.wrap IntKind.u8 (↑(BitVec.toNat (BitVec.ofInt (IntKind.bits IntKind.u8) (IntKind.wrap IntKind.u8 (↑(BitVec.toNat (BitVec.ofInt (IntKind.bits IntKind.u8) (IntKind.wrap IntKind.u8 (↑(BitVec.toNat (BitVec.ofInt (IntKind.bits IntKind.u8) (0 : Int) ||| BitVec.ofInt (IntKind.bits IntKind.u8) (List.getD a (11 : Nat) (0 : Int)))) : Int)) ||| BitVec.ofInt (IntKind.bits IntKind.u8) (List.getD b (11 : Nat) (0 : Int)))) : Int)) ||| BitVec.ofInt (IntKind.bits IntKind.u8) (List.getD c (11 : Nat) (0 : Int)))) : Int)), Value.int IntKind.u8 (IntKind.wrap IntKind.u8 (↑(BitVec.toNat (BitVec.ofInt (IntKind.bits IntKind.u8) (IntKind.wrap IntKind.u8 (↑(BitVec.toNat (BitVec.ofInt (IntKind.bits IntKind.u8) (IntKind.wrap IntKind.u8 (↑(BitVec.toNat (BitVec.ofInt (IntKind.bits IntKind.u8) (0 : Int) ||| BitVec.ofInt (IntKind.bits IntKind.u8) (List.getD a (12 : Nat) (0 : Int)))) : Int)) ||| BitVec.ofInt (IntKind.bits IntKind.u8) (List.getD b (12 : Nat) (0 : Int)))) : Int)) ||| BitVec.ofInt (IntKind.bits IntKind.u8) (List.getD c (12 : Nat) (0 : Int)))) : Int)), Value.int IntKind.u8 (IntKind.wrap IntKind.u8 (↑(BitVec.toNat (BitVec.ofInt (IntKind.bits IntKind.u8) (IntKind.wrap IntKind.u8 (↑(BitVec.toNat (BitVec.ofInt (IntKind.bits IntKind.u8) (IntKind.wrap IntKind.u8 (↑(BitVec.toNat (BitVec.ofInt (IntKind.bits IntKind.u8) (0 : Int) ||| BitVec.ofInt (IntKind.bits IntKind.u8) (List.getD a (13 : Nat) (0 : Int)))) : Int)) ||| BitVec.ofInt (IntKind.bits IntKind.u8) (List.getD b (13 : Nat) (0 : Int)))) : Int)) ||| BitVec.ofInt (IntKind.bits IntKind.u8) (List.getD c (13 : Nat) (0 : Int)))) : Int)), Value.int IntKind.u8 (IntKind.wrap IntKind.u8 (↑(BitVec.toNat (BitVec.ofInt (IntKind.bits IntKind.u8) (IntKind.wrap IntKind.u8 (↑(BitVec.toNat (BitVec.ofInt (IntKind.bits IntKind.u8) (IntKind.wrap IntKind.u8 (↑(BitVec.toNat (BitVec.ofInt (IntKind.bits IntKind.u8) (0 : Int) ||| BitVec.ofInt (IntKind.bits IntKind.u8) (List.getD a (14 : Nat) (0 : Int)))) : Int)) ||| BitVec.ofInt (IntKind.bits IntKind.u8) (List.getD b (14 : Nat) (0 : Int)))) : Int)) ||| BitVec.ofInt (IntKind.bits IntKind.u8) (List.getD c (14 : Nat) (0 : Int)))) : Int)), Value.int IntKind.u8 (IntKind.wrap IntKind.u8 (↑(BitVec.toNat (BitVec.ofInt (IntKind.bits IntKind.u8) (IntKind.wrap IntKind.u8 (↑(BitVec.toNat (BitVec.ofInt (IntKind.bits IntKind.u8) (IntKind.wrap IntKind.u8 (↑(BitVec.toNat (BitVec.ofInt (IntKind.bits IntKind.u8) (0 : Int) ||| BitVec.ofInt (IntKind.bits IntKind.u8) (List.getD a (15 : Nat) (0 : Int)))) : Int)) ||| BitVec.ofInt (IntKind.bits IntKind.u8) (List.getD b (15 : Nat) (0 : Int)))) : Int)) ||| BitVec.ofInt (IntKind.bits IntKind.u8) (List.getD c (15 : Nat) (0 : Int)))) : Int)), Value.int IntKind.u8 (IntKind.wrap IntKind.u8 (↑(BitVec.toNat (BitVec.ofInt (IntKind.bits IntKind.u8) (IntKind.wrap IntKind.u8 (↑(BitVec.toNat (BitVec.ofInt (IntKind.bits IntKind.u8) (IntKind.wrap IntKind.u8 (↑(BitVec.toNat (BitVec.ofInt (IntKind.bits IntKind.u8) (0 : Int) ||| BitVec.ofInt (IntKind.bits IntKind.u8) (List.getD a (16 : Nat) (0 : Int)))) : Int)) ||| BitVec.ofInt (IntKind.bits IntKind.u8) (List.getD b (16 : Nat) (0 : Int)))) : Int)) ||| BitVec.ofInt (IntKind.bits IntKind.u8) (List.getD c (16 : Nat) (0 : Int)))) : Int)), Value.int IntKind.u8 (IntKind.wrap IntKind.u8 (↑(BitVec.toNat (BitVec.ofInt (IntKind.bits IntKind.u8) (IntKind.wrap IntKind.u8 (↑(BitVec.toNat (BitVec.ofInt (IntKind.bits IntKind.u8) (IntKind.wrap IntKind.u8 (↑(BitVec.toNat (BitVec.ofInt (IntKind.bits IntKind.u8) (0 : Int) ||| BitVec.ofInt (IntKind.bits IntKind.u8) (List.getD a (17 : Nat) (0 : Int)))) : Int)) ||| BitVec.ofInt (IntKind.bits IntKind.u8) (List.getD b (17 : Nat) (0 : Int)))) : Int)) ||| BitVec.ofInt (IntKind.bits IntKind.u8) (List.getD c (17 : Nat) (0 : Int)))) : Int)), Value.int IntKind.u8 (IntKind.wrap IntKind.u8 (↑(BitVec.toNat (BitVec.ofInt (IntKind.bits IntKind.u8) (IntKind.wrap IntKind.u8 (↑(BitVec.toNat (BitVec.ofInt (IntKind.bits IntKind.u8) (IntKind.wrap IntKind.u8 (↑(BitVec.toNat (BitVec.ofInt (IntKind.bits IntKind.u8) (0 : Int) ||| BitVec.ofInt (IntKind.bits IntKind.u8) (List.getD a (18 : Nat) (0 : Int)))) : Int)) ||| BitVec.ofInt (IntKind.bits IntKind.u8) (List.getD b (18 : Nat) (0 : Int)))) : Int)) ||| BitVec.ofInt (IntKind.bits IntKind.u8) (List.getD c (18 : Nat) (0 : Int)))) : Int)), Value.int IntKind.u8 (IntKind.wrap IntKind.u8 (↑(BitVec.toNat (BitVec.ofInt (IntKind.bits IntKind.u8) (IntKind.wrap IntKind.u8 (↑(BitVec.toNat (BitVec.ofInt (IntKind.bits IntKind.u8) (IntKind.wrap IntKind.u8 (↑(BitVec.toNat (BitVec.ofInt (IntKind.bits IntKind.u8) (0 : Int) ||| BitVec.ofInt (IntKind.bits IntKind.u8) (List.getD a (19 : Nat) (0 : Int)))) : Int)) ||| BitVec.ofInt (IntKind.bits IntKind.u8) (List.getD b (19 : Nat) (0 : Int)))) : Int)) ||| BitVec.ofInt (IntKind.bits IntKind.u8) (List.getD c (19 : Nat) (0 : Int)))) : Int)), Value.int IntKind.u8 (IntKind.wrap IntKind.u8 (↑(BitVec.toNat (BitVec.ofInt (IntKind.bits IntKind.u8) (IntKind.wrap IntKind.u8 (↑(BitVec.toNat (BitVec.ofInt (IntKind.bits IntKind.u8) (IntKind.wrap IntKind.u8 (↑(BitVec.toNat (BitVec.ofInt (IntKind.bits IntKind.u8) (0 : Int) ||| BitVec.ofInt (IntKind.bits IntKind.u8) (List.getD a (20 : Nat) (0 : Int)))) : Int)) ||| BitVec.ofInt (IntKind.bits IntKind.u8) (List.getD b (20 : Nat) (0 : Int)))) : Int)) ||| BitVec.ofInt (IntKind.bits IntKind.u8) (List.getD c (20 : Nat) (0 : Int)))) : Int)), Value.int IntKind.u8 (IntKind.wrap IntKind.u8 (↑(BitVec.toNat (BitVec.ofInt (IntKind.bits IntKind.u8) (IntKind.wrap IntKind.u8 (↑(BitVec.toNat (BitVec.ofInt (IntKind.bits IntKind.u8) (IntKind.wrap IntKind.u8 (↑(BitVec.toNat (BitVec.ofInt (IntKind.bits IntKind.u8) (0 : Int) ||| BitVec.ofInt (IntKind.bits IntKind.u8) (List.getD a (21 : Nat) (0 : Int)))) : Int)) ||| BitVec.ofInt (IntKind.bits IntKind.u8) (List.getD b (21 : Nat) (0 : Int)))) : Int)) ||| BitVec.ofInt (IntKind.bits IntKind.u8) (List.getD c (21 : Nat) (0 : Int)))) : Int)), Value.int IntKind.u8 (IntKind.wrap IntKind.u8 (↑(BitVec.toNat (BitVec.ofInt (IntKind.bits IntKind.u8) (IntKind.wrap IntKind.u8 (↑(BitVec.toNat (BitVec.ofInt (IntKind.bits IntKind.u8) (IntKind.wrap IntKind.u8 (↑(BitVec.toNat (BitVec.ofInt (IntKind.bits IntKind.u8) (0 : Int) ||| BitVec.ofInt (IntKind.bits IntKind.u8) (List.getD a (22 : Nat) (0 : Int)))) : Int)) ||| BitVec.ofInt (IntKind.bits IntKind.u8) (List.getD b (22 : Nat) (0 : Int)))) : Int)) ||| BitVec.ofInt (IntKind.bits IntKind.u8) (List.getD c (22 : Nat) (0 : Int)))) : Int)), Value.int IntKind.u8 (IntKind.wrap IntKind.u8 (↑(BitVec.toNat (BitVec.ofInt (IntKind.bits IntKind.u8) (IntKind.wrap IntKind.u8 (↑(BitVec.toNat (BitVec.ofInt (IntKind.bits IntKind.u8) (IntKind.wrap IntKind.u8 (↑(BitVec.toNat (BitVec.ofInt (IntKind.bits IntKind.u8) (0 : Int) ||| BitVec.ofInt (IntKind.bits IntKind.u8) (List.getD a (23 : Nat) (0 : Int)))) : Int)) ||| BitVec.ofInt (IntKind.bits IntKind.u8) (List.getD b (23 : Nat) (0 : Int)))) : Int)) ||| BitVec.ofInt (IntKind.bits IntKind.u8) (List.getD c (23 : Nat) (0 : Int)))) : Int)), Value.int IntKind.u8 (IntKind.wrap IntKind.u8 (↑(BitVec.toNat (BitVec.ofInt (IntKind.bits IntKind.u8) (IntKind.wrap IntKind.u8 (↑(BitVec.toNat (BitVec.ofInt (IntKind.bits IntKind.u8) (IntKind.wrap IntKind.u8 (↑(BitVec.toNat (BitVec.ofInt (IntKind.bits IntKind.u8) (0 : Int) ||| BitVec.ofInt (IntKind.bits IntKind.u8) (List.getD a (24 : Nat) (0 : Int)))) : Int)) ||| BitVec.ofInt (IntKind.bits IntKind.u8) (List.getD b (24 : Nat) (0 : Int)))) : Int)) ||| BitVec.ofInt (IntKind.bits IntKind.u8) (List.getD c (24 : Nat) (0 : Int)))) : Int)), Value.int IntKind.u8 (IntKind.wrap IntKind.u8 (↑(BitVec.toNat (BitVec.ofInt (IntKind.bits IntKind.u8) (IntKind.wrap IntKind.u8 (↑(BitVec.toNat (BitVec.ofInt (IntKind.bits IntKind.u8) (IntKind.wrap IntKind.u8 (↑(BitVec.toNat (BitVec.ofInt (IntKind.bits IntKind.u8) (0 : Int) ||| BitVec.ofInt (IntKind.bits IntKind.u8) (List.getD a (25 : Nat) (0 : Int)))) : Int)) ||| BitVec.ofInt (IntKind.bits IntKind.u8) (List.getD b (25 : Nat) (0 : Int)))) : Int)) ||| BitVec.ofInt (IntKind.bits IntKind.u8) (List.getD c (25 : Nat) (0 : Int)))) : Int)), Value.int IntKind.u8 (IntKind.wrap IntKind.u8 (↑(BitVec.toNat (BitVec.ofInt (IntKind.bits IntKind.u8) (IntKind.wrap IntKind.u8 (↑(BitVec.toNat (BitVec.ofInt (IntKind.bits IntKind.u8) (IntKind.wrap IntKind.u8 (↑(BitVec.toNat (BitVec.ofInt (IntKind.bits IntKind.u8) (0 : Int) ||| BitVec.ofInt (IntKind.bits IntKind.u8) (List.getD a (26 : Nat) (0 : Int)))) : Int)) ||| BitVec.ofInt (IntKind.bits IntKind.u8) (List.getD b (26 : Nat) (0 : Int)))) : Int)) ||| BitVec.ofInt (IntKind.bits IntKind.u8) (List.getD c (26 : Nat) (0 : Int)))) : Int)), Value.int IntKind.u8 (IntKind.wrap IntKind.u8 (↑(BitVec.toNat (BitVec.ofInt (IntKind.bits IntKind.u8) (IntKind.wrap IntKind.u8 (↑(BitVec.toNat (BitVec.ofInt (IntKind.bits IntKind.u8) (IntKind.wrap IntKind.u8 (↑(BitVec.toNat (BitVec.ofInt (IntKind.bits IntKind.u8) (0 : Int) ||| BitVec.ofInt (IntKind.bits IntKind.u8) (List.getD a (27 : Nat) (0 : Int)))) : Int)) ||| BitVec.ofInt (IntKind.bits IntKind.u8) (List.getD b (27 : Nat) (0 : Int)))) : Int)) ||| BitVec.ofInt (IntKind.bits IntKind.u8) (List.getD c (27 : Nat) (0 : Int)))) : Int)), Value.int IntKind.u8 (IntKind.wrap IntKind.u8 (↑(BitVec.toNat (BitVec.ofInt (IntKind.bits IntKind.u8) (IntKind.wrap IntKind.u8 (↑(BitVec.toNat (BitVec.ofInt (IntKind.bits IntKind.u8) (IntKind.wrap IntKind.u8 (↑(BitVec.toNat (BitVec.ofInt (IntKind.bits IntKind.u8) (0 : Int) ||| BitVec.ofInt (IntKind.bits IntKind.u8) (List.getD a (28 : Nat) (0 : Int)))) : Int)) ||| BitVec.ofInt (IntKind.bits IntKind.u8) (List.getD b (28 : Nat) (0 : Int)))) : Int)) ||| BitVec.ofInt (IntKind.bits IntKind.u8) (List.getD c (28 : Nat) (0 : Int)))) : Int)), Value.int IntKind.u8 (IntKind.wrap IntKind.u8 (↑(BitVec.toNat (BitVec.ofInt (IntKind.bits IntKind.u8) (IntKind.wrap IntKind.u8 (↑(BitVec.toNat (BitVec.ofInt (IntKind.bits IntKind.u8) (IntKind.wrap IntKind.u8 (↑(BitVec.toNat (BitVec.ofInt (IntKind.bits IntKind.u8) (0 : Int) ||| BitVec.ofInt (IntKind.bits IntKind.u8) (List.getD a (29 : Nat) (0 : Int)))) : Int)) ||| BitVec.ofInt (IntKind.bits IntKind.u8) (List.getD b (29 : Nat) (0 : Int)))) : Int)) ||| BitVec.ofInt (IntKind.bits IntKind.u8) (List.getD c (29 : Nat) (0 : Int)))) : Int))]) = catsV (un3 a b c)) (by kernel_rfl) (by
    rfl)
theorem meet3_w (a b c : List Int) : CallK Tryd.prog 27 [catsV a, cats2V b c] (catsV (me3 a b c)) := CallK.via progOK (pfs []) [] 100 (Adv.nil) (by kernel_rfl) (by kernel_rfl) (p := Value.agg (Array.mk [Value.int IntKind.u8 (IntKind.wrap IntKind.u8 (↑(BitVec.toNat (BitVec.ofInt (IntKind.bits IntKind.u8) (IntKind.wrap IntKind.u8 (↑(BitVec.toNat (BitVec.ofInt (IntKind.bits IntKind.u8) (List.getD a (0 : Nat) (0 : Int)) &&& BitVec.ofInt (IntKind.bits IntKind.u8) (List.getD b (0 : Nat) (0 : Int)))) : Int)) &&& BitVec.ofInt (IntKind.bits IntKind.u8) (List.getD c (0 : Nat) (0 : Int)))) : Int)), Value.int IntKind.u8 (IntKind.wrap IntKind.u8 (↑(BitVec.toNat (BitVec.ofInt (IntKind.bits IntKind.u8) (IntKind.wrap IntKind.u8 (↑(BitVec.toNat (BitVec.ofInt (IntKind.bits IntKind.u8) (List.getD a (1 : Nat) (0 : Int)) &&& BitVec.ofInt (IntKind.bits IntKind.u8) (List.getD b (1 : Nat) (0 : Int)))) : Int)) &&& BitVec.ofInt (IntKind.bits IntKind.u8) (List.getD c (1 : Nat) (0 : Int)))) : Int)), Value.int IntKind.u8 (IntKind.wrap IntKind.u8 (↑(BitVec.toNat (BitVec.ofInt (IntKind.bits IntKind.u8) (IntKind.wrap IntKind.u8 (↑(BitVec.toNat (BitVec.ofInt (IntKind.bits IntKind.u8) (List.getD a (2 : Nat) (0 : Int)) &&& BitVec.ofInt (IntKind.bits IntKind.u8) (List.getD b (2 : Nat) (0 : Int)))) : Int)) &&& BitVec.ofInt (IntKind.bits IntKind.u8) (List.getD c (2 : Nat) (0 : Int)))) : Int)), Value.int IntKind.u8 (IntKind.wrap IntKind.u8 (↑(BitVec.toNat (BitVec.ofInt (IntKind.bits IntKind.u8) (IntKind.wrap IntKind.u8 (↑(BitVec.toNat (BitVec.ofInt (IntKind.bits IntKind.u8) (List.getD a (3 : Nat) (0 : Int)) &&& BitVec.ofInt (IntKind.bits IntKind.u8) (List.getD b (3 : Nat) (0 : Int)))) : Int)) &&& BitVec.ofInt (IntKind.bits IntKind.u8) (List.getD c (3 : Nat) (0 : Int)))) : Int)), Value.int IntKind.u8 (IntKind.wrap IntKind.u8 (↑(BitVec.toNat (BitVec.ofInt (IntKind.bits IntKind.u8) (IntKind.wrap IntKind.u8 (↑(BitVec.toNat (BitVec.ofInt (IntKind.bits IntKind.u8) (List.getD a (4 : Nat) (0 : Int)) &&& BitVec.ofInt (IntKind.bits IntKind.u8) (List.getD b (4 : Nat) (0 : Int)))) : Int)) &&& BitVec.ofInt (IntKind.bits IntKind.u8) (List.getD c (4 : Nat) (0 : Int)))) : Int)), Value.int IntKind.u8 (IntKind.wrap IntKind.u8 (↑(BitVec.toNat (BitVec.ofInt (IntKind.bits IntKind.u8) (IntKind.wrap IntKind.u8 (↑(BitVec.toNat (BitVec.ofInt (IntKind.bits IntKind.u8) (List.getD a (5 : Nat) (0 : Int)) &&& BitVec.ofInt (IntKind.bits IntKind.u8) (List.getD b (5 : Nat) (0 : Int)))) : Int)) &&& BitVec.ofInt (IntKind.bits IntKind.u8) (List.getD c (5 : Nat) (0 : Int)))) : Int)), Value.int IntKind.u8 (IntKind.wrap IntKind.u8 (↑(BitVec.toNat (BitVec.ofInt (IntKind.bits IntKind.u8) (IntKind.wrap IntKind.u8 (↑(BitVec.toNat (BitVec.ofInt (IntKind.bits IntKind.u8) (List.getD a (6 : Nat) (0 : Int)) &&& BitVec.ofInt (IntKind.bits IntKind.u8) (List.getD b (6 : Nat) (0 : Int)))) : Int)) &&& BitVec.ofInt (IntKind.bits IntKind.u8) (List.getD c (6 : Nat) (0 : Int)))) : Int)), Value.int IntKind.u8 (IntKind.wrap IntKind.u8 (↑(BitVec.toNat (BitVec.ofInt (IntKind.bits IntKind.u8) (IntKind.wrap IntKind.u8 (↑(BitVec.toNat (BitVec.ofInt (IntKind.bits IntKind.u8) (List.getD a (7 : Nat) (0 : Int)) &&& BitVec.ofInt (IntKind.bits IntKind.u8) (List.getD b (7 : Nat) (0 : Int)))) : Int)) &&& BitVec.ofInt (IntKind.bits IntKind.u8) (List.getD c (7 : Nat) (0 : Int)))) : Int)), Value.int IntKind.u8 (IntKind.wrap IntKind.u8 (↑(BitVec.toNat (BitVec.ofInt (IntKind.bits IntKind.u8) (IntKind.wrap IntKind.u8 (↑(BitVec.toNat (BitVec.ofInt (IntKind.bits IntKind.u8) (List.getD a (8 : Nat) (0 : Int)) &&& BitVec.ofInt (IntKind.bits IntKind.u8) (List.getD b (8 : Nat) (0 : Int)))) : Int)) &&& BitVec.ofInt (IntKind.bits IntKind.u8) (List.getD c (8 : Nat) (0 : Int)))) : Int)), Value.int IntKind.u8 (IntKind.wrap IntKind.u8 (↑(BitVec.toNat (BitVec.ofInt (IntKind.bits IntKind.u8) (IntKind.wrap IntKind.u8 (↑(BitVec.toNat (BitVec.ofInt (IntKind.bits IntKind.u8) (List.getD a (9 : Nat) (0 : Int)) &&& BitVec.ofInt (IntKind.bits IntKind.u8) (List.getD b (9 : Nat) (0 : Int)))) : Int)) &&& BitVec.ofInt (IntKind.bits IntKind.u8) (List.getD c (9 : Nat) (0 : Int)))) : Int)), Value.int IntKind.u8 (IntKind.wrap IntKind.u8 (↑(BitVec.toNat (BitVec.ofInt (IntKind.bits IntKind.u8) (IntKind.wrap IntKind.u8 (↑(BitVec.toNat (BitVec.ofInt (IntKind.bits IntKind.u8) (List.getD a (10 : Nat) (0 : Int)) &&& BitVec.ofInt (IntKind.bits IntKind.u8) (List.getD b (10 : Nat) (0 : Int)))) : Int)) &&& BitVec.ofInt (IntKind.bits IntKind.u8) (List.getD c (10 : Nat) (0 : Int)))) : Int)), Value.int IntKind.u8 (IntKind.wrap IntKind.u8 (↑(BitVec.toNat (BitVec.ofInt (IntKind.bits IntKind.u8) (IntKind.wrap IntKind.u8 (↑(BitVec.toNat (BitVec.ofInt (IntKind.bits IntKind.u8) (List.getD a (11 : Nat) (0 : Int)) &&& BitVec.ofInt (IntKind.bits IntKind.u8) (List.getD b (11 : Nat) (0 : Int)))) : Int)) &&& BitVec.ofInt (IntKind.bits IntKind.u8) (List.getD c (11 : Nat) (0 : Int)))) : Int)), Value.int IntKind.u8 (IntKind.wrap IntKind.u8 (↑(BitVec.toNat (BitVec.ofInt (IntKind.bits IntKind.u8) (IntKind.wrap IntKind.u8 (↑(BitVec.toNat (BitVec.ofInt (IntKind.bits IntKind.u8) (List.getD a (12 : Nat) (0 : Int)) &&& BitVec.ofInt (IntKind.bits IntKind.u8) (List.getD b (12 : Nat) (0 : Int)))) : Int)) &&& BitVec.ofInt (IntKind.bits IntKind.u8) (List.getD c (12 : Nat) (0 : Int)))) : Int)), Value.int IntKind.u8 (IntKind.wrap IntKind.u8 (↑(BitVec.toNat (BitVec.ofInt (IntKind.bits IntKind.u8) (IntKind.wrap IntKind.u8 (↑(BitVec.toNat (BitVec.ofInt (IntKind.bits IntKind.u8) (List.getD a (13 : Nat) (0 : Int)) &&& BitVec.ofInt (IntKind.bits IntKind.u8) (List.getD b (13 : Nat) (0 : Int)))) : Int)) &&& BitVec.ofInt (IntKind.bits IntKind.u8) (List.getD c (13 : Nat) (0 : Int)))) : Int)), Value.int IntKind.u8 (IntKind.wrap IntKind.u8 (↑(BitVec.toNat (BitVec.ofInt (IntKind.bits IntKind.u8) (IntKind.wrap IntKind.u8 (↑(BitVec.toNat (BitVec.ofInt (IntKind.bits IntKind.u8) (List.getD a (14 : Nat) (0 : Int)) &&& BitVec.ofInt (IntKind.bits IntKind.u8) (List.getD b (14 : Nat) (0 : Int)))) : Int)) &&& BitVec.ofInt (IntKind.bits IntKind.u8) (List.getD c (14 : Nat) (0 : Int)))) : Int)), Value.int IntKind.u8 (IntKind.wrap IntKind.u8 (↑(BitVec.toNat (BitVec.ofInt (IntKind.bits IntKind.u8) (IntKind.wrap IntKind.u8 (↑(BitVec.toNat (BitVec.ofInt (IntKind.bits IntKind.u8) (List.getD a (15 : Nat) (0 : Int)) &&& BitVec.ofInt (IntKind.bits IntKind.u8) (List.getD b (15 : Nat) (0 : Int)))) : Int)) &&& BitVec.ofInt (IntKind.bits IntKind.u8) (List.getD c (15 : Nat) (0 : Int)))) : Int)), Value.int IntKind.u8 (IntKind.wrap IntKind.u8 (↑(BitVec.toNat (BitVec.ofInt (IntKind.bits IntKind.u8) (IntKind.wrap IntKind.u8 (↑(BitVec.toNat (BitVec.ofInt (IntKind.bits IntKind.u8) (List.getD a (16 : Nat) (0 : Int)) &&& BitVec.ofInt (IntKind.bits IntKind.u8) (List.getD b (16 : Nat) (0 : Int)))) : Int)) &&& BitVec.ofInt (IntKind.bits IntKind.u8) (List.getD c (16 : Nat) (0 : Int)))) : Int)), Value.int IntKind.u8 (IntKind.wrap IntKind.u8 (↑(BitVec.toNat (BitVec.ofInt (IntKind.bits IntKind.u8) (IntKind.wrap IntKind.u8 (↑(BitVec.toNat (BitVec.ofInt (IntKind.bits IntKind.u8) (List.getD a (17 : Nat) (0 : Int)) &&& BitVec.ofInt (IntKind.bits IntKind.u8) (List.getD b (17 : Nat) (0 : Int)))) : Int)) &&& BitVec.ofInt (IntKind.bits IntKind.u8) (List.getD c (17 : Nat) (0 : Int)))) : Int)), Value.int IntKind.u8 (IntKind.wrap IntKind.u8 (↑(BitVec.toNat (BitVec.ofInt (IntKind.bits IntKind.u8) (IntKind.wrap IntKind.u8 (↑(BitVec.toNat (BitVec.ofInt (IntKind.bits IntKind.u8) (List.getD a (18 : Nat) (0 : Int)) &&& BitVec.ofInt (IntKind.bits IntKind.u8) (List.getD b (18 : Nat) (0 : Int)))) : Int)) &&& BitVec.ofInt (IntKind.bits IntKind.u8) (List.getD c (18 : Nat) (0 : Int)))) : Int)), Value.int IntKind.u8 (IntKind.wrap IntKind.u8 (↑(BitVec.toNat (BitVec.ofInt (IntKind.bits IntKind.u8) (IntKind.wrap IntKind.u8 (↑(BitVec.toNat (BitVec.ofInt (IntKind.bits IntKind.u8) (List.getD a (19 : Nat) (0 : Int)) &&& BitVec.ofInt (IntKind.bits IntKind.u8) (List.getD b (19 : Nat) (0 : Int)))) : Int)) &&& BitVec.ofInt (IntKind.bits IntKind.u8) (List.getD c (19 : Nat) (0 : Int)))) : Int)), Value.int IntKind.u8 (IntKind.wrap IntKind.u8 (↑(BitVec.toNat (BitVec.ofInt (IntKind.bits IntKind.u8) (IntKind.wrap IntKind.u8 (↑(BitVec.toNat (BitVec.ofInt (IntKind.bits IntKind.u8) (List.getD a (20 : Nat) (0 : Int)) &&& BitVec.ofInt (IntKind.bits IntKind.u8) (List.getD b (20 : Nat) (0 : Int)))) : Int)) &&& BitVec.ofInt (IntKind.bits IntKind.u8) (List.getD c (20 : Nat) (0 : Int)))) : Int)), Value.int IntKind.u8 (IntKind.wrap IntKind.u8 (↑(BitVec.toNat (BitVec.ofInt (IntKind.bits IntKind.u8) (IntKind.wrap IntKind.u8 (↑(BitVec.toNat (BitVec.ofInt (IntKind.bits IntKind.u8) (List.getD a (21 : Nat) (0 : Int)) &&& BitVec.ofInt (IntKind.bits IntKind.u8) (List.getD b (21 : Nat) (0 : Int)))) : Int)) &&& BitVec.ofInt (IntKind.bits IntKind.u8) (List.getD c (21 : Nat) (0 : Int)))) : Int)), Value.int IntKind.u8 (IntKind.wrap IntKind.u8 (↑(BitVec.toNat (BitVec.ofInt (IntKind.bits IntKind.u8) (IntKind.wrap IntKind.u8 (↑(BitVec.toNat (BitVec.ofInt (IntKind.bits IntKind.u8) (List.getD a (22 : Nat) (0 : Int)) &&& BitVec.ofInt (IntKind.bits IntKind.u8) (List.getD b (22 : Nat) (0 : Int)))) : Int)) &&& BitVec.ofInt (IntKind.bits IntKind.u8) (List.getD c (22 : Nat) (0 : Int)))) : Int)), Value.int IntKind.u8 (IntKind.wrap IntKind.u8 (↑(BitVec.toNat (BitVec.ofInt (IntKind.bits IntKind.u8) (IntKind.wrap IntKind.u8 (↑(BitVec.toNat (BitVec.ofInt (IntKind.bits IntKind.u8) (List.getD a (23 : Nat) (0 : Int)) &&& BitVec.ofInt (IntKind.bits IntKind.u8) (List.getD b (23 : Nat) (0 : Int)))) : Int)) &&& BitVec.ofInt (IntKind.bits IntKind.u8) (List.getD c (23 : Nat) (0 : Int)))) : Int)), Value.int IntKind.u8 (IntKind.wrap IntKind.u8 (↑(BitVec.toNat (BitVec.ofInt (IntKind.bits IntKind.u8) (IntKind.wrap IntKind.u8 (↑(BitVec.toNat (BitVec.ofInt (IntKind.bits IntKind.u8) (List.getD a (24 : Nat) (0 : Int)) &&& BitVec.ofInt (IntKind.bits IntKind.u8) (List.getD b (24 : Nat) (0 : Int)))) : Int)) &&& BitVec.ofInt (IntKind.bits IntKind.u8) (List.getD c (24 : Nat) (0 : Int)))) : Int)), Value.int IntKind.u8 (IntKind.wrap IntKind.u8 (↑(BitVec.toNat (BitVec.ofInt (IntKind.bits IntKind.u8) (IntKind.wrap IntKind.u8 (↑(BitVec.toNat (BitVec.ofInt (IntKind.bits IntKind.u8) (List.getD a (25 : Nat) (0 : Int)) &&& BitVec.ofInt (IntKind.bits IntKind.u8) (List.getD b (25 : Nat) (0 : Int)))) : Int)) &&& BitVec.ofInt (IntKind.bits IntKind.u8) (List.getD c (25 : Nat) (0 : Int)))) : Int)), Value.int IntKind.u8 (IntKind.wrap IntKind.u8 (↑(BitVec.toNat (BitVec.ofInt (IntKind.bits IntKind.u8) (IntKind.wrap IntKind.u8 (↑(BitVec.toNat (BitVec.ofInt (IntKind.bits IntKind.u8) (List.getD a (26 : Nat) (0 : Int)) &&& BitVec.ofInt (IntKind.bits IntKind.u8) (List.getD b (26 : Nat) (0 : Int)))) : Int)) &&& BitVec.ofInt (IntKind.bits IntKind.u8) (List.getD c (26 : Nat) (0 : Int)))) : Int)), Value.int IntKind.u8 (IntKind.wrap IntKind.u8 (↑(BitVec.toNat (BitVec.ofInt (IntKind.bits IntKind.u8) (IntKind.wrap IntKind.u8 (↑(BitVec.toNat (BitVec.ofInt (IntKind.bits IntKind.u8) (List.getD a (27 : Nat) (0 : Int)) &&& BitVec.ofInt (IntKind.bits IntKind.u8) (List.getD b (27 : Nat) (0 : Int)))) : Int)) &&& BitVec.ofInt (IntKind.bits IntKind.u8) (List.getD c (27 : Nat) (0 : Int)))) : Int)), Value.int IntKind.u8 (IntKind.wrap IntKind.u8 (↑(BitVec.toNat (BitVec.ofInt (IntKind.bits IntKind.u8) (IntKind.wrap IntKind.u8 (↑(BitVec.toNat (BitVec.ofInt (IntKind.bits IntKind.u8) (List.getD a (28 : Nat) (0 : Int)) &&& BitVec.ofInt (IntKind.bits IntKind.u8) (List.getD b (28 : Nat) (0 : Int)))) : Int)) &&& BitVec.ofInt (IntKind.bits IntKind.u8) (List.getD c (28 : Nat) (0 : Int)))) : Int)), Value.int IntKind.u8 (IntKind.wrap IntKind.u8 (↑(BitVec.toNat (BitVec.ofInt (IntKind.bits IntKind.u8) (IntKind.wrap IntKind.u8 (↑(BitVec.toNat (BitVec.ofInt (IntKind.bits IntKind.u8) (List.getD a (29 : Nat) (0 : Int)) &&& BitVec.ofInt (IntKind.bits IntKind.u8) (List.getD b (29 : Nat) (0 : Int)))) : Int)) &&& BitVec.ofInt (IntKind.bits IntKind.u8) (List.getD c (29 : Nat) (0 : Int)))) : Int))]) = catsV (me3 a b c)) (by kernel_rfl) (by
    rfl)
theorem meet0_w (a : List Int) : CallK Tryd.prog 27 [catsV a, .slice none 0 0] (catsV a) := CallK.via progOK (pfs []) [] 100 (Adv.nil) (by kernel_rfl) (by kernel_rfl) (p := Value.agg (Array.mk (catsL a)) = catsV a) (by kernel_rfl) (by
    rfl)
end Go.Proofs.YtidlganponfccaaDoor

end
section
/- What the functions of sets answer: of none. -/
set_option linter.unusedVariables false
set_option linter.unusedSimpArgs false
set_option maxRecDepth 100000
namespace Go.Proofs.YtidlganponfccaaDoor
open Go Go.Ideal
theorem union0_w : CallK Tryd.prog 26 [.slice none 0 0] (catsV []) := CallK.via progOK (pfs []) [] 100 (Adv.nil) (by kernel_rfl) (by kernel_rfl) (p := Value.agg (Array.mk [Value.int IntKind.u8 (0 : Int), Value.int IntKind.u8 (0 : Int), Value.int IntKind.u8 (0 : Int), Value.int IntKind.u8 (0 : Int), Value.int IntKind.u8 (0 : Int), Value.int IntKind.u8 (0 : Int), Value.int IntKind.u8 (0 : Int), Value.int IntKind.u8 (0 : Int), Value.int IntKind.u8 (0 : Int), Value.int IntKind.u8 (0 : Int), Value.int IntKind.u8 (0 : Int), Value.int IntKind.u8 (0 : Int), Value.int IntKind.u8 (0 : Int), Value.int IntKind.u8 (0 : Int), Value.int IntKind.u8 (0 : Int), Value.int IntKind.u8 (0 : Int), Value.int IntKind.u8 (0 : Int), Value.int IntKind.u8 (0 : Int), Value.int IntKind.u8 (0 : Int), Value.int IntKind.u8 (0 : Int), Value.int IntKind.u8 (0 : Int), Value.int IntKind.u8 (0 : Int), Value.int IntKind.u8 (0 : Int), Value.int IntKind.u8 (0 : Int), Value.int IntKind.u8 (0 : Int), Value.int IntKind.u8 (0 : Int), Value.int IntKind.u8 (0 : Int), Value.int IntKind.u8 (0 : Int), Value.int IntKind.u8 (0 : Int), Value.int IntKind.u8 (0 : Int)]) = catsV []) (by kernel_rfl) (by
    rfl)
end Go.Proofs.YtidlganponfccaaDoor

end
section
/- The plain law of sets: in all, and in common. -/
set_option linter.unusedVariables false
set_option linter.unusedSimpArgs false
set_option linter.unusedVariables false
set_option linter.unusedSimpArgs false
namespace Go.Proofs.YtidlganponfccaaDoor
open Go Go.Ideal

theorem or_lt {X Y : Nat} (hX : X < 256) (hY : Y < 256) : X ||| Y < 256 := Nat.or_lt_two_pow (n := 8) hX hY
theorem and_lt {X Y : Nat} (hX : X < 256) : X &&& Y < 256 := Nat.lt_of_le_of_lt Nat.and_le_left hX
theorem or8N {X Y : Nat} (hX : X < 256) (hY : Y < 256) : or8 X Y = ((X ||| Y : Nat) : Int) := by
  unfold or8
  rw [BitVec.toNat_or, bv8 hX, bv8 hY, IntKind.wrap_u8]
  have := or_lt hX hY
  omega
theorem map30 {f : Nat → Int} {i : Nat} (hi : i < 30) : ((List.range 30).map f).getD i 0 = f i := by simp [List.getD, hi]
theorem cats_map {f : Nat → Int} (hf : ∀ i, i < 30 → ∃ X : Nat, f i = X ∧ X < 256) : CatsOK ((List.range 30).map f) := by
  refine ⟨by simp, fun x hx => ?_⟩
  obtain ⟨i, hi, rfl⟩ := List.mem_map.1 hx
  obtain ⟨X, e, hX⟩ := hf i (List.mem_range.1 hi)
  rw [e]; omega
/-- What is in a set that is told byte by byte. -/
theorem hasC_map {f : Nat → Int} (hf : ∀ i, i < 30 → ∃ X : Nat, f i = X ∧ X < 256) {k : Int} (h0 : 0 ≤ k) (h1 : k < 240) {X : Nat} (e : f (k / 8).toNat = X) : hasC ((List.range 30).map f) k = X.testBit (7 - k % 8).toNat := by
  obtain ⟨X', e1, _, e3⟩ := hasC_bit (cats_map hf) h0 h1
  rw [map30 (by omega), e] at e1
  obtain rfl : X = X' := by exact_mod_cast e1
  exact e3
theorem un3_at {a b c : List Int} (ha : CatsOK a) (hb : CatsOK b) (hc : CatsOK c) (i : Nat) : ∃ X Y Z : Nat, X < 256 ∧ Y < 256 ∧ Z < 256 ∧ a.getD i 0 = X ∧ b.getD i 0 = Y ∧ c.getD i 0 = Z ∧ or8 (or8 (or8 0 (a.getD i 0)) (b.getD i 0)) (c.getD i 0) = ((X ||| Y ||| Z : Nat) : Int) ∧ and8 (and8 (a.getD i 0) (b.getD i 0)) (c.getD i 0) = ((X &&& Y &&& Z : Nat) : Int) := by
  obtain ⟨X, e1, h1⟩ := ha.get i
  obtain ⟨Y, e2, h2⟩ := hb.get i
  obtain ⟨Z, e3, h3⟩ := hc.get i
  refine ⟨X, Y, Z, h1, h2, h3, e1, e2, e3, ?_, ?_⟩
  · rw [e1, e2, e3, show (0 : Int) = ((0 : Nat) : Int) from rfl, or8N (by decide) h1, Nat.zero_or, or8N h1 h2, or8N (or_lt h1 h2) h3]
  · rw [e1, e2, e3, and8N h1 h2, and8N (and_lt h1) h3]
theorem un3_ok {a b c : List Int} (ha : CatsOK a) (hb : CatsOK b) (hc : CatsOK c) : CatsOK (un3 a b c) := cats_map fun i _ => by
  obtain ⟨X, Y, Z, h1, h2, h3, _, _, _, e, _⟩ := un3_at ha hb hc i
  exact ⟨_, e, or_lt (or_lt h1 h2) h3⟩
theorem me3_ok {a b c : List Int} (ha : CatsOK a) (hb : CatsOK b) (hc : CatsOK c) : CatsOK (me3 a b c) := cats_map fun i _ => by
  obtain ⟨X, Y, Z, h1, h2, h3, _, _, _, _, e⟩ := un3_at ha hb hc i
  exact ⟨_, e, and_lt (and_lt h1)⟩
theorem has_un3 {a b c : List Int} (ha : CatsOK a) (hb : CatsOK b) (hc : CatsOK c) {k : Int} (h0 : 0 ≤ k) (h1 : k < 240) : hasC (un3 a b c) k = (hasC a k || hasC b k || hasC c k) := by
  obtain ⟨X, Y, Z, g1, g2, g3, q1, q2, q3, e, _⟩ := un3_at ha hb hc (k / 8).toNat
  obtain ⟨X', u1, _, u3⟩ := hasC_bit ha h0 h1
  obtain ⟨Y', v1, _, v3⟩ := hasC_bit hb h0 h1
  obtain ⟨Z', w1, _, w3⟩ := hasC_bit hc h0 h1
  obtain rfl : X = X' := by exact_mod_cast q1.symm.trans u1
  obtain rfl : Y = Y' := by exact_mod_cast q2.symm.trans v1
  obtain rfl : Z = Z' := by exact_mod_cast q3.symm.trans w1
  rw [u3, v3, w3, ← Nat.testBit_or, ← Nat.testBit_or]
  exact hasC_map (fun i _ => by
    obtain ⟨X, Y, Z, h1, h2, h3, _, _, _, e, _⟩ := un3_at ha hb hc i
    exact ⟨_, e, or_lt (or_lt h1 h2) h3⟩) h0 h1 e
theorem has_me3 {a b c : List Int} (ha : CatsOK a) (hb : CatsOK b) (hc : CatsOK c) {k : Int} (h0 : 0 ≤ k) (h1 : k < 240) : hasC (me3 a b c) k = (hasC a k && hasC b k && hasC c k) := by
  obtain ⟨X, Y, Z, g1, g2, g3, q1, q2, q3, _, e⟩ := un3_at ha hb hc (k / 8).toNat
  obtain ⟨X', u1, _, u3⟩ := hasC_bit ha h0 h1
  obtain ⟨Y', v1, _, v3⟩ := hasC_bit hb h0 h1
  obtain ⟨Z', w1, _, w3⟩ := hasC_bit hc h0 h1
  obtain rfl : X = X' := by exact_mod_cast q1.symm.trans u1
  obtain rfl : Y = Y' := by exact_mod_cast q2.symm.trans v1
  obtain rfl : Z = Z' := by exact_mod_cast q3.symm.trans w1
  rw [u3, v3, w3, ← Nat.testBit_and, ← Nat.testBit_and]
  exact hasC_map (fun i _ => by
    obtain ⟨X, Y, Z, h1, h2, h3, _, _, _, _, e⟩ := un3_at ha hb hc i
    exact ⟨_, e, and_lt (and_lt h1)⟩) h0 h1 e
theorem me3_in {a b c : List Int} (ha : CatsOK a) (hb : CatsOK b) (hc : CatsOK c) : withinC (me3 a b c) a = true := (withinC_iff (me3_ok ha hb hc) ha).2 fun k h0 h1 h => by
  rw [has_me3 ha hb hc h0 h1, Bool.and_eq_true, Bool.and_eq_true] at h; exact h.1.1
theorem in_un3 {a b c : List Int} (ha : CatsOK a) (hb : CatsOK b) (hc : CatsOK c) : withinC a (un3 a b c) = true := (withinC_iff ha (un3_ok ha hb hc)).2 fun k h0 h1 h => by
  rw [has_un3 ha hb hc h0 h1, h]; rfl
end Go.Proofs.YtidlganponfccaaDoor

end
section
/- Labels and prefixes, compared. -/
set_option linter.unusedVariables false
set_option linter.unusedSimpArgs false
set_option maxRecDepth 100000
set_option linter.unusedVariables false
set_option linter.unusedSimpArgs false
namespace Go.Proofs.YtidlganponfccaaDoor
open Go Go.Ideal

def catsEq (a b : List Int) : Bool := a.getD 0 0 == b.getD 0 0 && (a.getD 1 0 == b.getD 1 0 && (a.getD 2 0 == b.getD 2 0 && (a.getD 3 0 == b.getD 3 0 && (a.getD 4 0 == b.getD 4 0 && (a.getD 5 0 == b.getD 5 0 && (a.getD 6 0 == b.getD 6 0 && (a.getD 7 0 == b.getD 7 0 && (a.getD 8 0 == b.getD 8 0 && (a.getD 9 0 == b.getD 9 0 && (a.getD 10 0 == b.getD 10 0 && (a.getD 11 0 == b.getD 11 0 && (a.getD 12 0 == b.getD 12 0 && (a.getD 13 0 == b.getD 13 0 && (a.getD 14 0 == b.getD 14 0 && (a.getD 15 0 == b.getD 15 0 && (a.getD 16 0 == b.getD 16 0 && (a.getD 17 0 == b.getD 17 0 && (a.getD 18 0 == b.getD 18 0 && (a.getD 19 0 == b.getD 19 0 && (a.getD 20 0 == b.getD 20 0 && (a.getD 21 0 == b.getD 21 0 && (a.getD 22 0 == b.getD 22 0 && (a.getD 23 0 == b.getD 23 0 && (a.getD 24 0 == b.getD 24 0 && (a.getD 25 0 == b.getD 25 0 && (a.getD 26 0 == b.getD 26 0 && (a.getD 27 0 == b.getD 27 0 && (a.getD 28 0 == b.getD 28 0 && (a.getD 29 0 == b.getD 29 0)))))))))))))))))))))))))))))
def lblEq (x y : Lbl) : Bool := x.level == y.level && catsEq x.cats y.cats
def pfxEq (x y : Pfx) : Bool := x.addr == y.addr && x.bits == y.bits
theorem catsEq_all (a b : List Int) : catsEq a b = (List.range 30).all fun i => a.getD i 0 == b.getD i 0 := by
  have e : List.range 30 = [0, 1, 2, 3, 4, 5, 6, 7, 8, 9, 10, 11, 12, 13, 14, 15, 16, 17, 18, 19, 20, 21, 22, 23, 24, 25, 26, 27, 28, 29] := rfl
  rw [e]
  simp only [List.all_cons, List.all_nil, Bool.and_true]
  rfl
theorem catsEq_iff {a b : List Int} (ha : a.length = 30) (hb : b.length = 30) : catsEq a b = true ↔ a = b := by
  rw [catsEq_all, List.all_eq_true]
  constructor
  · intro h
    refine List.ext_getElem (ha.trans hb.symm) fun i h1 h2 => ?_
    have := h i (by rw [List.mem_range]; omega)
    simpa [List.getD, List.getElem?_eq_getElem h1, List.getElem?_eq_getElem h2] using this
  · intro h i _; subst h; simp
theorem lblEq_iff {x y : Lbl} (hx : x.cats.length = 30) (hy : y.cats.length = 30) : lblEq x y = true ↔ x = y := by
  unfold lblEq
  rw [Bool.and_eq_true, catsEq_iff hx hy, beq_iff_eq]
  cases x; cases y; simp
theorem pfxEq_iff {x y : Pfx} : pfxEq x y = true ↔ x = y := by
  unfold pfxEq
  rw [Bool.and_eq_true, beq_iff_eq, beq_iff_eq]
  cases x; cases y; simp
theorem getD_mem {α : Type} {l : List α} {d : α} {i : Nat} (h : i < l.length) : l.getD i d ∈ l := by
  simp only [List.getD, List.getElem?_eq_getElem h, Option.getD_some]; exact List.getElem_mem h

/-- A part of a list's cells. -/
theorem cellsOf_drop {α : Type} {f : α → List Value} {n : Nat} (hf : ∀ a, (f a).length = n) : ∀ (l : List α) (k : Nat), k ≤ l.length → (cellsOf f l).drop (k * n) = cellsOf f (l.drop k)
  | l, 0, _ => by simp
  | [], k + 1, h => by simp at h
  | a :: l, k + 1, h => by
    simp only [cellsOf, List.drop_succ_cons]
    rw [show (k + 1) * n = (f a).length + k * n by rw [hf, Nat.succ_mul, Nat.add_comm], ← List.drop_drop, List.drop_left]
    exact cellsOf_drop hf l k (by simpa using h)
theorem cellsOf_part {α : Type} {f : α → List Value} {n : Nat} (hf : ∀ a, (f a).length = n) {l : List α} {k : Nat} (d : α) (hk : k < l.length) (r m : Nat) (hr : r + m ≤ n) (out : List Value) (ho : ((f (l.getD k d)).drop r).take m = out) {P : Program} :
    (Ask.part (cellsOf f l) (k * n + r) m out).holds P := by
  refine ⟨?_, ?_⟩
  · rw [cellsOf_length hf]
    have : (k + 1) * n ≤ l.length * n := Nat.mul_le_mul_right n hk
    rw [Nat.succ_mul] at this; omega
  · rw [← List.drop_drop, cellsOf_drop hf l k (Nat.le_of_lt hk)]
    have e : l.drop k = l.getD k d :: l.drop (k + 1) := by
      simp only [List.getD, List.getElem?_eq_getElem hk, Option.getD_some]; exact List.drop_eq_getElem_cons hk
    rw [e]; simp only [cellsOf]
    rw [List.drop_append_of_le_length (by rw [hf]; omega), List.take_append_of_le_length (by rw [List.length_drop, hf]; omega)]
    exact ho
end Go.Proofs.YtidlganponfccaaDoor

end
section
/- Lists: the first element of which something holds; what is wrong first. -/
set_option linter.unusedVariables false
set_option linter.unusedSimpArgs false
namespace Go.Proofs.YtidlganponfccaaDoor
open Go Go.Ideal

/-- The first place; -1: there is none. -/
def idxB {α : Type} (xs : List α) (p : α → Bool) : Int := match xs.findIdx? p with
  | some i => i
  | none => -1
theorem idxB_some {α : Type} {xs : List α} {p : α → Bool} {d : α} {k : Nat} (hk : k < xs.length) (h : p (xs.getD k d) = true) (no : ∀ j, j < k → p (xs.getD j d) = false) : idxB xs p = k := by
  have : xs.findIdx? p = some k := by
    rw [List.findIdx?_eq_some_iff_getElem]
    refine ⟨hk, by simpa [List.getD, List.getElem?_eq_getElem hk] using h, fun j hj => ?_⟩
    have := no j hj
    have hj2 : j < xs.length := by omega
    simpa [List.getD, List.getElem?_eq_getElem hj2] using this
  unfold idxB; rw [this]
theorem idxB_none {α : Type} {xs : List α} {p : α → Bool} {d : α} (no : ∀ j, j < xs.length → p (xs.getD j d) = false) : idxB xs p = -1 := by
  have : xs.findIdx? p = none := by
    rw [List.findIdx?_eq_none_iff]
    intro y hy
    obtain ⟨j, hj, e⟩ := List.getElem_of_mem hy
    have := no j hj
    simpa [List.getD, List.getElem?_eq_getElem hj, e] using this
  unfold idxB; rw [this]
/-- What is known of it. -/
theorem idxB_cases {α : Type} (xs : List α) (p : α → Bool) (d : α) : (∃ k : Nat, k < xs.length ∧ idxB xs p = k ∧ p (xs.getD k d) = true ∧ ∀ j, j < k → p (xs.getD j d) = false) ∨ (idxB xs p = -1 ∧ ∀ j, j < xs.length → p (xs.getD j d) = false) := by
  cases h : xs.findIdx? p with
  | none =>
    right
    refine ⟨by unfold idxB; rw [h], fun j hj => ?_⟩
    have := List.findIdx?_eq_none_iff.1 h (xs.getD j d) (getD_mem hj)
    simpa using this
  | some k =>
    left
    obtain ⟨h1, h2, h3⟩ := List.findIdx?_eq_some_iff_getElem.1 h
    refine ⟨k, h1, by unfold idxB; rw [h], by simpa [List.getD, List.getElem?_eq_getElem h1] using h2, fun j hj => ?_⟩
    have hj2 : j < xs.length := by omega
    simpa [List.getD, List.getElem?_eq_getElem hj2] using h3 j hj
theorem anyB_true {α : Type} {xs : List α} {p : α → Bool} {d : α} {k : Nat} (hk : k < xs.length) (h : p (xs.getD k d) = true) : xs.any p = true := List.any_eq_true.2 ⟨_, getD_mem hk, h⟩
theorem anyB_false {α : Type} {xs : List α} {p : α → Bool} {d : α} (no : ∀ j, j < xs.length → p (xs.getD j d) = false) : xs.any p = false := by
  rw [List.any_eq_false]
  intro y hy
  obtain ⟨j, hj, e⟩ := List.getElem_of_mem hy
  have := no j hj
  simpa [List.getD, List.getElem?_eq_getElem hj, e] using this
theorem anyB_idx {α : Type} [Inhabited α] (xs : List α) (p : α → Bool) : decide (0 ≤ idxB xs p) = xs.any p := by
  rcases idxB_cases xs p default with ⟨k, h1, h2, h3, _⟩ | ⟨h1, h2⟩
  · rw [h2, anyB_true h1 h3]; exact decide_eq_true (by omega)
  · rw [h1, anyB_false h2]; rfl

/-- The first place at which something is wrong, and what. -/
def firstBad (n : Nat) (bad : Nat → Int) : Int × Int := match (List.range n).find? (fun k => bad k != 0) with
  | some k => (k, bad k)
  | none => (n, 0)
theorem firstBad_at {n : Nat} {bad : Nat → Int} {k : Nat} (hk : k < n) (h : bad k ≠ 0) (no : ∀ j, j < k → bad j = 0) : firstBad n bad = ((k : Int), bad k) := by
  have : (List.range n).find? (fun k => bad k != 0) = some k := by
    rw [List.find?_range_eq_some]
    exact ⟨by simpa using h, by simpa using hk, fun j hj => by simpa using no j hj⟩
  unfold firstBad; rw [this]
theorem firstBad_none {n : Nat} {bad : Nat → Int} (no : ∀ j, j < n → bad j = 0) : firstBad n bad = ((n : Int), 0) := by
  have : (List.range n).find? (fun k => bad k != 0) = none := by
    rw [List.find?_eq_none]
    intro k hk
    simpa using no k (by simpa using hk)
  unfold firstBad; rw [this]
theorem firstBad_cases (n : Nat) (bad : Nat → Int) : (∃ k, k < n ∧ firstBad n bad = ((k : Int), bad k) ∧ bad k ≠ 0 ∧ ∀ j, j < k → bad j = 0) ∨ (firstBad n bad = ((n : Int), 0) ∧ ∀ j, j < n → bad j = 0) := by
  by_cases h : ∃ k, k < n ∧ bad k ≠ 0
  · left
    have hex : ∃ k, k < n ∧ bad k ≠ 0 ∧ ∀ j, j < k → bad j = 0 := by
      obtain ⟨k, hk, hb⟩ := h
      induction k using Nat.strongRecOn with
      | _ k ih =>
        by_cases hn : ∃ j, j < k ∧ bad j ≠ 0
        · obtain ⟨j, hj, hjb⟩ := hn; exact ih j hj (by omega) hjb
        · exact ⟨k, hk, hb, fun j hj => Classical.byContradiction fun e => hn ⟨j, hj, e⟩⟩
    obtain ⟨k, h1, h2, h3⟩ := hex
    exact ⟨k, h1, firstBad_at h1 h2 h3, h2, h3⟩
  · right
    have no : ∀ j, j < n → bad j = 0 := fun j hj => Classical.byContradiction fun e => h ⟨j, hj, e⟩
    exact ⟨firstBad_none no, no⟩

theorem cellsOf_snoc {α : Type} (f : α → List Value) (l : List α) (a : α) : cellsOf f (l ++ [a]) = cellsOf f l ++ f a := by
  rw [cellsOf_append]; simp [cellsOf]
theorem take_snoc {α : Type} {l : List α} {k : Nat} (d : α) (hk : k < l.length) : l.take (k + 1) = l.take k ++ [l.getD k d] := by
  rw [List.take_add_one]
  simp [List.getD, List.getElem?_eq_getElem hk]
/-- A key's place in a map. -/
theorem findI_map {P : Program} {kt : TypeId} {α : Type} {f : α → Value} {eq : α → α → Bool} (h : ∀ a b, eqD P 10000 kt (f a) (f b) = some (eq a b)) (x : α) : ∀ (ys : List α) (i : Nat), findI P kt (f x) (ys.map f) i = some ((ys.findIdx? (eq x)).map (· + i))
  | [], i => rfl
  | y :: ys, i => by
    simp only [List.map_cons, findI, h, List.findIdx?_cons]
    cases eq x y with
    | true => simp
    | false =>
      simp only [findI_map h x ys (i + 1)]
      cases ys.findIdx? (eq x) with
      | none => rfl
      | some j => simp [Nat.add_assoc, Nat.add_comm 1 i]
theorem findIdx_of_any {α : Type} {ys : List α} {p : α → Bool} (h : ys.any p = true) : ys.findIdx? p = some (ys.findIdx p) ∧ ys.findIdx p < ys.length := by
  rw [List.findIdx?_eq_some_iff_findIdx_eq]
  have : ys.findIdx p < ys.length := List.findIdx_lt_length.2 (List.any_eq_true.1 h)
  exact ⟨⟨this, rfl⟩, this⟩
theorem findIdx_of_not_any {α : Type} {ys : List α} {p : α → Bool} (h : ys.any p = false) : ys.findIdx? p = none := by
  rw [List.findIdx?_eq_none_iff]
  intro x hx
  have := List.any_eq_false.1 h x hx
  simpa using this
theorem mul_room {a b : Int} (A B : Int) (ha : a ≤ A) (h0 : 0 ≤ b) (hb : b ≤ B) (hA : 0 ≤ A) (h : A * B ≤ 1099511627776) : a * b ≤ 1099511627776 :=
  Int.le_trans (Int.mul_le_mul ha hb h0 hA) h
theorem lt_next {p : Nat → Prop} {k : Nat} (h : ∀ j, j < k → p j) (hk : p k) : ∀ j, j < k + 1 → p j := fun j hj => by
  rcases Nat.lt_or_ge j k with q | q
  · exact h j q
  · obtain rfl : j = k := by omega
    exact hk
/-- A key's place in a map, by what it is compared with. -/
theorem findI_mapK {P : Program} {kt : TypeId} {α : Type} {f : α → Value} {x : Value} {eq : α → Bool} (h : ∀ a, eqD P 10000 kt x (f a) = some (eq a)) : ∀ (ys : List α) (i : Nat), findI P kt x (ys.map f) i = some ((ys.findIdx? eq).map (· + i))
  | [], i => rfl
  | y :: ys, i => by
    simp only [List.map_cons, findI, h, List.findIdx?_cons]
    cases eq y with
    | true => simp
    | false =>
      simp only [findI_mapK h ys (i + 1)]
      cases ys.findIdx? eq with
      | none => rfl
      | some j => simp [Nat.add_assoc, Nat.add_comm 1 i]
theorem allB_iff {n : Nat} {p : Nat → Bool} : (List.range n).all p = true ↔ ∀ k, k < n → p k = true := by
  rw [List.all_eq_true]; exact ⟨fun h k hk => h k (by simpa using hk), fun h k hk => h k (by simpa using hk)⟩
theorem allB_no {n : Nat} {p : Nat → Bool} {k : Nat} (hk : k < n) (h : p k = false) : (List.range n).all p = false := by
  cases e : (List.range n).all p with
  | false => rfl
  | true => rw [allB_iff.1 e k hk] at h; cases h
theorem wrap_next (k : Nat) (h : k < 9223372036854775807) : Value.int IntKind.i64 (IntKind.wrap IntKind.i64 ((k : Int) + 1)) = Value.int IntKind.i64 ((k + 1 : Nat) : Int) := congrArg _ (wrap_in (by omega) (by omega))
theorem cellsOf_take {α : Type} {f : α → List Value} {n : Nat} (hf : ∀ a, (f a).length = n) : ∀ (l : List α) (k : Nat), (cellsOf f l).take (k * n) = cellsOf f (l.take k)
  | _, 0 => by simp [cellsOf]
  | [], k + 1 => by simp [cellsOf]
  | a :: l, k + 1 => by
    simp only [cellsOf, List.take_succ_cons]
    rw [show (k + 1) * n = (f a).length + k * n by rw [hf, Nat.succ_mul, Nat.add_comm], List.take_length_add_append, cellsOf_take hf l k]
/-- The first k elements. -/
theorem slice_take {P : Program} {α : Type} {f : α → List Value} {n : Nat} (hf : ∀ a, (f a).length = n) {l : List α} {k : Nat} (hk : k ≤ l.length) :
    (Ask.get [vsl ((k : Int) - 0) (Array.mk (List.take (Int.toNat ((k : Int) - 0) * n) (List.drop (Int.toNat 0 * n) (cellsOf f l))))] 0 (vsl ((l.take k).length : Nat) (Array.mk (cellsOf f (l.take k))))).holds P := by
  show some _ = some _
  rw [List.length_take_of_le hk, show (k : Int) - 0 = k by omega, Int.toNat_natCast, show Int.toNat 0 * n = 0 by rw [Int.toNat_zero, Nat.zero_mul], List.drop_zero, cellsOf_take hf]
theorem any_take {α : Type} {xs : List α} {p : α → Bool} (d : α) {k : Nat} (hk : k ≤ xs.length) : (xs.take k).any p = true ↔ ∃ j, j < k ∧ p (xs.getD j d) = true := by
  rw [List.any_eq_true]
  constructor
  · rintro ⟨q, hq, e⟩
    obtain ⟨j, hj, rfl⟩ := List.getElem_of_mem hq
    rw [List.length_take] at hj
    refine ⟨j, by omega, ?_⟩
    rw [List.getElem_take] at e
    simpa [List.getD, List.getElem?_eq_getElem (show j < xs.length by omega)] using e
  · rintro ⟨j, hj, e⟩
    refine ⟨(xs.take k)[j]'(by rw [List.length_take]; omega), List.getElem_mem _, ?_⟩
    rw [List.getElem_take]
    simpa [List.getD, List.getElem?_eq_getElem (show j < xs.length by omega)] using e
theorem any_take_false {α : Type} {xs : List α} {p : α → Bool} (d : α) {k : Nat} (hk : k ≤ xs.length) (h : ∀ j, j < k → p (xs.getD j d) = false) : (xs.take k).any p = false := by
  cases e : (xs.take k).any p with
  | false => rfl
  | true => obtain ⟨j, h1, h2⟩ := (any_take d hk).1 e; rw [h j h1] at h2; cases h2
end Go.Proofs.YtidlganponfccaaDoor

end
