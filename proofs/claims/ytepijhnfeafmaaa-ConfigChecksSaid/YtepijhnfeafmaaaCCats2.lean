/- What the functions of sets answer: within. -/
import Derived.Test.YtepijhnfeafmaaaCCats
set_option linter.unusedVariables false
set_option linter.unusedSimpArgs false
set_option maxRecDepth 100000
namespace Go.Proofs.Ytepijhnfeafmaaa
open Go Go.Ideal
theorem within_w (a b : List Int) : CallK Try.prog 145 [catsV a, catsV b] (.bool (withinC a b)) :=
  CallK.via progOK (pfs []) [] 100 (Adv.chks (8 : Nat) none Adv.nil Adv.nil) (by kernel_rfl) (by kernel_rfl) (p := True ∧
  ((IntKind.wrap IntKind.u8
              (↑(BitVec.toNat (BitVec.ofInt (IntKind.bits IntKind.u8) (List.getD a (0 : Nat) (0 : Int)) &&& BitVec.ofInt (IntKind.bits IntKind.u8) (List.getD b (0 : Nat) (0 : Int)))) : Int) ==
            List.getD a (0 : Nat) (0 : Int) &&
          (IntKind.wrap IntKind.u8
                (↑(BitVec.toNat (BitVec.ofInt (IntKind.bits IntKind.u8) (List.getD a (1 : Nat) (0 : Int)) &&& BitVec.ofInt (IntKind.bits IntKind.u8) (List.getD b (1 : Nat) (0 : Int)))) : Int) ==
              List.getD a (1 : Nat) (0 : Int) &&
            (IntKind.wrap IntKind.u8
                  (↑(BitVec.toNat (BitVec.ofInt (IntKind.bits IntKind.u8) (List.getD a (2 : Nat) (0 : Int)) &&& BitVec.ofInt (IntKind.bits IntKind.u8) (List.getD b (2 : Nat) (0 : Int)))) : Int) ==
                List.getD a (2 : Nat) (0 : Int) &&
              (IntKind.wrap IntKind.u8
                    (↑(BitVec.toNat (BitVec.ofInt (IntKind.bits IntKind.u8) (List.getD a (3 : Nat) (0 : Int)) &&& BitVec.ofInt (IntKind.bits IntKind.u8) (List.getD b (3 : Nat) (0 : Int)))) : Int) ==
                  List.getD a (3 : Nat) (0 : Int) &&
                (IntKind.wrap IntKind.u8
                      (↑(BitVec.toNat (BitVec.ofInt (IntKind.bits IntKind.u8) (List.getD a (4 : Nat) (0 : Int)) &&& BitVec.ofInt (IntKind.bits IntKind.u8) (List.getD b (4 : Nat) (0 : Int)))) : Int) ==
                    List.getD a (4 : Nat) (0 : Int) &&
                  (IntKind.wrap IntKind.u8
                        (↑(BitVec.toNat (BitVec.ofInt (IntKind.bits IntKind.u8) (List.getD a (5 : Nat) (0 : Int)) &&& BitVec.ofInt (IntKind.bits IntKind.u8) (List.getD b (5 : Nat) (0 : Int)))) :
                          Int) ==
                      List.getD a (5 : Nat) (0 : Int) &&
                    (IntKind.wrap IntKind.u8
                          (↑(BitVec.toNat (BitVec.ofInt (IntKind.bits IntKind.u8) (List.getD a (6 : Nat) (0 : Int)) &&& BitVec.ofInt (IntKind.bits IntKind.u8) (List.getD b (6 : Nat) (0 : Int)))) :
                            Int) ==
                        List.getD a (6 : Nat) (0 : Int) &&
                      (IntKind.wrap IntKind.u8
                            (↑(BitVec.toNat (BitVec.ofInt (IntKind.bits IntKind.u8) (List.getD a (7 : Nat) (0 : Int)) &&& BitVec.ofInt (IntKind.bits IntKind.u8) (List.getD b (7 : Nat) (0 : Int)))) :
                              Int) ==
                          List.getD a (7 : Nat) (0 : Int) &&
                        (IntKind.wrap IntKind.u8
                              (↑(BitVec.toNat (BitVec.ofInt (IntKind.bits IntKind.u8) (List.getD a (8 : Nat) (0 : Int)) &&& BitVec.ofInt (IntKind.bits IntKind.u8) (List.getD b (8 : Nat) (0 : Int)))) :
                                Int) ==
                            List.getD a (8 : Nat) (0 : Int) &&
                          (IntKind.wrap IntKind.u8
                                (↑(BitVec.toNat
                                      (BitVec.ofInt (IntKind.bits IntKind.u8) (List.getD a (9 : Nat) (0 : Int)) &&& BitVec.ofInt (IntKind.bits IntKind.u8) (List.getD b (9 : Nat) (0 : Int)))) :
                                  Int) ==
                              List.getD a (9 : Nat) (0 : Int) &&
                            (IntKind.wrap IntKind.u8
                                  (↑(BitVec.toNat
                                        (BitVec.ofInt (IntKind.bits IntKind.u8) (List.getD a (10 : Nat) (0 : Int)) &&& BitVec.ofInt (IntKind.bits IntKind.u8) (List.getD b (10 : Nat) (0 : Int)))) :
                                    Int) ==
                                List.getD a (10 : Nat) (0 : Int) &&
                              (IntKind.wrap IntKind.u8
                                    (↑(BitVec.toNat
                                          (BitVec.ofInt (IntKind.bits IntKind.u8) (List.getD a (11 : Nat) (0 : Int)) &&& BitVec.ofInt (IntKind.bits IntKind.u8) (List.getD b (11 : Nat) (0 : Int)))) :
                                      Int) ==
                                  List.getD a (11 : Nat) (0 : Int) &&
                                (IntKind.wrap IntKind.u8
                                      (↑(BitVec.toNat
                                            (BitVec.ofInt (IntKind.bits IntKind.u8) (List.getD a (12 : Nat) (0 : Int)) &&& BitVec.ofInt (IntKind.bits IntKind.u8) (List.getD b (12 : Nat) (0 : Int)))) :
                                        Int) ==
                                    List.getD a (12 : Nat) (0 : Int) &&
                                  (IntKind.wrap IntKind.u8
                                        (↑(BitVec.toNat
                                              (BitVec.ofInt (IntKind.bits IntKind.u8) (List.getD a (13 : Nat) (0 : Int)) &&&
                                                BitVec.ofInt (IntKind.bits IntKind.u8) (List.getD b (13 : Nat) (0 : Int)))) :
                                          Int) ==
                                      List.getD a (13 : Nat) (0 : Int) &&
                                    (IntKind.wrap IntKind.u8
                                          (↑(BitVec.toNat
                                                (BitVec.ofInt (IntKind.bits IntKind.u8) (List.getD a (14 : Nat) (0 : Int)) &&&
                                                  BitVec.ofInt (IntKind.bits IntKind.u8) (List.getD b (14 : Nat) (0 : Int)))) :
                                            Int) ==
                                        List.getD a (14 : Nat) (0 : Int) &&
                                      (IntKind.wrap IntKind.u8
                                            (↑(BitVec.toNat
                                                  (BitVec.ofInt (IntKind.bits IntKind.u8) (List.getD a (15 : Nat) (0 : Int)) &&&
                                                    BitVec.ofInt (IntKind.bits IntKind.u8) (List.getD b (15 : Nat) (0 : Int)))) :
                                              Int) ==
                                          List.getD a (15 : Nat) (0 : Int) &&
                                        (IntKind.wrap IntKind.u8
                                              (↑(BitVec.toNat
                                                    (BitVec.ofInt (IntKind.bits IntKind.u8) (List.getD a (16 : Nat) (0 : Int)) &&&
                                                      BitVec.ofInt (IntKind.bits IntKind.u8) (List.getD b (16 : Nat) (0 : Int)))) :
                                                Int) ==
                                            List.getD a (16 : Nat) (0 : Int) &&
                                          (IntKind.wrap IntKind.u8
                                                (↑(BitVec.toNat
                                                      (BitVec.ofInt (IntKind.bits IntKind.u8) (List.getD a (17 : Nat) (0 : Int)) &&&
                                                        BitVec.ofInt (IntKind.bits IntKind.u8) (List.getD b (17 : Nat) (0 : Int)))) :
                                                  Int) ==
                                              List.getD a (17 : Nat) (0 : Int) &&
                                            (IntKind.wrap IntKind.u8
                                                  (↑(BitVec.toNat
                                                        (BitVec.ofInt (IntKind.bits IntKind.u8) (List.getD a (18 : Nat) (0 : Int)) &&&
                                                          BitVec.ofInt (IntKind.bits IntKind.u8) (List.getD b (18 : Nat) (0 : Int)))) :
                                                    Int) ==
                                                List.getD a (18 : Nat) (0 : Int) &&
                                              (IntKind.wrap IntKind.u8
                                                    (↑(BitVec.toNat
                                                          (BitVec.ofInt (IntKind.bits IntKind.u8) (List.getD a (19 : Nat) (0 : Int)) &&&
                                                            BitVec.ofInt (IntKind.bits IntKind.u8) (List.getD b (19 : Nat) (0 : Int)))) :
                                                      Int) ==
                                                  List.getD a (19 : Nat) (0 : Int) &&
                                                (IntKind.wrap IntKind.u8
                                                      (↑(BitVec.toNat
                                                            (BitVec.ofInt (IntKind.bits IntKind.u8) (List.getD a (20 : Nat) (0 : Int)) &&&
                                                              BitVec.ofInt (IntKind.bits IntKind.u8) (List.getD b (20 : Nat) (0 : Int)))) :
                                                        Int) ==
                                                    List.getD a (20 : Nat) (0 : Int) &&
                                                  (IntKind.wrap IntKind.u8
                                                        (↑(BitVec.toNat
                                                              (BitVec.ofInt (IntKind.bits IntKind.u8) (List.getD a (21 : Nat) (0 : Int)) &&&
                                                                BitVec.ofInt (IntKind.bits IntKind.u8) (List.getD b (21 : Nat) (0 : Int)))) :
                                                          Int) ==
                                                      List.getD a (21 : Nat) (0 : Int) &&
                                                    (IntKind.wrap IntKind.u8
                                                          (↑(BitVec.toNat
                                                                (BitVec.ofInt (IntKind.bits IntKind.u8) (List.getD a (22 : Nat) (0 : Int)) &&&
                                                                  BitVec.ofInt (IntKind.bits IntKind.u8) (List.getD b (22 : Nat) (0 : Int)))) :
                                                            Int) ==
                                                        List.getD a (22 : Nat) (0 : Int) &&
                                                      (IntKind.wrap IntKind.u8
                                                            (↑(BitVec.toNat
                                                                  (BitVec.ofInt (IntKind.bits IntKind.u8) (List.getD a (23 : Nat) (0 : Int)) &&&
                                                                    BitVec.ofInt (IntKind.bits IntKind.u8) (List.getD b (23 : Nat) (0 : Int)))) :
                                                              Int) ==
                                                          List.getD a (23 : Nat) (0 : Int) &&
                                                        (IntKind.wrap IntKind.u8
                                                              (↑(BitVec.toNat
                                                                    (BitVec.ofInt (IntKind.bits IntKind.u8) (List.getD a (24 : Nat) (0 : Int)) &&&
                                                                      BitVec.ofInt (IntKind.bits IntKind.u8) (List.getD b (24 : Nat) (0 : Int)))) :
                                                                Int) ==
                                                            List.getD a (24 : Nat) (0 : Int) &&
                                                          (IntKind.wrap IntKind.u8
                                                                (↑(BitVec.toNat
                                                                      (BitVec.ofInt (IntKind.bits IntKind.u8) (List.getD a (25 : Nat) (0 : Int)) &&&
                                                                        BitVec.ofInt (IntKind.bits IntKind.u8) (List.getD b (25 : Nat) (0 : Int)))) :
                                                                  Int) ==
                                                              List.getD a (25 : Nat) (0 : Int) &&
                                                            (IntKind.wrap IntKind.u8
                                                                  (↑(BitVec.toNat
                                                                        (BitVec.ofInt (IntKind.bits IntKind.u8) (List.getD a (26 : Nat) (0 : Int)) &&&
                                                                          BitVec.ofInt (IntKind.bits IntKind.u8) (List.getD b (26 : Nat) (0 : Int)))) :
                                                                    Int) ==
                                                                List.getD a (26 : Nat) (0 : Int) &&
                                                              (IntKind.wrap IntKind.u8
                                                                    (↑(BitVec.toNat
                                                                          (BitVec.ofInt (IntKind.bits IntKind.u8) (List.getD a (27 : Nat) (0 : Int)) &&&
                                                                            BitVec.ofInt (IntKind.bits IntKind.u8) (List.getD b (27 : Nat) (0 : Int)))) :
                                                                      Int) ==
                                                                  List.getD a (27 : Nat) (0 : Int) &&
                                                                (IntKind.wrap IntKind.u8
                                                                      (↑(BitVec.toNat
                                                                            (BitVec.ofInt (IntKind.bits IntKind.u8) (List.getD a (28 : Nat) (0 : Int)) &&&
                                                                              BitVec.ofInt (IntKind.bits IntKind.u8) (List.getD b (28 : Nat) (0 : Int)))) :
                                                                        Int) ==
                                                                    List.getD a (28 : Nat) (0 : Int) &&
                                                                  IntKind.wrap IntKind.u8
                                                                      (↑(BitVec.toNat
                                                                            (BitVec.ofInt (IntKind.bits IntKind.u8) (List.getD a (29 : Nat) (0 : Int)) &&&
                                                                              BitVec.ofInt (IntKind.bits IntKind.u8) (List.getD b (29 : Nat) (0 : Int)))) :
                                                                        Int) ==
                                                                    List.getD a (29 : Nat) (0 : Int)))))))))))))))))))))))))))))) =
        true →
      (Value.agg (Array.mk (catsL a)) = Value.agg (Array.mk (catsL a)) ∧
          Value.agg (Array.mk (catsL a)) = Value.agg (Array.mk (catsL a)) ∧
            Value.agg (Array.mk (catsL a)) = Value.agg (Array.mk (catsL a)) ∧
              Value.agg (Array.mk (catsL a)) = Value.agg (Array.mk (catsL a)) ∧ Value.agg (Array.mk (catsL a)) = Value.agg (Array.mk (catsL a))) ∧
        Value.bool true = Value.bool (withinC a b)) ∧
    ((IntKind.wrap IntKind.u8
              (↑(BitVec.toNat (BitVec.ofInt (IntKind.bits IntKind.u8) (List.getD a (0 : Nat) (0 : Int)) &&& BitVec.ofInt (IntKind.bits IntKind.u8) (List.getD b (0 : Nat) (0 : Int)))) : Int) ==
            List.getD a (0 : Nat) (0 : Int) &&
          (IntKind.wrap IntKind.u8
                (↑(BitVec.toNat (BitVec.ofInt (IntKind.bits IntKind.u8) (List.getD a (1 : Nat) (0 : Int)) &&& BitVec.ofInt (IntKind.bits IntKind.u8) (List.getD b (1 : Nat) (0 : Int)))) : Int) ==
              List.getD a (1 : Nat) (0 : Int) &&
            (IntKind.wrap IntKind.u8
                  (↑(BitVec.toNat (BitVec.ofInt (IntKind.bits IntKind.u8) (List.getD a (2 : Nat) (0 : Int)) &&& BitVec.ofInt (IntKind.bits IntKind.u8) (List.getD b (2 : Nat) (0 : Int)))) : Int) ==
                List.getD a (2 : Nat) (0 : Int) &&
              (IntKind.wrap IntKind.u8
                    (↑(BitVec.toNat (BitVec.ofInt (IntKind.bits IntKind.u8) (List.getD a (3 : Nat) (0 : Int)) &&& BitVec.ofInt (IntKind.bits IntKind.u8) (List.getD b (3 : Nat) (0 : Int)))) : Int) ==
                  List.getD a (3 : Nat) (0 : Int) &&
                (IntKind.wrap IntKind.u8
                      (↑(BitVec.toNat (BitVec.ofInt (IntKind.bits IntKind.u8) (List.getD a (4 : Nat) (0 : Int)) &&& BitVec.ofInt (IntKind.bits IntKind.u8) (List.getD b (4 : Nat) (0 : Int)))) : Int) ==
                    List.getD a (4 : Nat) (0 : Int) &&
                  (IntKind.wrap IntKind.u8
                        (↑(BitVec.toNat (BitVec.ofInt (IntKind.bits IntKind.u8) (List.getD a (5 : Nat) (0 : Int)) &&& BitVec.ofInt (IntKind.bits IntKind.u8) (List.getD b (5 : Nat) (0 : Int)))) :
                          Int) ==
                      List.getD a (5 : Nat) (0 : Int) &&
                    (IntKind.wrap IntKind.u8
                          (↑(BitVec.toNat (BitVec.ofInt (IntKind.bits IntKind.u8) (List.getD a (6 : Nat) (0 : Int)) &&& BitVec.ofInt (IntKind.bits IntKind.u8) (List.getD b (6 : Nat) (0 : Int)))) :
                            Int) ==
                        List.getD a (6 : Nat) (0 : Int) &&
                      (IntKind.wrap IntKind.u8
                            (↑(BitVec.toNat (BitVec.ofInt (IntKind.bits IntKind.u8) (List.getD a (7 : Nat) (0 : Int)) &&& BitVec.ofInt (IntKind.bits IntKind.u8) (List.getD b (7 : Nat) (0 : Int)))) :
                              Int) ==
                          List.getD a (7 : Nat) (0 : Int) &&
                        (IntKind.wrap IntKind.u8
                              (↑(BitVec.toNat (BitVec.ofInt (IntKind.bits IntKind.u8) (List.getD a (8 : Nat) (0 : Int)) &&& BitVec.ofInt (IntKind.bits IntKind.u8) (List.getD b (8 : Nat) (0 : Int)))) :
                                Int) ==
                            List.getD a (8 : Nat) (0 : Int) &&
                          (IntKind.wrap IntKind.u8
                                (↑(BitVec.toNat
                                      (BitVec.ofInt (IntKind.bits IntKind.u8) (List.getD a (9 : Nat) (0 : Int)) &&& BitVec.ofInt (IntKind.bits IntKind.u8) (List.getD b (9 : Nat) (0 : Int)))) :
                                  Int) ==
                              List.getD a (9 : Nat) (0 : Int) &&
                            (IntKind.wrap IntKind.u8
                                  (↑(BitVec.toNat
                                        (BitVec.ofInt (IntKind.bits IntKind.u8) (List.getD a (10 : Nat) (0 : Int)) &&& BitVec.ofInt (IntKind.bits IntKind.u8) (List.getD b (10 : Nat) (0 : Int)))) :
                                    Int) ==
                                List.getD a (10 : Nat) (0 : Int) &&
                              (IntKind.wrap IntKind.u8
                                    (↑(BitVec.toNat
                                          (BitVec.ofInt (IntKind.bits IntKind.u8) (List.getD a (11 : Nat) (0 : Int)) &&& BitVec.ofInt (IntKind.bits IntKind.u8) (List.getD b (11 : Nat) (0 : Int)))) :
                                      Int) ==
                                  List.getD a (11 : Nat) (0 : Int) &&
                                (IntKind.wrap IntKind.u8
                                      (↑(BitVec.toNat
                                            (BitVec.ofInt (IntKind.bits IntKind.u8) (List.getD a (12 : Nat) (0 : Int)) &&& BitVec.ofInt (IntKind.bits IntKind.u8) (List.getD b (12 : Nat) (0 : Int)))) :
                                        Int) ==
                                    List.getD a (12 : Nat) (0 : Int) &&
                                  (IntKind.wrap IntKind.u8
                                        (↑(BitVec.toNat
                                              (BitVec.ofInt (IntKind.bits IntKind.u8) (List.getD a (13 : Nat) (0 : Int)) &&&
                                                BitVec.ofInt (IntKind.bits IntKind.u8) (List.getD b (13 : Nat) (0 : Int)))) :
                                          Int) ==
                                      List.getD a (13 : Nat) (0 : Int) &&
                                    (IntKind.wrap IntKind.u8
                                          (↑(BitVec.toNat
                                                (BitVec.ofInt (IntKind.bits IntKind.u8) (List.getD a (14 : Nat) (0 : Int)) &&&
                                                  BitVec.ofInt (IntKind.bits IntKind.u8) (List.getD b (14 : Nat) (0 : Int)))) :
                                            Int) ==
                                        List.getD a (14 : Nat) (0 : Int) &&
                                      (IntKind.wrap IntKind.u8
                                            (↑(BitVec.toNat
                                                  (BitVec.ofInt (IntKind.bits IntKind.u8) (List.getD a (15 : Nat) (0 : Int)) &&&
                                                    BitVec.ofInt (IntKind.bits IntKind.u8) (List.getD b (15 : Nat) (0 : Int)))) :
                                              Int) ==
                                          List.getD a (15 : Nat) (0 : Int) &&
                                        (IntKind.wrap IntKind.u8
                                              (↑(BitVec.toNat
                                                    (BitVec.ofInt (IntKind.bits IntKind.u8) (List.getD a (16 : Nat) (0 : Int)) &&&
                                                      BitVec.ofInt (IntKind.bits IntKind.u8) (List.getD b (16 : Nat) (0 : Int)))) :
                                                Int) ==
                                            List.getD a (16 : Nat) (0 : Int) &&
                                          (IntKind.wrap IntKind.u8
                                                (↑(BitVec.toNat
                                                      (BitVec.ofInt (IntKind.bits IntKind.u8) (List.getD a (17 : Nat) (0 : Int)) &&&
                                                        BitVec.ofInt (IntKind.bits IntKind.u8) (List.getD b (17 : Nat) (0 : Int)))) :
                                                  Int) ==
                                              List.getD a (17 : Nat) (0 : Int) &&
                                            (IntKind.wrap IntKind.u8
                                                  (↑(BitVec.toNat
                                                        (BitVec.ofInt (IntKind.bits IntKind.u8) (List.getD a (18 : Nat) (0 : Int)) &&&
                                                          BitVec.ofInt (IntKind.bits IntKind.u8) (List.getD b (18 : Nat) (0 : Int)))) :
                                                    Int) ==
                                                List.getD a (18 : Nat) (0 : Int) &&
                                              (IntKind.wrap IntKind.u8
                                                    (↑(BitVec.toNat
                                                          (BitVec.ofInt (IntKind.bits IntKind.u8) (List.getD a (19 : Nat) (0 : Int)) &&&
                                                            BitVec.ofInt (IntKind.bits IntKind.u8) (List.getD b (19 : Nat) (0 : Int)))) :
                                                      Int) ==
                                                  List.getD a (19 : Nat) (0 : Int) &&
                                                (IntKind.wrap IntKind.u8
                                                      (↑(BitVec.toNat
                                                            (BitVec.ofInt (IntKind.bits IntKind.u8) (List.getD a (20 : Nat) (0 : Int)) &&&
                                                              BitVec.ofInt (IntKind.bits IntKind.u8) (List.getD b (20 : Nat) (0 : Int)))) :
                                                        Int) ==
                                                    List.getD a (20 : Nat) (0 : Int) &&
                                                  (IntKind.wrap IntKind.u8
                                                        (↑(BitVec.toNat
                                                              (BitVec.ofInt (IntKind.bits IntKind.u8) (List.getD a (21 : Nat) (0 : Int)) &&&
                                                                BitVec.ofInt (IntKind.bits IntKind.u8) (List.getD b (21 : Nat) (0 : Int)))) :
                                                          Int) ==
                                                      List.getD a (21 : Nat) (0 : Int) &&
                                                    (IntKind.wrap IntKind.u8
                                                          (↑(BitVec.toNat
                                                                (BitVec.ofInt (IntKind.bits IntKind.u8) (List.getD a (22 : Nat) (0 : Int)) &&&
                                                                  BitVec.ofInt (IntKind.bits IntKind.u8) (List.getD b (22 : Nat) (0 : Int)))) :
                                                            Int) ==
                                                        List.getD a (22 : Nat) (0 : Int) &&
                                                      (IntKind.wrap IntKind.u8
                                                            (↑(BitVec.toNat
                                                                  (BitVec.ofInt (IntKind.bits IntKind.u8) (List.getD a (23 : Nat) (0 : Int)) &&&
                                                                    BitVec.ofInt (IntKind.bits IntKind.u8) (List.getD b (23 : Nat) (0 : Int)))) :
                                                              Int) ==
                                                          List.getD a (23 : Nat) (0 : Int) &&
                                                        (IntKind.wrap IntKind.u8
                                                              (↑(BitVec.toNat
                                                                    (BitVec.ofInt (IntKind.bits IntKind.u8) (List.getD a (24 : Nat) (0 : Int)) &&&
                                                                      BitVec.ofInt (IntKind.bits IntKind.u8) (List.getD b (24 : Nat) (0 : Int)))) :
                                                                Int) ==
                                                            List.getD a (24 : Nat) (0 : Int) &&
                                                          (IntKind.wrap IntKind.u8
                                                                (↑(BitVec.toNat
                                                                      (BitVec.ofInt (IntKind.bits IntKind.u8) (List.getD a (25 : Nat) (0 : Int)) &&&
                                                                        BitVec.ofInt (IntKind.bits IntKind.u8) (List.getD b (25 : Nat) (0 : Int)))) :
                                                                  Int) ==
                                                              List.getD a (25 : Nat) (0 : Int) &&
                                                            (IntKind.wrap IntKind.u8
                                                                  (↑(BitVec.toNat
                                                                        (BitVec.ofInt (IntKind.bits IntKind.u8) (List.getD a (26 : Nat) (0 : Int)) &&&
                                                                          BitVec.ofInt (IntKind.bits IntKind.u8) (List.getD b (26 : Nat) (0 : Int)))) :
                                                                    Int) ==
                                                                List.getD a (26 : Nat) (0 : Int) &&
                                                              (IntKind.wrap IntKind.u8
                                                                    (↑(BitVec.toNat
                                                                          (BitVec.ofInt (IntKind.bits IntKind.u8) (List.getD a (27 : Nat) (0 : Int)) &&&
                                                                            BitVec.ofInt (IntKind.bits IntKind.u8) (List.getD b (27 : Nat) (0 : Int)))) :
                                                                      Int) ==
                                                                  List.getD a (27 : Nat) (0 : Int) &&
                                                                (IntKind.wrap IntKind.u8
                                                                      (↑(BitVec.toNat
                                                                            (BitVec.ofInt (IntKind.bits IntKind.u8) (List.getD a (28 : Nat) (0 : Int)) &&&
                                                                              BitVec.ofInt (IntKind.bits IntKind.u8) (List.getD b (28 : Nat) (0 : Int)))) :
                                                                        Int) ==
                                                                    List.getD a (28 : Nat) (0 : Int) &&
                                                                  IntKind.wrap IntKind.u8
                                                                      (↑(BitVec.toNat
                                                                            (BitVec.ofInt (IntKind.bits IntKind.u8) (List.getD a (29 : Nat) (0 : Int)) &&&
                                                                              BitVec.ofInt (IntKind.bits IntKind.u8) (List.getD b (29 : Nat) (0 : Int)))) :
                                                                        Int) ==
                                                                    List.getD a (29 : Nat) (0 : Int)))))))))))))))))))))))))))))) =
        false →
      (Value.agg (Array.mk (catsL a)) = Value.agg (Array.mk (catsL a)) ∧
          Value.agg (Array.mk (catsL a)) = Value.agg (Array.mk (catsL a)) ∧
            Value.agg (Array.mk (catsL a)) = Value.agg (Array.mk (catsL a)) ∧
              Value.agg (Array.mk (catsL a)) = Value.agg (Array.mk (catsL a)) ∧ Value.agg (Array.mk (catsL a)) = Value.agg (Array.mk (catsL a))) ∧
        Value.bool false = Value.bool (withinC a b))) (by kernel_rfl) (by
    have e : List.range 30 = [0, 1, 2, 3, 4, 5, 6, 7, 8, 9, 10, 11, 12, 13, 14, 15, 16, 17, 18, 19, 20, 21, 22, 23, 24, 25, 26, 27, 28, 29] := rfl
    refine ⟨trivial, fun h => ⟨by simp only [and_self], congrArg Value.bool (h.symm.trans ?_)⟩, fun h => ⟨by simp only [and_self], congrArg Value.bool (h.symm.trans ?_)⟩⟩
    all_goals (rw [withinC, e]; simp only [List.all_cons, List.all_nil, Bool.and_true]; rfl))
end Go.Proofs.Ytepijhnfeafmaaa
