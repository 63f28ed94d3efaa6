/-
  SEVERAL TEXTS IN ONE (joined by tools/assemble.py of this repository): Dc1, Dc2, Dp, Dm, De22, De23, De24, De25, Rw, Aa.
-/
import Derived.Test.YtjlmeikcfdanmaaGreatDoorQc2
import Derived.Test.YtjlmeikcfdanmaaGreatDoorProg
import Derived.KernelRfl
import GoSem.Op.String
import Derived.Laws.BitsLemmas
import Derived.Test.YtjlmeikcfdanmaaGreatDoorRows
import Derived.ProofKit
import Derived.Deep.Slices
import Derived.Deep.Strs
set_option linter.unusedVariables false
set_option linter.unusedSimpArgs false
namespace Go.Proofs.YtjlmeikcfdanmaaGreatDoor.DE
/-- lineage/bignat.FromUint -/
def c75 : C :=
  (.seq (.reg [.o 2 (.mv (.c (.sl 1 true [] .ro)))] [2]) (.seq (.reg [.o 3 (.mv (.t 0)), .o 4 (.conv .u32 (.t 3)), .o 5 (.mv (.t 0)), .o 6 (.bin .shr .num (.t 5) (.c (.i .u64 32))), .o 7 (.conv .u32 (.t 6)), .o 8 (.bsl 1 false false [.t 4, .t 7]), .o 9 (.call 116 true [.t 8]), .o 2 (.mv (.t 9))] [0, 3, 4, 5, 6, 7, 8, 9]) .ret))
def d75 : Fn := { real := 75, np := 1, nt := 10, res := [.t 2], body := c75 }

/-- lineage/bignat.Shift -/
def c76 : C :=
  (.seq (.reg [.o 4 (.mv (.c (.sl 1 true [] .ro))), .o 5 (.mv (.c (.i .i64 0)))] [4, 5]) (.seq (.blk 0 (.seq (.reg [.o 7 (.mv (.t 0)), .o 8 (.call 79 true [.t 7]), .o 9 (.un .not (.t 8)), .o 6 (.mv (.t 9))] [7, 8, 9]) (.cond (.t 6) (.seq (.reg [.o 4 (.mv (.c (.sl 1 true [] .ro))), .o 5 (.mv (.c (.i .i64 1)))] [0, 1, 6]) .ret) (.seq (.reg [.o 11 (.mv (.t 0)), .o 12 (.len false (.t 11)), .o 13 (.bin .eql .num (.t 12) (.c (.i .i64 0))), .o 14 (.mv (.t 13)), .op (some 15) (some (14, false)) (.mv (.t 1)), .op (some 16) (some (14, false)) (.bin .lss .num (.t 15) (.c (.i .i64 (-4096)))), .o 17 (.pick (.t 14) (.c (.b true)) (.t 16)), .o 10 (.mv (.t 17))] [6, 11, 12, 13, 14, 15, 16, 17]) (.cond (.t 10) (.seq (.reg [.o 4 (.mv (.c (.sl 1 true [] .ro))), .o 5 (.mv (.c (.i .i64 0)))] [0, 1, 10]) .ret) (.seq (.reg [.o 19 (.mv (.t 1)), .o 20 (.bin .gtr .num (.t 19) (.c (.i .i64 4096))), .o 18 (.mv (.t 20))] [10, 19, 20]) (.cond (.t 18) (.seq (.reg [.o 4 (.mv (.c (.sl 1 true [] .ro))), .o 5 (.mv (.c (.i .i64 6)))] [0, 1, 18]) .ret) (.seq (.reg [.o 22 (.mv (.t 1)), .o 23 (.bin .geq .num (.t 22) (.c (.i .i64 0))), .o 21 (.mv (.t 23))] [18, 22, 23]) (.cond (.t 21) (.seq (.dreg [(0, .o 24 (.mv (.t 1))), (1, .o 25 (.bin .quo .num (.t 24) (.c (.i .i64 32)))), (3, .o 27 (.mv (.t 0))), (4, .o 28 (.mv (.t 1))), (5, .o 29 (.bin .rem .num (.t 28) (.c (.i .i64 32)))), (6, .o 30 (.call 118 true [.t 27, .t 29])), (2, .o 26 (.mksl 1 false [.i .u32 0] (.t 25))), (7, .o 31 (.app 1 false (.t 26) (.t 30))), (8, .o 32 (.call 117 true [.t 31])), (9, .o 33 (.ext (.t 32) 0)), (10, .o 34 (.ext (.t 32) 1)), (11, .o 4 (.mv (.t 33))), (12, .o 5 (.mv (.t 34)))] [0, 1, 21, 24, 25, 26, 27, 28, 29, 30, 31, 32, 33, 34]) .ret) .skip))))))))) (.seq (.reg [.o 35 (.mv (.t 1)), .o 36 (.un .neg (.t 35)), .o 1 (.mv (.t 36))] [21, 35, 36]) (.seq (.seq (.reg [.o 37 (.mv (.t 1)), .o 38 (.bin .quo .num (.t 37) (.c (.i .i64 32))), .o 39 (.mv (.t 0)), .o 40 (.len false (.t 39)), .o 41 (.bin .geq .num (.t 38) (.t 40))] [37, 38, 39, 40]) (.cond (.t 41) (.seq (.reg [.o 4 (.mv (.c (.sl 1 true [] .ro))), .o 5 (.mv (.c (.i .i64 0)))] [0, 1, 41]) .ret) .skip)) (.seq (.reg [.o 42 (.mv (.t 0)), .o 43 (.mv (.t 1)), .o 44 (.bin .quo .num (.t 43) (.c (.i .i64 32))), .o 45 (.slc 1 (.t 42) (some (.t 44)) none), .o 46 (.mv (.t 1)), .o 47 (.bin .rem .num (.t 46) (.c (.i .i64 32))), .o 48 (.call 119 true [.t 45, .t 47]), .o 49 (.call 116 true [.t 48]), .o 4 (.mv (.t 49)), .o 5 (.mv (.c (.i .i64 0)))] [0, 1, 41, 42, 43, 44, 45, 46, 47, 48, 49]) .ret)))))
def d76 : Fn := { real := 76, np := 2, nt := 50, res := [.t 4, .t 5], body := c76 }

/-- lineage/bdd.level -/
def c77 : C :=
  (.seq (.reg [.o 2 (.box 3 true (.t 0)), .o 4 (.mv (.c (.i .i64 0)))] [0, 4]) (.seq (.seq (.reg [.o 5 (.mv (.t 1)), .o 6 (.bin .lss .num (.t 5) (.c (.i .i64 2)))] [5]) (.cond (.t 6) (.seq (.reg [.o 7 (.fa 0 (.t 2)), .o 8 (.ld 1 false (.t 7)), .o 9 (.len false (.t 8)), .o 4 (.mv (.t 9))] [1, 2, 6, 7, 8, 9]) .ret) .skip)) (.seq (.reg [.o 10 (.fa 1 (.t 2)), .o 11 (.ld 1 false (.t 10)), .o 12 (.mv (.t 1)), .o 13 (.bin .sub .num (.t 12) (.c (.i .i64 2))), .o 14 (.ia 3 (.t 11) (.t 13)), .o 15 (.fa 0 (.t 14)), .o 16 (.ld 1 false (.t 15)), .o 4 (.mv (.t 16))] [1, 2, 6, 10, 11, 12, 13, 14, 15, 16]) .ret)))
def d77 : Fn := { real := 77, np := 2, nt := 17, res := [.t 4], body := c77 }

/-- lineage/bignat.Add -/
def c78_0 : C :=
  .seq (.reg [.o 33 (.bin .lss .num (.t 32) (.t 31))] []) (.seq (.cond (.t 33) .skip (.exit 0)) (.seq (.blk 1 (.seq (.reg [.o 34 (.mv (.t 32)), .o 10 (.mv (.t 34))] [33, 34]) (.reg [.o 36 (.mv (.t 8)), .o 37 (.mv (.t 10)), .o 38 (.mv (.t 6)), .o 39 (.mv (.t 10)), .o 40 (.calld (.t 38) false [.t 39]), .o 41 (.mv (.t 7)), .o 42 (.mv (.t 10)), .o 43 (.calld (.t 41) false [.t 42]), .o 44 (.mv (.t 9)), .o 45 (.call 121 true [.t 40, .t 43, .t 44]), .o 35 (.mv (.t 45)), .o 46 (.ext (.t 35) 0), .o 47 (.ext (.t 35) 1), .o 48 (.ia 1 (.t 36) (.t 37)), .op none none (.st 1 false (.t 48) (.t 46)), .o 9 (.mv (.t 47))] [10, 35, 36, 37, 38, 39, 40, 41, 42, 43, 44, 45, 46, 47, 48]))) (.reg [.o 49 (.bin .add .num (.t 32) (.c (.i .i64 1))), .o 32 (.mv (.t 49))] [49])))
def c78_r0 : C :=
  .seq (.reg [.fz 8, .o 50 (.mv (.t 8)), .o 51 (.call 117 true [.t 50]), .o 52 (.ext (.t 51) 0), .o 53 (.ext (.t 51) 1), .o 4 (.mv (.t 52)), .o 5 (.mv (.t 53))] [6, 7, 8, 9, 31, 32, 33, 50, 51, 52, 53]) .ret
def c78 : C :=
  (.seq (.reg [.o 4 (.mv (.c (.sl 1 true [] .ro))), .o 5 (.mv (.c (.i .i64 0)))] [4, 5]) (.seq (.seq (.reg [.o 11 (.mv (.t 0)), .o 12 (.call 79 true [.t 11]), .o 13 (.un .not (.t 12)), .o 14 (.mv (.t 13)), .op (some 15) (some (14, false)) (.mv (.t 1)), .op (some 16) (some (14, false)) (.call 79 true [.t 15]), .op (some 17) (some (14, false)) (.un .not (.t 16)), .o 18 (.pick (.t 14) (.c (.b true)) (.t 17))] [11, 12, 13, 14, 15, 16, 17]) (.cond (.t 18) (.seq (.reg [.o 4 (.mv (.c (.sl 1 true [] .ro))), .o 5 (.mv (.c (.i .i64 1)))] [0, 1, 18]) .ret) .skip)) (.seq (.reg [.o 19 (.mv (.t 0)), .o 20 (.call 120 false [.t 19]), .o 21 (.mv (.t 1)), .o 22 (.call 120 false [.t 21]), .o 6 (.mv (.t 20)), .o 7 (.mv (.t 22))] [18, 19, 20, 21, 22]) (.seq (.reg [.o 23 (.mv (.t 0)), .o 24 (.len false (.t 23)), .o 25 (.mv (.t 1)), .o 26 (.len false (.t 25)), .o 27 (.mx (.t 24) (.t 26)), .o 28 (.bin .add .num (.t 27) (.c (.i .i64 1))), .o 29 (.mksl 1 true [.i .u32 0] (.t 28)), .o 8 (.mv (.t 29))] [0, 1, 23, 24, 25, 26, 27, 28, 29]) (.seq (.reg [.o 9 (.mv (.c (.i .u32 0)))] []) (.seq (.seq (.reg [.o 30 (.mv (.t 8)), .o 31 (.len false (.t 30)), .o 32 (.mv (.c (.i .i64 0)))] [30]) (.blk 0 (.loop [] c78_0))) c78_r0))))))
def d78 : Fn := { real := 78, np := 2, nt := 54, res := [.t 4, .t 5], body := c78 }

/-- lineage/bignat.Valid -/
def c79 : C :=
  (.seq (.reg [.o 2 (.mv (.c (.b false)))] [2]) (.seq (.reg [.o 3 (.mv (.t 0)), .o 4 (.len false (.t 3)), .o 5 (.bin .leq .num (.t 4) (.c (.i .i64 128))), .o 6 (.mv (.t 5)), .op (some 7) (some (6, true)) (.mv (.t 0)), .op (some 8) (some (6, true)) (.len false (.t 7)), .op (some 9) (some (6, true)) (.bin .eql .num (.t 8) (.c (.i .i64 0))), .op (some 10) (some (6, true)) (.mv (.t 9)), .op (some 11) (some (10, false)) (.mv (.t 0)), .op (some 12) (some (10, false)) (.mv (.t 0)), .op (some 13) (some (10, false)) (.len false (.t 12)), .op (some 14) (some (10, false)) (.bin .sub .num (.t 13) (.c (.i .i64 1))), .op (some 15) (some (10, false)) (.ia 1 (.t 11) (.t 14)), .op (some 16) (some (10, false)) (.ld 1 false (.t 15)), .op (some 17) (some (10, false)) (.bin .neq .num (.t 16) (.c (.i .u32 0))), .op (some 18) (some (6, true)) (.pick (.t 10) (.c (.b true)) (.t 17)), .o 19 (.pick (.t 6) (.t 18) (.c (.b false))), .o 2 (.mv (.t 19))] [0, 3, 4, 5, 6, 7, 8, 9, 10, 11, 12, 13, 14, 15, 16, 17, 18, 19]) .ret))
def d79 : Fn := { real := 79, np := 1, nt := 20, res := [.t 2], body := c79 }

/-- (*lineage/bdd.maker).node -/
def c80 : C :=
  (.seq (.reg [.o 8 (.mv (.c (.i .i64 0)))] [8]) (.seq (.seq (.reg [.o 12 (.mv (.t 2)), .o 13 (.mv (.t 3)), .o 14 (.bin .eql .num (.t 12) (.t 13))] [12, 13]) (.cond (.t 14) (.seq (.reg [.o 15 (.mv (.t 2)), .o 8 (.mv (.t 15))] [0, 1, 2, 3, 14, 15]) .ret) .skip)) (.seq (.reg [.o 16 (.mv (.t 1)), .o 17 (.mv (.t 2)), .o 18 (.mv (.t 3)), .o 19 (.bld [.i .i64 0, .i .i64 0, .i .i64 0] [(0, 1, false, .t 16), (1, 1, false, .t 17), (2, 1, false, .t 18)]), .o 9 (.alloc [.i .i64 0, .i .i64 0, .i .i64 0]), .op none none (.st 3 true (.t 9) (.t 19))] [1, 2, 3, 14, 16, 17, 18, 19]) (.seq (.seq (.reg [.o 20 (.mv (.t 0)), .o 21 (.nilck (.t 20)), .o 22 (.fa 1 (.t 21)), .o 23 (.ld 1 false (.t 22)), .o 24 (.bin .eql .map (.t 23) (.c (.nilm)))] [20, 21, 22, 23]) (.cond (.t 24) (.reg [.o 25 (.mv (.t 0)), .o 26 (.mkmap), .o 27 (.nilck (.t 25)), .o 28 (.fa 1 (.t 27)), .op none none (.st 1 false (.t 28) (.t 26))] [24, 25, 26, 27, 28]) .skip)) (.seq (.dreg [(0, .o 30 (.mv (.t 0))), (1, .o 31 (.nilck (.t 30))), (2, .o 32 (.fa 1 (.t 31))), (3, .o 33 (.ld 1 false (.t 32))), (4, .o 34 (.ld 3 true (.t 9))), (5, .o 35 (.lk (.agg [.i, .i, .i]) true (.i .i64 0) (.t 33) (.t 34))), (6, .o 29 (.mv (.t 35))), (7, .o 36 (.ext (.t 29) 0)), (8, .o 37 (.ext (.t 29) 1)), (9, .o 10 (.mv (.t 36))), (10, .o 11 (.mv (.t 37)))] [24, 29, 30, 31, 32, 33, 34, 35, 36, 37]) (.seq (.seq (.reg [.o 38 (.mv (.t 11)), .o 39 (.un .not (.t 38))] [11, 38]) (.cond (.t 39) (.seq (.reg [.o 40 (.mv (.t 0)), .o 41 (.nilck (.t 40)), .o 42 (.fa 0 (.t 41)), .o 43 (.ld 1 false (.t 42)), .o 44 (.len false (.t 43)), .o 45 (.bin .add .num (.t 44) (.c (.i .i64 2))), .o 10 (.mv (.t 45))] [39, 40, 41, 42, 43, 44, 45]) (.dreg [(0, .o 46 (.mv (.t 0))), (1, .o 47 (.mv (.t 0))), (2, .o 48 (.nilck (.t 47))), (3, .o 49 (.fa 1 (.t 48))), (4, .o 50 (.ld 1 false (.t 49))), (5, .o 51 (.ld 3 true (.t 9))), (6, .o 52 (.mv (.t 0))), (7, .o 53 (.nilck (.t 52))), (8, .o 54 (.fa 0 (.t 53))), (9, .o 55 (.ld 1 false (.t 54))), (10, .o 56 (.ld 3 true (.t 9))), (11, .o 57 (.bsl 3 true false [.t 56])), (13, .o 59 (.mv (.t 10))), (12, .o 58 (.app 3 false (.t 55) (.t 57))), (4, .ck 50 (.ld 1 false (.t 49))), (5, .ck 51 (.ld 3 true (.t 9))), (14, .o 60 (.nilck (.t 46))), (15, .o 61 (.fa 0 (.t 60))), (16, .op none none (.st 1 false (.t 61) (.t 58))), (5, .ck 51 (.ld 3 true (.t 9))), (17, .o 62 (.ment (.agg [.i, .i, .i]) (.i .i64 0) (.t 50) (.t 51))), (18, .o 63 (.ext (.t 62) 1)), (19, .op none none (.est (.t 50) (.t 63) (.t 59)))] [0, 9, 46, 47, 48, 49, 50, 51, 52, 53, 54, 55, 56, 57, 58, 59, 60, 61, 62, 63])) .skip)) (.seq (.reg [.o 64 (.mv (.t 10)), .o 8 (.mv (.t 64))] [0, 9, 10, 39, 64]) .ret)))))))
def d80 : Fn := { real := 80, np := 4, nt := 65, res := [.t 8], body := c80 }

/-- lineage/rowset.Normalize -/
def c81 : C :=
  (.seq (.reg [.o 2 (.mv (.c (.sl 2 true [] .ro)))] [2]) (.seq (.reg [.o 4 (.mv (.t 0)), .o 5 (.call 1049 false [.t 4]), .o 3 (.mv (.t 5))] [0, 4, 5]) (.seq (.reg [.o 6 (.mv (.t 3)), .o 7 (.call 122 false [.t 6, .c (.fn 123 [])])] [6, 7]) (.seq (.reg [.o 8 (.mv (.t 3)), .o 9 (.call 124 false [.t 8]), .fz 9, .o 2 (.mv (.t 9))] [3, 8, 9]) .ret))))
def d81 : Fn := { real := 81, np := 1, nt := 10, res := [.t 2], body := c81 }


/-- lineage/lineageref05.times -/
def c83 : C :=
  (.seq (.reg [.o 4 (.mv (.c (.i .i64 0)))] [4]) (.seq (.seq (.reg [.o 5 (.mv (.t 0)), .o 6 (.mv (.t 1)), .o 7 (.bin .quo .num (.c (.i .i64 1152921504606846976)) (.t 6)), .o 8 (.bin .gtr .num (.t 5) (.t 7))] [5, 6, 7]) (.cond (.t 8) (.seq (.reg [.o 4 (.mv (.c (.i .i64 1152921504606846976)))] [0, 1, 8]) .ret) .skip)) (.seq (.reg [.o 9 (.mv (.t 0)), .o 10 (.mv (.t 1)), .o 11 (.bin .mul .num (.t 9) (.t 10)), .o 4 (.mv (.t 11))] [0, 1, 8, 9, 10, 11]) .ret)))
def d83 : Fn := { real := 83, np := 2, nt := 12, res := [.t 4], body := c83 }

/-- lineage/lineageref05.factor -/
def c84_0 : C :=
  .seq (.seq (.dreg [(0, .o 7 (.mv (.t 5))), (1, .o 8 (.mv (.t 0))), (2, .o 9 (.len false (.t 8))), (3, .o 10 (.bin .lss .num (.t 7) (.t 9))), (4, .o 11 (.mv (.t 10))), (5, .op (some 12) (some (11, true)) (.mv (.t 0))), (6, .op (some 13) (some (11, true)) (.mv (.t 5))), (7, .op (some 14) (some (11, true)) (.ia 11 (.t 12) (.t 13))), (8, .op (some 15) (some (11, true)) (.fa 0 (.t 14))), (9, .op (some 16) (some (11, true)) (.ld 10 true (.t 15))), (10, .op (some 17) (some (11, true)) (.fa 0 (.t 3))), (11, .op (some 18) (some (11, true)) (.ld 10 true (.t 17))), (12, .op (some 19) (some (11, true)) (.call 110 true [.t 16, .t 18])), (13, .op (some 20) (some (11, true)) (.bin .lss .num (.t 19) (.c (.i .i64 0)))), (14, .o 21 (.pick (.t 11) (.t 20) (.c (.b false))))] [7, 8, 9, 10, 11, 12, 13, 14, 15, 16, 17, 18, 19, 20]) (.cond (.t 21) .skip (.exit 0))) (.blk 1 (.reg [.o 22 (.mv (.t 5)), .o 23 (.bin .add .num (.t 22) (.c (.i .i64 1))), .o 5 (.mv (.t 23))] [21, 22, 23]))
def c84_r0 : C :=
  .seq (.reg [.o 24 (.bsl 11 true true []), .o 25 (.mv (.t 0)), .o 26 (.mv (.t 5)), .o 27 (.slc 11 (.t 25) none (some (.t 26))), .o 28 (.app 11 false (.t 24) (.t 27)), .o 6 (.mv (.t 28))] [21, 24, 25, 26, 27, 28]) (.seq (.seq (.dreg [(0, .o 29 (.mv (.t 5))), (1, .o 30 (.mv (.t 0))), (2, .o 31 (.len false (.t 30))), (3, .o 32 (.bin .lss .num (.t 29) (.t 31))), (4, .o 33 (.mv (.t 32))), (5, .op (some 34) (some (33, true)) (.mv (.t 0))), (6, .op (some 35) (some (33, true)) (.mv (.t 5))), (7, .op (some 36) (some (33, true)) (.ia 11 (.t 34) (.t 35))), (8, .op (some 37) (some (33, true)) (.fa 0 (.t 36))), (9, .op (some 38) (some (33, true)) (.ld 10 true (.t 37))), (10, .op (some 39) (some (33, true)) (.fa 0 (.t 3))), (11, .op (some 40) (some (33, true)) (.ld 10 true (.t 39))), (12, .op (some 41) (some (33, true)) (.call 110 true [.t 38, .t 40])), (13, .op (some 42) (some (33, true)) (.bin .eql .num (.t 41) (.c (.i .i64 0)))), (14, .o 43 (.pick (.t 33) (.t 42) (.c (.b false))))] [29, 30, 31, 32, 33, 34, 35, 36, 37, 38, 39, 40, 41, 42]) (.cond (.t 43) (.seq (.seq (.reg [.o 44 (.fa 0 (.t 3)), .o 45 (.fa 0 (.t 44)), .o 46 (.ld 1 false (.t 45)), .o 47 (.bin .lss .num (.t 46) (.c (.i .i64 3)))] [43, 44, 45, 46]) (.cond (.t 47) (.dreg [(0, .o 48 (.mv (.t 0))), (1, .o 49 (.mv (.t 5))), (2, .o 50 (.ia 11 (.t 48) (.t 49))), (3, .o 51 (.fa 10 (.t 50))), (4, .o 52 (.ld 1 false (.t 51))), (5, .o 53 (.fa 10 (.t 3))), (6, .o 54 (.ld 1 false (.t 53))), (7, .o 55 (.bin .add .num (.t 52) (.t 54))), (8, .o 56 (.fa 10 (.t 3))), (9, .op none none (.st 1 false (.t 56) (.t 55)))] [47, 48, 49, 50, 51, 52, 53, 54, 55, 56]) .skip)) (.seq (.dreg [(0, .o 57 (.mv (.t 6))), (1, .o 58 (.ld 11 true (.t 3))), (2, .o 59 (.bsl 11 true false [.t 58])), (4, .o 61 (.mv (.t 0))), (5, .o 62 (.mv (.t 5))), (6, .o 63 (.bin .add .num (.t 62) (.c (.i .i64 1)))), (7, .o 64 (.slc 11 (.t 61) (some (.t 63)) none)), (3, .o 60 (.app 11 false (.t 57) (.t 59))), (8, .o 65 (.app 11 false (.t 60) (.t 64))), (9, .o 4 (.mv (.t 65)))] [0, 3, 5, 6, 47, 57, 58, 59, 60, 61, 62, 63, 64, 65]) .ret)) .skip)) (.seq (.dreg [(0, .o 66 (.mv (.t 6))), (1, .o 67 (.ld 11 true (.t 3))), (2, .o 68 (.bsl 11 true false [.t 67])), (4, .o 70 (.mv (.t 0))), (5, .o 71 (.mv (.t 5))), (6, .o 72 (.slc 11 (.t 70) (some (.t 71)) none)), (3, .o 69 (.app 11 false (.t 66) (.t 68))), (7, .o 73 (.app 11 false (.t 69) (.t 72))), (8, .o 4 (.mv (.t 73)))] [0, 3, 5, 6, 43, 66, 67, 68, 69, 70, 71, 72, 73]) .ret))
def c84 : C :=
  (.seq (.reg [.o 3 (.box 11 true (.t 1)), .o 4 (.mv (.c (.sl 11 true [] .ro)))] [1, 4]) (.seq (.reg [.o 5 (.mv (.c (.i .i64 0)))] []) (.seq (.blk 0 (.loop [] c84_0)) c84_r0)))
def d84 : Fn := { real := 84, np := 2, nt := 74, res := [.t 4], body := c84 }

/-- lineage/lineageref05.Put -/
def c85_0 : C :=
  .seq (.seq (.dreg [(0, .o 7 (.mv (.t 5))), (1, .o 8 (.mv (.t 0))), (2, .o 9 (.len false (.t 8))), (3, .o 10 (.bin .lss .num (.t 7) (.t 9))), (4, .o 11 (.mv (.t 10))), (5, .op (some 12) (some (11, true)) (.mv (.t 0))), (6, .op (some 13) (some (11, true)) (.mv (.t 5))), (7, .op (some 14) (some (11, true)) (.ia 2 (.t 12) (.t 13))), (8, .op (some 15) (some (11, true)) (.fa 1 (.t 14))), (9, .op (some 16) (some (11, true)) (.ld 1 false (.t 15))), (10, .op (some 17) (some (11, true)) (.fa 1 (.t 3))), (11, .op (some 18) (some (11, true)) (.ld 1 false (.t 17))), (12, .op (some 19) (some (11, true)) (.call 108 true [.t 16, .t 18])), (13, .op (some 20) (some (11, true)) (.bin .lss .num (.t 19) (.c (.i .i64 0)))), (14, .o 21 (.pick (.t 11) (.t 20) (.c (.b false))))] [7, 8, 9, 10, 11, 12, 13, 14, 15, 16, 17, 18, 19, 20]) (.cond (.t 21) .skip (.exit 0))) (.blk 1 (.reg [.o 22 (.mv (.t 5)), .o 23 (.bin .add .num (.t 22) (.c (.i .i64 1))), .o 5 (.mv (.t 23))] [21, 22, 23]))
def c85_r0 : C :=
  .seq (.reg [.o 24 (.bsl 2 true true []), .o 25 (.mv (.t 0)), .o 26 (.mv (.t 5)), .o 27 (.slc 2 (.t 25) none (some (.t 26))), .o 28 (.app 2 false (.t 24) (.t 27)), .o 6 (.mv (.t 28))] [21, 24, 25, 26, 27, 28]) (.seq (.seq (.dreg [(0, .o 29 (.mv (.t 5))), (1, .o 30 (.mv (.t 0))), (2, .o 31 (.len false (.t 30))), (3, .o 32 (.bin .lss .num (.t 29) (.t 31))), (4, .o 33 (.mv (.t 32))), (5, .op (some 34) (some (33, true)) (.mv (.t 0))), (6, .op (some 35) (some (33, true)) (.mv (.t 5))), (7, .op (some 36) (some (33, true)) (.ia 2 (.t 34) (.t 35))), (8, .op (some 37) (some (33, true)) (.fa 1 (.t 36))), (9, .op (some 38) (some (33, true)) (.ld 1 false (.t 37))), (10, .op (some 39) (some (33, true)) (.fa 1 (.t 3))), (11, .op (some 40) (some (33, true)) (.ld 1 false (.t 39))), (12, .op (some 41) (some (33, true)) (.call 108 true [.t 38, .t 40])), (13, .op (some 42) (some (33, true)) (.bin .eql .num (.t 41) (.c (.i .i64 0)))), (14, .o 43 (.pick (.t 33) (.t 42) (.c (.b false))))] [29, 30, 31, 32, 33, 34, 35, 36, 37, 38, 39, 40, 41, 42]) (.cond (.t 43) (.seq (.dreg [(0, .o 44 (.mv (.t 6))), (1, .o 45 (.mv (.t 0))), (2, .o 46 (.mv (.t 5))), (3, .o 47 (.ia 2 (.t 45) (.t 46))), (4, .o 48 (.fa 0 (.t 47))), (5, .o 49 (.ld 1 false (.t 48))), (6, .o 50 (.fa 0 (.t 3))), (7, .o 51 (.ld 1 false (.t 50))), (8, .o 52 (.call 127 true [.t 49, .t 51])), (9, .o 53 (.fa 1 (.t 3))), (10, .o 54 (.ld 1 false (.t 53))), (11, .o 55 (.bld [.i .i64 0, .sl 11 true [] .ro] [(0, 1, false, .t 52), (1, 1, false, .t 54)])), (12, .o 56 (.bsl 2 true false [.t 55])), (13, .o 57 (.app 2 false (.t 44) (.t 56))), (14, .o 6 (.mv (.t 57)))] [3, 43, 44, 45, 46, 47, 48, 49, 50, 51, 52, 53, 54, 55, 56, 57]) (.seq (.reg [.o 58 (.mv (.t 6)), .o 59 (.mv (.t 0)), .o 60 (.mv (.t 5)), .o 61 (.bin .add .num (.t 60) (.c (.i .i64 1))), .o 62 (.slc 2 (.t 59) (some (.t 61)) none), .o 63 (.app 2 false (.t 58) (.t 62)), .o 4 (.mv (.t 63))] [0, 5, 6, 58, 59, 60, 61, 62, 63]) .ret)) .skip)) (.seq (.dreg [(0, .o 64 (.mv (.t 6))), (1, .o 65 (.ld 2 true (.t 3))), (2, .o 66 (.bsl 2 true false [.t 65])), (4, .o 68 (.mv (.t 0))), (5, .o 69 (.mv (.t 5))), (6, .o 70 (.slc 2 (.t 68) (some (.t 69)) none)), (3, .o 67 (.app 2 false (.t 64) (.t 66))), (7, .o 71 (.app 2 false (.t 67) (.t 70))), (8, .o 4 (.mv (.t 71)))] [0, 3, 5, 6, 43, 64, 65, 66, 67, 68, 69, 70, 71]) .ret))
def c85 : C :=
  (.seq (.reg [.o 3 (.box 2 true (.t 1)), .o 4 (.mv (.c (.sl 2 true [] .ro)))] [1, 4]) (.seq (.reg [.o 5 (.mv (.c (.i .i64 0)))] []) (.seq (.blk 0 (.loop [] c85_0)) c85_r0)))
def d85 : Fn := { real := 85, np := 2, nt := 72, res := [.t 4], body := c85 }

/-- lineage/lineageref05.Atom -/
def c86 : C :=
  (.seq (.reg [.o 1 (.box 10 true (.t 0)), .o 2 (.mv (.c (.sl 2 true [] .ro)))] [0, 2]) (.seq (.reg [.o 3 (.ld 10 true (.t 1)), .o 4 (.bld [.i .i64 0, .i .i64 0, .i .i64 0, .sl 1 true [] .ro, .i .i64 0, .sl 4 true [] .ro, .i .i64 0, .i .i64 0, .i .i64 0, .s [], .i .i64 0] [(0, 10, true, .t 3), (10, 1, false, .c (.i .i64 1))]), .o 5 (.bsl 11 true false [.t 4]), .o 6 (.bld [.i .i64 0, .sl 11 true [] .ro] [(0, 1, false, .c (.i .i64 1)), (1, 1, false, .t 5)]), .o 7 (.bsl 2 true false [.t 6]), .o 2 (.mv (.t 7))] [1, 3, 4, 5, 6, 7]) .ret))
def d86 : Fn := { real := 86, np := 1, nt := 8, res := [.t 2], body := c86 }

/-- lineage/bignat.orZero -/
def c87 : C :=
  (.seq (.reg [.o 2 (.mv (.c (.sl 1 true [] .ro)))] [2]) (.seq (.seq (.reg [.o 3 (.mv (.t 0)), .o 4 (.call 79 true [.t 3]), .o 5 (.un .not (.t 4))] [3, 4]) (.cond (.t 5) (.seq (.reg [.o 2 (.mv (.c (.sl 1 true [] .ro)))] [0, 5]) .ret) .skip)) (.seq (.reg [.o 6 (.mv (.t 0)), .o 2 (.mv (.t 6))] [0, 5, 6]) .ret)))
def d87 : Fn := { real := 87, np := 1, nt := 7, res := [.t 2], body := c87 }

/-- lineage/bignat.byLimb -/
def c88_0 : C :=
  .seq (.seq (.reg [.o 15 (.mv (.t 8)), .o 16 (.bin .geq .num (.t 15) (.c (.i .i64 0)))] [15]) (.cond (.t 16) .skip (.exit 0))) (.seq (.blk 1 (.seq (.reg [.o 19 (.mv (.t 7)), .o 20 (.bin .shl .num (.t 19) (.c (.i .u64 32))), .o 21 (.mv (.t 0)), .o 22 (.mv (.t 8)), .o 23 (.ia 1 (.t 21) (.t 22)), .o 24 (.ld 1 false (.t 23)), .o 25 (.conv .u64 (.t 24)), .o 26 (.bin .or .num (.t 20) (.t 25)), .o 7 (.mv (.t 26))] [16, 19, 20, 21, 22, 23, 24, 25, 26]) (.dreg [(0, .o 27 (.mv (.t 6))), (1, .o 28 (.mv (.t 8))), (2, .o 29 (.mv (.t 7))), (3, .o 30 (.mv (.t 1))), (4, .o 31 (.conv .u64 (.t 30))), (5, .o 32 (.bin .quo .num (.t 29) (.t 31))), (6, .o 33 (.conv .u32 (.t 32))), (7, .o 34 (.mv (.t 7))), (8, .o 35 (.mv (.t 1))), (9, .o 36 (.conv .u64 (.t 35))), (10, .o 37 (.bin .rem .num (.t 34) (.t 36))), (11, .o 38 (.ia 1 (.t 27) (.t 28))), (12, .op none none (.st 1 false (.t 38) (.t 33))), (13, .o 7 (.mv (.t 37)))] [27, 28, 29, 30, 31, 32, 33, 34, 35, 36, 37, 38]))) (.reg [.o 17 (.mv (.t 8)), .o 18 (.bin .sub .num (.t 17) (.c (.i .i64 1))), .o 8 (.mv (.t 18))] [17, 18]))
def c88_r0 : C :=
  .seq (.reg [.fz 6, .o 39 (.mv (.t 6)), .o 40 (.call 116 true [.t 39]), .o 41 (.mv (.t 7)), .o 42 (.conv .u32 (.t 41)), .o 4 (.mv (.t 40)), .o 5 (.mv (.t 42))] [0, 1, 6, 7, 8, 16, 39, 40, 41, 42]) .ret
def c88 : C :=
  (.seq (.reg [.o 4 (.mv (.c (.sl 1 true [] .ro))), .o 5 (.mv (.c (.i .u32 0)))] [4, 5]) (.seq (.reg [.o 9 (.mv (.t 0)), .o 10 (.len false (.t 9)), .o 11 (.mksl 1 true [.i .u32 0] (.t 10)), .o 6 (.mv (.t 11))] [9, 10, 11]) (.seq (.reg [.o 7 (.mv (.c (.i .u64 0)))] []) (.seq (.seq (.reg [.o 12 (.mv (.t 0)), .o 13 (.len false (.t 12)), .o 14 (.bin .sub .num (.t 13) (.c (.i .i64 1))), .o 8 (.mv (.t 14))] [12, 13, 14]) (.blk 0 (.loop [] c88_0))) c88_r0))))
def d88 : Fn := { real := 88, np := 2, nt := 43, res := [.t 4, .t 5], body := c88 }

/-- strconv.FormatUint -/
def c89 : C :=
  (.seq (.reg [.o 4 (.mv (.c (.s [])))] [4]) (.seq (.reg [.o 5 (.mv (.t 0)), .o 6 (.mv (.t 1)), .o 7 (.call 128 true [.t 5, .t 6]), .o 4 (.mv (.t 7))] [0, 1, 5, 6, 7]) .ret))
def d89 : Fn := { real := 89, np := 2, nt := 8, res := [.t 4], body := c89 }

/-- strings.Repeat -/
def c90 : C :=
  (.bad)
def d90 : Fn := { real := 90, np := 2, nt := 125, res := [.t 4], body := c90 }

/-- cmp.Or[string] -/
def c91_0 : C :=
  .seq (.reg [.o 9 (.bin .lss .num (.t 8) (.t 7))] []) (.seq (.cond (.t 9) .skip (.exit 0)) (.seq (.blk 1 (.seq (.reg [.o 10 (.ia 1 (.t 6) (.t 8)), .o 11 (.ld 1 false (.t 10)), .o 5 (.mv (.t 11))] [9, 10, 11]) (.seq (.reg [.o 12 (.mv (.t 5)), .o 13 (.mv (.t 3)), .o 14 (.bin .neq .str (.t 12) (.t 13))] [12, 13]) (.cond (.t 14) (.seq (.reg [.o 15 (.mv (.t 5)), .o 2 (.mv (.t 15))] [3, 5, 6, 7, 8, 14, 15]) .ret) .skip)))) (.reg [.o 16 (.bin .add .num (.t 8) (.c (.i .i64 1))), .o 8 (.mv (.t 16))] [5, 14, 16])))
def c91_r0 : C :=
  .seq (.reg [.o 17 (.mv (.t 3)), .o 2 (.mv (.t 17))] [3, 6, 7, 8, 9, 17]) .ret
def c91 : C :=
  (.seq (.reg [.o 2 (.mv (.c (.s [])))] [2]) (.seq (.reg [.o 3 (.mv (.c (.s [])))] []) (.seq (.seq (.reg [.o 6 (.mv (.t 0)), .o 7 (.len false (.t 6)), .o 8 (.mv (.c (.i .i64 0)))] [0]) (.blk 0 (.loop [] c91_0))) c91_r0)))
def d91 : Fn := { real := 91, np := 1, nt := 18, res := [.t 2], body := c91 }

/-- lineage/rowset.Valid -/
def c92 : C :=
  (.seq (.reg [.o 1 (.box 2 true (.t 0)), .o 2 (.mv (.c (.b false)))] [0, 2]) (.seq (.reg [.o 3 (.fa 0 (.t 1)), .o 4 (.ld 1 false (.t 3)), .o 5 (.bin .geq .num (.t 4) (.c (.i .i64 1))), .o 6 (.mv (.t 5)), .op (some 7) (some (6, true)) (.fa 1 (.t 1)), .op (some 8) (some (6, true)) (.ld 1 false (.t 7)), .op (some 9) (some (6, true)) (.bin .geq .num (.t 8) (.c (.i .i64 1))), .o 10 (.pick (.t 6) (.t 9) (.c (.b false))), .o 2 (.mv (.t 10))] [1, 3, 4, 5, 6, 7, 8, 9, 10]) .ret))
def d92 : Fn := { real := 92, np := 1, nt := 11, res := [.t 2], body := c92 }


/-- lineage/bdd.combined$1 -/
def c94 : C :=
  (.seq (.reg [.o 10 (.mv (.c (.i .i64 0)))] [10]) (.seq (.seq (.reg [.o 20 (.mv (.t 0)), .o 21 (.ld 1 false (.t 2)), .o 22 (.bin .eql .num (.t 20) (.t 21)), .o 23 (.mv (.t 22)), .op (some 24) (some (23, false)) (.mv (.t 1)), .op (some 25) (some (23, false)) (.ld 1 false (.t 2)), .op (some 26) (some (23, false)) (.bin .eql .num (.t 24) (.t 25)), .o 27 (.pick (.t 23) (.c (.b true)) (.t 26))] [20, 21, 22, 23, 24, 25, 26]) (.cond (.t 27) (.seq (.reg [.o 28 (.ld 1 false (.t 2)), .o 10 (.mv (.t 28))] [0, 1, 2, 3, 4, 5, 6, 7, 27, 28]) .ret) .skip)) (.seq (.seq (.reg [.o 29 (.mv (.t 0)), .o 30 (.bin .lss .num (.t 29) (.c (.i .i64 2))), .o 31 (.mv (.t 30)), .op (some 32) (some (31, true)) (.mv (.t 1)), .op (some 33) (some (31, true)) (.bin .lss .num (.t 32) (.c (.i .i64 2))), .o 34 (.pick (.t 31) (.t 33) (.c (.b false)))] [27, 29, 30, 31, 32, 33]) (.cond (.t 34) (.seq (.reg [.o 35 (.ld 1 false (.t 2)), .o 36 (.bin .sub .num (.c (.i .i64 1)) (.t 35)), .o 10 (.mv (.t 36))] [0, 1, 2, 3, 4, 5, 6, 7, 34, 35, 36]) .ret) .skip)) (.seq (.seq (.reg [.o 38 (.ld 1 false (.t 3)), .o 39 (.mv (.t 0)), .o 40 (.mv (.t 1)), .o 41 (.bld [.i .i64 0, .i .i64 0] [(0, 1, false, .t 39), (1, 1, false, .t 40)]), .o 42 (.lk (.agg [.i, .i]) true (.i .i64 0) (.t 38) (.t 41)), .o 37 (.mv (.t 42)), .o 43 (.ext (.t 37) 0), .o 44 (.ext (.t 37) 1), .o 11 (.mv (.t 43)), .o 12 (.mv (.t 44))] [2, 34, 37, 38, 39, 40, 41, 42, 43, 44]) (.seq (.reg [.o 45 (.mv (.t 12))] [12]) (.cond (.t 45) (.seq (.reg [.o 46 (.mv (.t 11)), .o 10 (.mv (.t 46))] [0, 1, 3, 4, 5, 6, 7, 11, 45, 46]) .ret) .skip))) (.seq (.dreg [(0, .o 47 (.ld 3 true (.t 4))), (1, .o 48 (.mv (.t 0))), (2, .o 49 (.call 77 true [.t 47, .t 48])), (3, .o 50 (.ld 3 true (.t 5))), (4, .o 51 (.mv (.t 1))), (5, .o 52 (.call 77 true [.t 50, .t 51])), (6, .o 53 (.mn (.t 49) (.t 52))), (7, .o 13 (.mv (.t 53)))] [11, 45, 47, 48, 49, 50, 51, 52, 53]) (.seq (.reg [.o 55 (.ld 3 true (.t 4)), .o 56 (.mv (.t 0)), .o 57 (.mv (.t 13)), .o 58 (.call 95 true [.t 55, .t 56, .t 57]), .o 54 (.mv (.t 58)), .o 59 (.ext (.t 54) 0), .o 60 (.ext (.t 54) 1), .o 14 (.mv (.t 59)), .o 15 (.mv (.t 60))] [4, 54, 55, 56, 57, 58, 59, 60]) (.seq (.reg [.o 62 (.ld 3 true (.t 5)), .o 63 (.mv (.t 1)), .o 64 (.mv (.t 13)), .o 65 (.call 95 true [.t 62, .t 63, .t 64]), .o 61 (.mv (.t 65)), .o 66 (.ext (.t 61) 0), .o 67 (.ext (.t 61) 1), .o 16 (.mv (.t 66)), .o 17 (.mv (.t 67))] [5, 61, 62, 63, 64, 65, 66, 67]) (.seq (.dreg [(0, .o 68 (.ld 1 false (.t 6))), (1, .o 69 (.mv (.t 14))), (2, .o 70 (.mv (.t 16))), (4, .o 72 (.ld 1 false (.t 6))), (5, .o 73 (.mv (.t 15))), (6, .o 74 (.mv (.t 17))), (3, .o 71 (.calld (.t 68) false [.t 69, .t 70])), (4, .ck 72 (.ld 1 false (.t 6))), (7, .o 75 (.calld (.t 72) false [.t 73, .t 74])), (8, .o 18 (.mv (.t 71))), (9, .o 19 (.mv (.t 75)))] [6, 14, 15, 16, 17, 68, 69, 70, 71, 72, 73, 74, 75]) (.seq (.dreg [(0, .o 76 (.ld 1 false (.t 3))), (1, .o 77 (.mv (.t 0))), (2, .o 78 (.mv (.t 1))), (3, .o 79 (.bld [.i .i64 0, .i .i64 0] [(0, 1, false, .t 77), (1, 1, false, .t 78)])), (4, .o 80 (.mv (.t 13))), (5, .o 81 (.mv (.t 18))), (6, .o 82 (.mv (.t 19))), (7, .o 83 (.call 80 false [.t 7, .t 80, .t 81, .t 82])), (0, .ck 76 (.ld 1 false (.t 3))), (8, .op none none (.mu (.agg [.i, .i]) (.t 76) (.t 79) (.t 83)))] [7, 13, 18, 19, 76, 77, 78, 79, 80, 81, 82, 83]) (.seq (.reg [.o 84 (.ld 1 false (.t 3)), .o 85 (.mv (.t 0)), .o 86 (.mv (.t 1)), .o 87 (.bld [.i .i64 0, .i .i64 0] [(0, 1, false, .t 85), (1, 1, false, .t 86)]), .o 88 (.lk (.agg [.i, .i]) false (.i .i64 0) (.t 84) (.t 87)), .o 10 (.mv (.t 88))] [0, 1, 3, 84, 85, 86, 87, 88]) .ret))))))))))
def d94 : Fn := { real := 94, np := 8, nt := 89, res := [.t 10], body := c94 }

/-- lineage/bdd.children -/
def c95 : C :=
  (.seq (.reg [.o 3 (.box 3 true (.t 0)), .o 6 (.mv (.c (.i .i64 0))), .o 7 (.mv (.c (.i .i64 0)))] [0, 6, 7]) (.seq (.seq (.reg [.o 9 (.ld 3 true (.t 3)), .o 10 (.mv (.t 1)), .o 11 (.call 77 true [.t 9, .t 10]), .o 12 (.mv (.t 2)), .o 13 (.bin .neq .num (.t 11) (.t 12))] [2, 9, 10, 11, 12]) (.cond (.t 13) (.seq (.reg [.o 14 (.mv (.t 1)), .o 15 (.mv (.t 1)), .o 6 (.mv (.t 14)), .o 7 (.mv (.t 15))] [1, 3, 13, 14, 15]) .ret) .skip)) (.seq (.reg [.o 16 (.fa 1 (.t 3)), .o 17 (.ld 1 false (.t 16)), .o 18 (.mv (.t 1)), .o 19 (.bin .sub .num (.t 18) (.c (.i .i64 2))), .o 20 (.ia 3 (.t 17) (.t 19)), .o 21 (.ld 3 true (.t 20)), .o 8 (.alloc [.i .i64 0, .i .i64 0, .i .i64 0]), .op none none (.st 3 true (.t 8) (.t 21))] [1, 3, 13, 16, 17, 18, 19, 20, 21]) (.seq (.dreg [(0, .o 22 (.fa 1 (.t 8))), (1, .o 23 (.ld 1 false (.t 22))), (2, .o 24 (.fa 2 (.t 8))), (3, .o 25 (.ld 1 false (.t 24))), (4, .o 6 (.mv (.t 23))), (5, .o 7 (.mv (.t 25)))] [8, 22, 23, 24, 25]) .ret))))
def d95 : Fn := { real := 95, np := 3, nt := 26, res := [.t 6, .t 7], body := c95 }

/-- lineage/annotation.within -/
def c96 : C :=
  (.seq (.reg [.o 2 (.mv (.c (.b false)))] [2]) (.seq (.seq (.reg [.o 3 (.mv (.t 0)), .o 4 (.len false (.t 3)), .o 5 (.bin .gtr .num (.t 4) (.c (.i .i64 512))), .o 6 (.mv (.t 5)), .op (some 7) (some (6, false)) (.mv (.t 0)), .op (some 8) (some (6, false)) (.call 135 true [.t 7]), .op (some 9) (some (6, false)) (.bin .gtr .num (.t 8) (.c (.i .i64 8))), .o 10 (.pick (.t 6) (.c (.b true)) (.t 9)), .o 11 (.mv (.t 10)), .op (some 12) (some (11, false)) (.mv (.t 0)), .op (some 13) (some (11, false)) (.call 136 true [.t 12]), .op (some 14) (some (11, false)) (.bin .gtr .num (.t 13) (.c (.i .i64 4096))), .o 15 (.pick (.t 11) (.c (.b true)) (.t 14))] [3, 4, 5, 6, 7, 8, 9, 10, 11, 12, 13, 14]) (.cond (.t 15) (.seq (.reg [.o 2 (.mv (.c (.b false)))] [0, 15]) .ret) .skip)) (.seq (.reg [.o 16 (.mv (.t 0)), .o 17 (.call 137 true [.t 16, .c (.fn 138 [])]), .o 18 (.un .not (.t 17)), .o 2 (.mv (.t 18))] [0, 15, 16, 17, 18]) .ret)))
def d96 : Fn := { real := 96, np := 1, nt := 19, res := [.t 2], body := c96 }

/-- lineage/annotation.compareLists -/
def c97 : C :=
  (.seq (.reg [.o 2 (.box 2 true (.t 0)), .o 3 (.box 2 true (.t 1)), .o 4 (.mv (.c (.i .i64 0)))] [0, 1, 4]) (.seq (.reg [.o 5 (.fa 1 (.t 2)), .o 6 (.ld 1 false (.t 5)), .o 7 (.fa 1 (.t 3)), .o 8 (.ld 1 false (.t 7)), .o 9 (.call 141 true [.t 6, .t 8, .c (.fn 142 [])]), .o 4 (.mv (.t 9))] [2, 3, 5, 6, 7, 8, 9]) .ret))
def d97 : Fn := { real := 97, np := 2, nt := 10, res := [.t 4], body := c97 }

/-- lineage/annotation.idempotent -/
def c98 : C :=
  (.seq (.reg [.o 1 (.box 10 true (.t 0)), .o 2 (.mv (.c (.b false)))] [0, 2]) (.seq (.reg [.o 3 (.fa 0 (.t 1)), .o 4 (.ld 1 false (.t 3)), .o 5 (.bin .eql .num (.t 4) (.c (.i .i64 3))), .o 6 (.mv (.t 5)), .op (some 7) (some (6, false)) (.fa 0 (.t 1)), .op (some 8) (some (6, false)) (.ld 1 false (.t 7)), .op (some 9) (some (6, false)) (.bin .eql .num (.t 8) (.c (.i .i64 4))), .o 10 (.pick (.t 6) (.c (.b true)) (.t 9)), .o 2 (.mv (.t 10))] [1, 3, 4, 5, 6, 7, 8, 9, 10]) .ret))
def d98 : Fn := { real := 98, np := 1, nt := 11, res := [.t 2], body := c98 }

/-- lineage/annotation.compareAtoms -/
def c99 : C :=
  (.seq (.reg [.o 2 (.box 10 true (.t 0)), .o 3 (.box 10 true (.t 1)), .o 4 (.mv (.c (.i .i64 0)))] [0, 1, 4]) (.seq (.dreg [(0, .o 5 (.fa 0 (.t 2))), (1, .o 6 (.ld 1 false (.t 5))), (2, .o 7 (.fa 0 (.t 3))), (3, .o 8 (.ld 1 false (.t 7))), (4, .o 9 (.call 144 true [.t 6, .t 8])), (5, .o 10 (.fa 1 (.t 2))), (6, .o 11 (.fa 0 (.t 10))), (7, .o 12 (.ld 1 false (.t 11))), (8, .o 13 (.fa 1 (.t 3))), (9, .o 14 (.fa 0 (.t 13))), (10, .o 15 (.ld 1 false (.t 14))), (11, .o 16 (.call 144 true [.t 12, .t 15])), (12, .o 17 (.fa 1 (.t 2))), (13, .o 18 (.fa 1 (.t 17))), (14, .o 19 (.ld 1 false (.t 18))), (15, .o 20 (.fa 1 (.t 3))), (16, .o 21 (.fa 1 (.t 20))), (17, .o 22 (.ld 1 false (.t 21))), (18, .o 23 (.call 144 true [.t 19, .t 22])), (19, .o 24 (.fa 3 (.t 2))), (20, .o 25 (.ld 1 false (.t 24))), (21, .o 26 (.fa 3 (.t 3))), (22, .o 27 (.ld 1 false (.t 26))), (23, .o 28 (.call 145 true [.t 25, .t 27, .c (.fn 146 [])])), (24, .o 29 (.fa 4 (.t 2))), (25, .o 30 (.ld 1 false (.t 29))), (26, .o 31 (.fa 4 (.t 3))), (27, .o 32 (.ld 1 false (.t 31))), (28, .o 33 (.call 144 true [.t 30, .t 32])), (29, .o 34 (.fa 5 (.t 2))), (30, .o 35 (.ld 1 false (.t 34))), (31, .o 36 (.fa 5 (.t 3))), (32, .o 37 (.ld 1 false (.t 36))), (33, .o 38 (.call 147 true [.t 35, .t 37, .c (.fn 148 [])])), (34, .o 39 (.fa 6 (.t 2))), (35, .o 40 (.ld 1 false (.t 39))), (36, .o 41 (.fa 6 (.t 3))), (37, .o 42 (.ld 1 false (.t 41))), (38, .o 43 (.call 144 true [.t 40, .t 42])), (39, .o 44 (.fa 7 (.t 2))), (40, .o 45 (.ld 3 true (.t 44))), (41, .o 46 (.fa 7 (.t 3))), (42, .o 47 (.ld 3 true (.t 46))), (43, .o 48 (.call 149 true [.t 45, .t 47])), (44, .o 49 (.bsl 1 false false [.t 9, .t 16, .t 23, .t 28, .t 33, .t 38, .t 43, .t 48])), (45, .o 50 (.call 143 true [.t 49])), (46, .o 4 (.mv (.t 50)))] [2, 3, 5, 6, 7, 8, 9, 10, 11, 12, 13, 14, 15, 16, 17, 18, 19, 20, 21, 22, 23, 24, 25, 26, 27, 28, 29, 30, 31, 32, 33, 34, 35, 36, 37, 38, 39, 40, 41, 42, 43, 44, 45, 46, 47, 48, 49, 50]) .ret))
def d99 : Fn := { real := 99, np := 2, nt := 51, res := [.t 4], body := c99 }

/-- lineage/annotation.validAtom -/
def c100 : C :=
  (.seq (.reg [.o 1 (.box 10 true (.t 0)), .o 2 (.mv (.c (.b false)))] [0, 2]) (.seq (.reg [.o 5 (.fa 0 (.t 1)), .o 6 (.ld 1 false (.t 5)), .o 7 (.bin .neq .num (.t 6) (.c (.i .i64 4))), .o 8 (.mv (.t 7)), .op (some 9) (some (8, true)) (.fa 4 (.t 1)), .op (some 10) (some (8, true)) (.ld 1 false (.t 9)), .op (some 11) (some (8, true)) (.bin .neq .num (.t 10) (.c (.i .i64 0))), .op (some 12) (some (8, true)) (.mv (.t 11)), .op (some 13) (some (12, false)) (.fa 5 (.t 1)), .op (some 14) (some (12, false)) (.ld 1 false (.t 13)), .op (some 15) (some (12, false)) (.len false (.t 14)), .op (some 16) (some (12, false)) (.bin .neq .num (.t 15) (.c (.i .i64 0))), .op (some 17) (some (8, true)) (.pick (.t 12) (.c (.b true)) (.t 16)), .op (some 18) (some (8, true)) (.mv (.t 17)), .op (some 19) (some (18, false)) (.fa 6 (.t 1)), .op (some 20) (some (18, false)) (.ld 1 false (.t 19)), .op (some 21) (some (18, false)) (.bin .neq .num (.t 20) (.c (.i .i64 0))), .op (some 22) (some (8, true)) (.pick (.t 18) (.c (.b true)) (.t 21)), .op (some 23) (some (8, true)) (.mv (.t 22)), .op (some 24) (some (23, false)) (.fa 7 (.t 1)), .op (some 25) (some (23, false)) (.ld 3 true (.t 24)), .op (some 26) (some (23, false)) (.bld [.i .i64 0, .i .i64 0, .s []] []), .op (some 27) (some (23, false)) (.bin .neq (.agg [.i, .i, .s]) (.t 25) (.t 26)), .op (some 28) (some (8, true)) (.pick (.t 23) (.c (.b true)) (.t 27)), .o 29 (.pick (.t 8) (.t 28) (.c (.b false))), .o 3 (.mv (.t 29))] [5, 6, 7, 8, 9, 10, 11, 12, 13, 14, 15, 16, 17, 18, 19, 20, 21, 22, 23, 24, 25, 26, 27, 28, 29]) (.seq (.seq (.reg [.o 30 (.mv (.t 3)), .o 31 (.mv (.t 30)), .op (some 32) (some (31, false)) (.fa 0 (.t 1)), .op (some 33) (some (31, false)) (.ld 1 false (.t 32)), .op (some 34) (some (31, false)) (.bin .neq .num (.t 33) (.c (.i .i64 0))), .op (some 35) (some (31, false)) (.mv (.t 34)), .op (some 36) (some (35, true)) (.fa 1 (.t 1)), .op (some 37) (some (35, true)) (.ld 2 true (.t 36)), .op (some 38) (some (35, true)) (.bld [.i .i64 0, .i .i64 0] []), .op (some 39) (some (35, true)) (.bin .neq (.agg [.i, .i]) (.t 37) (.t 38)), .op (some 40) (some (31, false)) (.pick (.t 35) (.t 39) (.c (.b false))), .o 41 (.pick (.t 31) (.c (.b true)) (.t 40)), .o 42 (.mv (.t 41)), .op (some 43) (some (42, false)) (.fa 3 (.t 1)), .op (some 44) (some (42, false)) (.ld 1 false (.t 43)), .op (some 45) (some (42, false)) (.call 101 true [.t 44, .c (.fn 150 [])]), .o 46 (.pick (.t 42) (.c (.b true)) (.t 45))] [3, 30, 31, 32, 33, 34, 35, 36, 37, 38, 39, 40, 41, 42, 43, 44, 45]) (.cond (.t 46) (.seq (.reg [.o 2 (.mv (.c (.b false)))] [1, 46]) .ret) .skip)) (.seq (.seq (.reg [.o 47 (.fa 0 (.t 1)), .o 48 (.ld 1 false (.t 47))] [46, 47]) (.blk 0 (.seq (.reg [.o 50 (.bin .eql .num (.t 48) (.c (.i .i64 0))), .o 49 (.mv (.t 50))] [50]) (.cond (.t 49) (.seq (.reg [.o 51 (.fa 1 (.t 1)), .o 52 (.ld 2 true (.t 51)), .o 53 (.call 92 true [.t 52]), .o 54 (.mv (.t 53)), .op (some 55) (some (54, true)) (.fa 3 (.t 1)), .op (some 56) (some (54, true)) (.ld 1 false (.t 55)), .op (some 57) (some (54, true)) (.len false (.t 56)), .op (some 58) (some (54, true)) (.bin .eql .num (.t 57) (.c (.i .i64 0))), .o 59 (.pick (.t 54) (.t 58) (.c (.b false))), .o 2 (.mv (.t 59))] [1, 48, 49, 51, 52, 53, 54, 55, 56, 57, 58, 59]) .ret) (.seq (.reg [.o 61 (.bin .eql .num (.t 48) (.c (.i .i64 1))), .o 60 (.mv (.t 61))] [49, 61]) (.cond (.t 60) (.seq (.dreg [(0, .o 62 (.fa 3 (.t 1))), (1, .o 63 (.ld 1 false (.t 62))), (2, .o 64 (.len false (.t 63))), (3, .o 65 (.bin .eql .num (.t 64) (.c (.i .i64 2)))), (4, .o 66 (.mv (.t 65))), (5, .op (some 67) (some (66, true)) (.fa 3 (.t 1))), (6, .op (some 68) (some (66, true)) (.ld 1 false (.t 67))), (7, .op (some 69) (some (66, true)) (.ia 1 (.t 68) (.c (.i .i64 0)))), (8, .op (some 70) (some (66, true)) (.ld 1 false (.t 69))), (9, .op (some 71) (some (66, true)) (.fa 3 (.t 1))), (10, .op (some 72) (some (66, true)) (.ld 1 false (.t 71))), (11, .op (some 73) (some (66, true)) (.ia 1 (.t 72) (.c (.i .i64 1)))), (12, .op (some 74) (some (66, true)) (.ld 1 false (.t 73))), (13, .op (some 75) (some (66, true)) (.call 151 true [.t 70, .t 74])), (14, .op (some 76) (some (66, true)) (.un .not (.t 75))), (15, .o 77 (.pick (.t 66) (.t 76) (.c (.b false)))), (16, .o 2 (.mv (.t 77)))] [1, 48, 60, 62, 63, 64, 65, 66, 67, 68, 69, 70, 71, 72, 73, 74, 75, 76, 77]) .ret) (.seq (.reg [.o 79 (.bin .eql .num (.t 48) (.c (.i .i64 2))), .o 78 (.mv (.t 79))] [60, 79]) (.cond (.t 78) (.seq (.reg [.o 80 (.fa 3 (.t 1)), .o 81 (.ld 1 false (.t 80)), .o 82 (.len false (.t 81)), .o 83 (.bin .eql .num (.t 82) (.c (.i .i64 1))), .o 84 (.mv (.t 83)), .op (some 85) (some (84, true)) (.fa 3 (.t 1)), .op (some 86) (some (84, true)) (.ld 1 false (.t 85)), .op (some 87) (some (84, true)) (.ia 1 (.t 86) (.c (.i .i64 0))), .op (some 88) (some (84, true)) (.ld 1 false (.t 87)), .op (some 89) (some (84, true)) (.call 152 true [.t 88]), .op (some 90) (some (84, true)) (.un .not (.t 89)), .o 91 (.pick (.t 84) (.t 90) (.c (.b false))), .o 92 (.mv (.t 91)), .op (some 93) (some (92, true)) (.fa 3 (.t 1)), .op (some 94) (some (92, true)) (.ld 1 false (.t 93)), .op (some 95) (some (92, true)) (.ia 1 (.t 94) (.c (.i .i64 0))), .op (some 96) (some (92, true)) (.ld 1 false (.t 95)), .op (some 97) (some (92, true)) (.call 153 true [.t 96]), .op (some 98) (some (92, true)) (.un .not (.t 97)), .o 99 (.pick (.t 92) (.t 98) (.c (.b false))), .o 2 (.mv (.t 99))] [1, 48, 78, 80, 81, 82, 83, 84, 85, 86, 87, 88, 89, 90, 91, 92, 93, 94, 95, 96, 97, 98, 99]) .ret) (.seq (.reg [.o 101 (.bin .eql .num (.t 48) (.c (.i .i64 3))), .o 100 (.mv (.t 101))] [78, 101]) (.cond (.t 100) (.seq (.reg [.o 102 (.fa 3 (.t 1)), .o 103 (.ld 1 false (.t 102)), .o 104 (.len false (.t 103)), .o 105 (.bin .eql .num (.t 104) (.c (.i .i64 1))), .o 106 (.mv (.t 105)), .op (some 107) (some (106, true)) (.fa 3 (.t 1)), .op (some 108) (some (106, true)) (.ld 1 false (.t 107)), .op (some 109) (some (106, true)) (.ia 1 (.t 108) (.c (.i .i64 0))), .op (some 110) (some (106, true)) (.ld 1 false (.t 109)), .op (some 111) (some (106, true)) (.call 154 true [.t 110]), .op (some 112) (some (106, true)) (.un .not (.t 111)), .o 113 (.pick (.t 106) (.t 112) (.c (.b false))), .o 2 (.mv (.t 113))] [1, 48, 100, 102, 103, 104, 105, 106, 107, 108, 109, 110, 111, 112, 113]) .ret) (.seq (.reg [.o 115 (.bin .eql .num (.t 48) (.c (.i .i64 4))), .o 114 (.mv (.t 115))] [48, 100, 115]) (.cond (.t 114) (.seq (.reg [.o 116 (.fa 5 (.t 1)), .o 117 (.ld 1 false (.t 116)), .o 118 (.call 155 true [.t 117, .c (.fn 156 [])]), .o 4 (.mv (.t 118))] [114, 116, 117, 118]) (.seq (.reg [.o 119 (.fa 3 (.t 1)), .o 120 (.ld 1 false (.t 119)), .o 121 (.len false (.t 120)), .o 122 (.bin .eql .num (.t 121) (.c (.i .i64 0))), .o 123 (.mv (.t 122)), .op (some 124) (some (123, true)) (.fa 5 (.t 1)), .op (some 125) (some (123, true)) (.ld 1 false (.t 124)), .op (some 126) (some (123, true)) (.len false (.t 125)), .op (some 127) (some (123, true)) (.bin .gtr .num (.t 126) (.c (.i .i64 0))), .o 128 (.pick (.t 123) (.t 127) (.c (.b false))), .o 129 (.mv (.t 128)), .op (some 130) (some (129, true)) (.mv (.t 4)), .op (some 131) (some (129, true)) (.un .not (.t 130)), .o 132 (.pick (.t 129) (.t 131) (.c (.b false))), .o 133 (.mv (.t 132)), .op (some 134) (some (133, true)) (.fa 5 (.t 1)), .op (some 135) (some (133, true)) (.ld 1 false (.t 134)), .op (some 136) (some (133, true)) (.call 157 true [.t 135, .c (.fn 148 [])]), .o 137 (.pick (.t 133) (.t 136) (.c (.b false))), .o 138 (.mv (.t 137)), .op (some 139) (some (138, true)) (.fa 4 (.t 1)), .op (some 140) (some (138, true)) (.ld 1 false (.t 139)), .op (some 141) (some (138, true)) (.fa 5 (.t 1)), .op (some 142) (some (138, true)) (.ld 1 false (.t 141)), .op (some 143) (some (138, true)) (.fa 6 (.t 1)), .op (some 144) (some (138, true)) (.ld 1 false (.t 143)), .op (some 145) (some (138, true)) (.fa 7 (.t 1)), .op (some 146) (some (138, true)) (.ld 3 true (.t 145)), .op (some 147) (some (138, true)) (.call 158 true [.t 140, .t 142, .t 144, .t 146]), .o 148 (.pick (.t 138) (.t 147) (.c (.b false))), .o 2 (.mv (.t 148))] [1, 4, 119, 120, 121, 122, 123, 124, 125, 126, 127, 128, 129, 130, 131, 132, 133, 134, 135, 136, 137, 138, 139, 140, 141, 142, 143, 144, 145, 146, 147, 148]) .ret)) .skip)))))))))))) (.seq (.reg [.o 2 (.mv (.c (.b false)))] [1, 114]) .ret)))))
def d100 : Fn := { real := 100, np := 1, nt := 149, res := [.t 2], body := c100 }

/-- slices.ContainsFunc[[]lineage/api.Annotation,lineage/api.Annotation] -/
def c101 : C :=
  (.seq (.reg [.o 4 (.mv (.c (.b false)))] [4]) (.seq (.reg [.o 5 (.mv (.t 0)), .o 6 (.mv (.t 1)), .o 7 (.call 159 true [.t 5, .t 6]), .o 8 (.bin .geq .num (.t 7) (.c (.i .i64 0))), .o 4 (.mv (.t 8))] [0, 1, 5, 6, 7, 8]) .ret))
def d101 : Fn := { real := 101, np := 2, nt := 9, res := [.t 4], body := c101 }

/-- slices.IndexFunc[[]lineage/api.RowID,lineage/api.RowID] -/
def c102_0 : C :=
  .seq (.reg [.o 9 (.bin .lss .num (.t 8) (.t 7))] []) (.seq (.cond (.t 9) .skip (.exit 0)) (.seq (.blk 1 (.seq (.reg [.o 10 (.mv (.t 8)), .o 5 (.mv (.t 10))] [9, 10]) (.seq (.reg [.o 11 (.mv (.t 1)), .o 12 (.mv (.t 0)), .o 13 (.mv (.t 5)), .o 14 (.ia 2 (.t 12) (.t 13)), .o 15 (.ld 2 true (.t 14)), .o 16 (.calld (.t 11) false [.t 15])] [11, 12, 13, 14, 15]) (.cond (.t 16) (.seq (.reg [.o 17 (.mv (.t 5)), .o 4 (.mv (.t 17))] [0, 1, 5, 7, 8, 16, 17]) .ret) .skip)))) (.reg [.o 18 (.bin .add .num (.t 8) (.c (.i .i64 1))), .o 8 (.mv (.t 18))] [5, 16, 18])))
def c102_r0 : C :=
  .seq (.reg [.o 4 (.mv (.c (.i .i64 (-1))))] [0, 1, 7, 8, 9]) .ret
def c102 : C :=
  (.seq (.reg [.o 4 (.mv (.c (.i .i64 0)))] [4]) (.seq (.seq (.reg [.o 6 (.mv (.t 0)), .o 7 (.len false (.t 6)), .o 8 (.mv (.c (.i .i64 0)))] [6]) (.blk 0 (.loop [] c102_0))) c102_r0))
def d102 : Fn := { real := 102, np := 2, nt := 19, res := [.t 4], body := c102 }

/-- lineage/annotation.every -/
def c103_0 : C :=
  .seq (.reg [.o 46 (.bin .lss .num (.t 45) (.t 44))] []) (.seq (.cond (.t 46) .skip (.exit 6)) (.seq (.blk 7 (.seq (.reg [.o 47 (.ia 4 (.t 43) (.t 45)), .o 48 (.ld 4 true (.t 47)), .o 11 (.alloc [.i .i64 0, .i .i64 0, .s [], .sl 2 true [] .ro]), .op none none (.st 4 true (.t 11) (.t 48))] [46, 47, 48]) (.reg [.o 49 (.fa 3 (.t 11)), .o 50 (.ld 1 false (.t 49)), .o 51 (.mv (.t 1)), .o 52 (.call 103 false [.t 50, .t 51])] [11, 49, 50, 51, 52]))) (.reg [.o 53 (.bin .add .num (.t 45) (.c (.i .i64 1))), .o 45 (.mv (.t 53))] [53])))
def c103_1 : C :=
  .seq (.reg [.o 34 (.bin .lss .num (.t 33) (.t 32))] []) (.seq (.cond (.t 34) .skip (.exit 4)) (.seq (.blk 5 (.seq (.reg [.o 35 (.ia 1 (.t 31) (.t 33)), .o 36 (.ld 1 false (.t 35)), .o 9 (.mv (.t 36))] [34, 35, 36]) (.reg [.o 37 (.mv (.t 9)), .o 38 (.mv (.t 1)), .o 39 (.call 103 false [.t 37, .t 38])] [9, 37, 38, 39]))) (.reg [.o 40 (.bin .add .num (.t 33) (.c (.i .i64 1))), .o 33 (.mv (.t 40))] [40])))
def c103_r0 : C :=
  .seq (.reg [.o 41 (.fa 0 (.t 7)), .o 42 (.fa 5 (.t 41)), .o 43 (.ld 1 false (.t 42)), .o 44 (.len false (.t 43)), .o 45 (.mv (.c (.i .i64 0)))] [7, 31, 32, 33, 34, 41, 42]) (.blk 6 (.loop [] c103_0))
def c103_r1 : C :=
  .reg [.o 54 (.bin .add .num (.t 21) (.c (.i .i64 1))), .o 21 (.mv (.t 54))] [43, 44, 45, 46, 54]
def c103_2 : C :=
  .seq (.reg [.o 22 (.bin .lss .num (.t 21) (.t 20))] []) (.seq (.cond (.t 22) .skip (.exit 2)) (.seq (.blk 3 (.seq (.reg [.o 23 (.ia 11 (.t 19) (.t 21)), .o 24 (.ld 11 true (.t 23)), .o 7 (.alloc [.i .i64 0, .i .i64 0, .i .i64 0, .sl 1 true [] .ro, .i .i64 0, .sl 4 true [] .ro, .i .i64 0, .i .i64 0, .i .i64 0, .s [], .i .i64 0]), .op none none (.st 11 true (.t 7) (.t 24))] [22, 23, 24]) (.seq (.reg [.o 25 (.mv (.t 1)), .o 26 (.fa 0 (.t 7)), .o 27 (.ld 10 true (.t 26)), .o 28 (.calld (.t 25) false [.t 27])] [25, 26, 27, 28]) (.seq (.seq (.reg [.o 29 (.fa 0 (.t 7)), .o 30 (.fa 3 (.t 29)), .o 31 (.ld 1 false (.t 30)), .o 32 (.len false (.t 31)), .o 33 (.mv (.c (.i .i64 0)))] [29, 30]) (.blk 4 (.loop [] c103_1))) c103_r0)))) c103_r1))
def c103_r2 : C :=
  .reg [.o 55 (.bin .add .num (.t 14) (.c (.i .i64 1))), .o 14 (.mv (.t 55))] [19, 20, 21, 22, 55]
def c103_3 : C :=
  .seq (.reg [.o 15 (.bin .lss .num (.t 14) (.t 13))] []) (.seq (.cond (.t 15) .skip (.exit 0)) (.seq (.blk 1 (.seq (.reg [.o 16 (.ia 2 (.t 12) (.t 14)), .o 17 (.ld 2 true (.t 16)), .o 5 (.alloc [.i .i64 0, .sl 11 true [] .ro]), .op none none (.st 2 true (.t 5) (.t 17))] [15, 16, 17]) (.seq (.reg [.o 18 (.fa 1 (.t 5)), .o 19 (.ld 1 false (.t 18)), .o 20 (.len false (.t 19)), .o 21 (.mv (.c (.i .i64 0)))] [5, 18]) (.blk 2 (.loop [] c103_2))))) c103_r2))
def c103 : C :=
  (.seq (.reg [.o 12 (.mv (.t 0)), .o 13 (.len false (.t 12)), .o 14 (.mv (.c (.i .i64 0)))] [0]) (.blk 0 (.loop [] c103_3)))
def d103 : Fn := { real := 103, np := 2, nt := 56, res := [], body := c103 }

/-- lineage/annotation.Variables$1 -/
def c104 : C :=
  (.seq (.reg [.o 2 (.box 10 true (.t 0))] [0]) (.seq (.reg [.o 3 (.fa 0 (.t 2)), .o 4 (.ld 1 false (.t 3)), .o 5 (.bin .eql .num (.t 4) (.c (.i .i64 0)))] [3, 4]) (.cond (.t 5) (.reg [.o 6 (.ld 1 false (.t 1)), .o 7 (.fa 1 (.t 2)), .o 8 (.ld 2 true (.t 7)), .o 9 (.bsl 2 true false [.t 8]), .o 10 (.app 2 false (.t 6) (.t 9)), .op none none (.st 1 false (.t 1) (.t 10))] [1, 2, 5, 6, 7, 8, 9, 10]) .skip)))
def d104 : Fn := { real := 104, np := 2, nt := 11, res := [], body := c104 }

/-- (lineage/bdd.builder).term -/
def c105_0 : C :=
  .seq (.reg [.o 18 (.bin .lss .num (.t 17) (.t 16))] []) (.seq (.cond (.t 18) .skip (.exit 0)) (.seq (.blk 1 (.seq (.reg [.o 19 (.ia 11 (.t 15) (.t 17)), .o 20 (.ld 11 true (.t 19)), .o 8 (.alloc [.i .i64 0, .i .i64 0, .i .i64 0, .sl 1 true [] .ro, .i .i64 0, .sl 4 true [] .ro, .i .i64 0, .i .i64 0, .i .i64 0, .s [], .i .i64 0]), .op none none (.st 11 true (.t 8) (.t 20))] [18, 19, 20]) (.seq (.reg [.o 22 (.ld 2 true (.t 2)), .o 23 (.fa 0 (.t 8)), .o 24 (.ld 10 true (.t 23)), .o 25 (.call 160 true [.t 22, .t 24]), .o 21 (.mv (.t 25)), .o 26 (.ext (.t 21) 0), .o 27 (.ext (.t 21) 1), .o 9 (.alloc [.sl 2 true [] .ro, .sl 3 true [] .ro, .i .i64 0]), .op none none (.st 3 true (.t 9) (.t 26)), .o 10 (.mv (.t 27))] [8, 21, 22, 23, 24, 25, 26, 27]) (.seq (.seq (.reg [.o 28 (.mv (.t 10)), .o 29 (.bin .neq .num (.t 28) (.c (.i .i64 0)))] [28]) (.cond (.t 29) (.seq (.reg [.o 30 (.bld [.sl 2 true [] .ro, .sl 3 true [] .ro, .i .i64 0] []), .o 31 (.mv (.t 10)), .op none none (.st 3 true (.t 4) (.t 30)), .o 5 (.mv (.t 31))] [2, 6, 9, 10, 15, 16, 17, 29, 30, 31]) .ret) .skip)) (.seq (.dreg [(0, .o 33 (.ld 2 true (.t 2))), (1, .o 34 (.ld 3 true (.t 6))), (2, .o 35 (.ld 3 true (.t 9))), (3, .o 36 (.call 21 true [.t 34, .t 35])), (4, .o 37 (.ext (.t 36) 0)), (5, .o 38 (.ext (.t 36) 1)), (6, .o 39 (.call 106 true [.t 33, .t 37, .t 38])), (7, .o 32 (.mv (.t 39))), (8, .o 40 (.ext (.t 32) 0)), (9, .o 41 (.ext (.t 32) 1)), (10, .op none none (.st 3 true (.t 6) (.t 40))), (11, .o 10 (.mv (.t 41)))] [9, 29, 32, 33, 34, 35, 36, 37, 38, 39, 40, 41]) (.seq (.reg [.o 42 (.mv (.t 10)), .o 43 (.bin .neq .num (.t 42) (.c (.i .i64 0)))] [42]) (.cond (.t 43) (.seq (.reg [.o 44 (.bld [.sl 2 true [] .ro, .sl 3 true [] .ro, .i .i64 0] []), .o 45 (.mv (.t 10)), .op none none (.st 3 true (.t 4) (.t 44)), .o 5 (.mv (.t 45))] [2, 6, 10, 15, 16, 17, 43, 44, 45]) .ret) .skip))))))) (.reg [.o 46 (.bin .add .num (.t 17) (.c (.i .i64 1))), .o 17 (.mv (.t 46))] [10, 43, 46])))
def c105_r0 : C :=
  .seq (.reg [.o 47 (.ld 3 true (.t 6)), .op none none (.st 3 true (.t 4) (.t 47)), .o 5 (.mv (.c (.i .i64 0)))] [2, 6, 15, 16, 17, 18, 47]) .ret
def c105 : C :=
  (.seq (.reg [.o 2 (.box 2 true (.t 0)), .o 3 (.box 2 true (.t 1)), .o 4 (.alloc [.sl 2 true [] .ro, .sl 3 true [] .ro, .i .i64 0]), .o 5 (.mv (.c (.i .i64 0)))] [0, 1, 5]) (.seq (.reg [.o 11 (.fa 0 (.t 2)), .o 12 (.ld 1 false (.t 11)), .o 13 (.call 13 true [.t 12, .c (.b true)]), .o 6 (.alloc [.sl 2 true [] .ro, .sl 3 true [] .ro, .i .i64 0]), .op none none (.st 3 true (.t 6) (.t 13))] [11, 12, 13]) (.seq (.seq (.reg [.o 14 (.fa 1 (.t 3)), .o 15 (.ld 1 false (.t 14)), .o 16 (.len false (.t 15)), .o 17 (.mv (.c (.i .i64 0)))] [3, 14]) (.blk 0 (.loop [] c105_0))) c105_r0)))
def d105 : Fn := { real := 105, np := 2, nt := 48, res := [.cell 4 3 true, .t 5], body := c105 }

/-- (lineage/bdd.builder).limited -/
def c106 : C :=
  (.seq (.reg [.o 3 (.box 2 true (.t 0)), .o 4 (.box 3 true (.t 1)), .o 6 (.alloc [.sl 2 true [] .ro, .sl 3 true [] .ro, .i .i64 0]), .o 7 (.mv (.c (.i .i64 0)))] [0, 1, 7]) (.seq (.seq (.reg [.o 8 (.mv (.t 2)), .o 9 (.bin .eql .num (.t 8) (.c (.i .i64 0))), .o 10 (.mv (.t 9)), .op (some 11) (some (10, true)) (.fa 1 (.t 4)), .op (some 12) (some (10, true)) (.ld 1 false (.t 11)), .op (some 13) (some (10, true)) (.len false (.t 12)), .op (some 14) (some (10, true)) (.fa 1 (.t 3)), .op (some 15) (some (10, true)) (.ld 1 false (.t 14)), .op (some 16) (some (10, true)) (.bin .gtr .num (.t 13) (.t 15)), .o 17 (.pick (.t 10) (.t 16) (.c (.b false)))] [3, 8, 9, 10, 11, 12, 13, 14, 15, 16]) (.cond (.t 17) (.seq (.reg [.o 18 (.bld [.sl 2 true [] .ro, .sl 3 true [] .ro, .i .i64 0] []), .op none none (.st 3 true (.t 6) (.t 18)), .o 7 (.mv (.c (.i .i64 6)))] [2, 4, 17, 18]) .ret) .skip)) (.seq (.reg [.o 19 (.ld 3 true (.t 4)), .o 20 (.mv (.t 2)), .op none none (.st 3 true (.t 6) (.t 19)), .o 7 (.mv (.t 20))] [2, 4, 17, 19, 20]) .ret)))
def d106 : Fn := { real := 106, np := 3, nt := 21, res := [.cell 6 3 true, .t 7], body := c106 }


/-- lineage/lineageref05.CompareFactors -/
def c108_0 : C :=
  .seq (.seq (.reg [.o 8 (.mv (.t 5)), .o 9 (.mv (.t 0)), .o 10 (.len false (.t 9)), .o 11 (.bin .lss .num (.t 8) (.t 10)), .o 12 (.mv (.t 11)), .op (some 13) (some (12, true)) (.mv (.t 5)), .op (some 14) (some (12, true)) (.mv (.t 1)), .op (some 15) (some (12, true)) (.len false (.t 14)), .op (some 16) (some (12, true)) (.bin .lss .num (.t 13) (.t 15)), .o 17 (.pick (.t 12) (.t 16) (.c (.b false)))] [8, 9, 10, 11, 12, 13, 14, 15, 16]) (.cond (.t 17) .skip (.exit 0))) (.seq (.blk 1 (.seq (.seq (.dreg [(0, .o 20 (.mv (.t 0))), (1, .o 21 (.mv (.t 5))), (2, .o 22 (.ia 11 (.t 20) (.t 21))), (3, .o 23 (.fa 0 (.t 22))), (4, .o 24 (.ld 10 true (.t 23))), (5, .o 25 (.mv (.t 1))), (6, .o 26 (.mv (.t 5))), (7, .o 27 (.ia 11 (.t 25) (.t 26))), (8, .o 28 (.fa 0 (.t 27))), (9, .o 29 (.ld 10 true (.t 28))), (10, .o 30 (.call 110 true [.t 24, .t 29])), (11, .o 6 (.mv (.t 30)))] [17, 20, 21, 22, 23, 24, 25, 26, 27, 28, 29, 30]) (.seq (.reg [.o 31 (.mv (.t 6)), .o 32 (.bin .neq .num (.t 31) (.c (.i .i64 0)))] [31]) (.cond (.t 32) (.seq (.reg [.o 33 (.mv (.t 6)), .o 4 (.mv (.t 33))] [0, 1, 5, 6, 32, 33]) .ret) .skip))) (.seq (.dreg [(0, .o 34 (.mv (.t 0))), (1, .o 35 (.mv (.t 5))), (2, .o 36 (.ia 11 (.t 34) (.t 35))), (3, .o 37 (.fa 10 (.t 36))), (4, .o 38 (.ld 1 false (.t 37))), (5, .o 39 (.mv (.t 1))), (6, .o 40 (.mv (.t 5))), (7, .o 41 (.ia 11 (.t 39) (.t 40))), (8, .o 42 (.fa 10 (.t 41))), (9, .o 43 (.ld 1 false (.t 42))), (10, .o 44 (.call 163 true [.t 38, .t 43])), (11, .o 7 (.mv (.t 44)))] [6, 32, 34, 35, 36, 37, 38, 39, 40, 41, 42, 43, 44]) (.seq (.reg [.o 45 (.mv (.t 7)), .o 46 (.bin .neq .num (.t 45) (.c (.i .i64 0)))] [45]) (.cond (.t 46) (.seq (.reg [.o 47 (.mv (.t 7)), .o 4 (.mv (.t 47))] [0, 1, 5, 7, 46, 47]) .ret) .skip))))) (.reg [.o 18 (.mv (.t 5)), .o 19 (.bin .add .num (.t 18) (.c (.i .i64 1))), .o 5 (.mv (.t 19))] [7, 18, 19, 46]))
def c108_r0 : C :=
  .seq (.reg [.o 48 (.mv (.t 0)), .o 49 (.len false (.t 48)), .o 50 (.mv (.t 1)), .o 51 (.len false (.t 50)), .o 52 (.call 163 true [.t 49, .t 51]), .o 4 (.mv (.t 52))] [0, 1, 5, 17, 48, 49, 50, 51, 52]) .ret
def c108 : C :=
  (.seq (.reg [.o 4 (.mv (.c (.i .i64 0)))] [4]) (.seq (.seq (.reg [.o 5 (.mv (.c (.i .i64 0)))] []) (.blk 0 (.loop [] c108_0))) c108_r0))
def d108 : Fn := { real := 108, np := 2, nt := 53, res := [.t 4], body := c108 }


/-- lineage/lineageref05.CompareAtom -/
def c110_0 : C :=
  .seq (.seq (.reg [.o 29 (.mv (.t 7)), .o 30 (.fa 3 (.t 2)), .o 31 (.ld 1 false (.t 30)), .o 32 (.len false (.t 31)), .o 33 (.bin .lss .num (.t 29) (.t 32)), .o 34 (.mv (.t 33)), .op (some 35) (some (34, true)) (.mv (.t 7)), .op (some 36) (some (34, true)) (.fa 3 (.t 3)), .op (some 37) (some (34, true)) (.ld 1 false (.t 36)), .op (some 38) (some (34, true)) (.len false (.t 37)), .op (some 39) (some (34, true)) (.bin .lss .num (.t 35) (.t 38)), .o 40 (.pick (.t 34) (.t 39) (.c (.b false)))] [29, 30, 31, 32, 33, 34, 35, 36, 37, 38, 39]) (.cond (.t 40) .skip (.exit 0))) (.seq (.blk 1 (.seq (.dreg [(0, .o 43 (.fa 3 (.t 2))), (1, .o 44 (.ld 1 false (.t 43))), (2, .o 45 (.mv (.t 7))), (3, .o 46 (.ia 1 (.t 44) (.t 45))), (4, .o 47 (.ld 1 false (.t 46))), (5, .o 48 (.fa 3 (.t 3))), (6, .o 49 (.ld 1 false (.t 48))), (7, .o 50 (.mv (.t 7))), (8, .o 51 (.ia 1 (.t 49) (.t 50))), (9, .o 52 (.ld 1 false (.t 51))), (10, .o 53 (.call 171 true [.t 47, .t 52])), (11, .o 8 (.mv (.t 53)))] [40, 43, 44, 45, 46, 47, 48, 49, 50, 51, 52, 53]) (.seq (.reg [.o 54 (.mv (.t 8)), .o 55 (.bin .neq .num (.t 54) (.c (.i .i64 0)))] [54]) (.cond (.t 55) (.seq (.reg [.o 56 (.mv (.t 8)), .o 4 (.mv (.t 56))] [2, 3, 7, 8, 55, 56]) .ret) .skip)))) (.reg [.o 41 (.mv (.t 7)), .o 42 (.bin .add .num (.t 41) (.c (.i .i64 1))), .o 7 (.mv (.t 42))] [8, 41, 42, 55]))
def c110_r0 : C :=
  .seq (.seq (.reg [.o 57 (.fa 3 (.t 2)), .o 58 (.ld 1 false (.t 57)), .o 59 (.len false (.t 58)), .o 60 (.fa 3 (.t 3)), .o 61 (.ld 1 false (.t 60)), .o 62 (.len false (.t 61)), .o 63 (.call 163 true [.t 59, .t 62]), .o 9 (.mv (.t 63))] [7, 40, 57, 58, 59, 60, 61, 62, 63]) (.seq (.reg [.o 64 (.mv (.t 9)), .o 65 (.bin .neq .num (.t 64) (.c (.i .i64 0)))] [64]) (.cond (.t 65) (.seq (.reg [.o 66 (.mv (.t 9)), .o 4 (.mv (.t 66))] [2, 3, 9, 65, 66]) .ret) .skip))) (.seq (.seq (.reg [.o 67 (.fa 4 (.t 2)), .o 68 (.ld 1 false (.t 67)), .o 69 (.fa 4 (.t 3)), .o 70 (.ld 1 false (.t 69)), .o 71 (.call 163 true [.t 68, .t 70]), .o 10 (.mv (.t 71))] [9, 65, 67, 68, 69, 70, 71]) (.seq (.reg [.o 72 (.mv (.t 10)), .o 73 (.bin .neq .num (.t 72) (.c (.i .i64 0)))] [72]) (.cond (.t 73) (.seq (.reg [.o 74 (.mv (.t 10)), .o 4 (.mv (.t 74))] [2, 3, 10, 73, 74]) .ret) .skip))) (.seq (.seq (.reg [.o 75 (.fa 5 (.t 2)), .o 76 (.ld 1 false (.t 75)), .o 77 (.fa 5 (.t 3)), .o 78 (.ld 1 false (.t 77)), .o 79 (.call 169 true [.t 76, .t 78]), .o 11 (.mv (.t 79))] [10, 73, 75, 76, 77, 78, 79]) (.seq (.reg [.o 80 (.mv (.t 11)), .o 81 (.bin .neq .num (.t 80) (.c (.i .i64 0)))] [80]) (.cond (.t 81) (.seq (.reg [.o 82 (.mv (.t 11)), .o 4 (.mv (.t 82))] [2, 3, 11, 81, 82]) .ret) .skip))) (.seq (.seq (.reg [.o 83 (.fa 6 (.t 2)), .o 84 (.ld 1 false (.t 83)), .o 85 (.fa 6 (.t 3)), .o 86 (.ld 1 false (.t 85)), .o 87 (.call 163 true [.t 84, .t 86]), .o 12 (.mv (.t 87))] [11, 81, 83, 84, 85, 86, 87]) (.seq (.reg [.o 88 (.mv (.t 12)), .o 89 (.bin .neq .num (.t 88) (.c (.i .i64 0)))] [88]) (.cond (.t 89) (.seq (.reg [.o 90 (.mv (.t 12)), .o 4 (.mv (.t 90))] [2, 3, 12, 89, 90]) .ret) .skip))) (.seq (.reg [.o 91 (.fa 7 (.t 2)), .o 92 (.ld 3 true (.t 91)), .o 93 (.fa 7 (.t 3)), .o 94 (.ld 3 true (.t 93)), .o 95 (.call 172 true [.t 92, .t 94]), .o 4 (.mv (.t 95))] [2, 3, 12, 89, 91, 92, 93, 94, 95]) .ret))))
def c110 : C :=
  (.seq (.reg [.o 2 (.box 10 true (.t 0)), .o 3 (.box 10 true (.t 1)), .o 4 (.mv (.c (.i .i64 0)))] [0, 1, 4]) (.seq (.seq (.reg [.o 13 (.fa 0 (.t 2)), .o 14 (.ld 1 false (.t 13)), .o 15 (.fa 0 (.t 3)), .o 16 (.ld 1 false (.t 15)), .o 17 (.call 163 true [.t 14, .t 16]), .o 5 (.mv (.t 17))] [13, 14, 15, 16, 17]) (.seq (.reg [.o 18 (.mv (.t 5)), .o 19 (.bin .neq .num (.t 18) (.c (.i .i64 0)))] [18]) (.cond (.t 19) (.seq (.reg [.o 20 (.mv (.t 5)), .o 4 (.mv (.t 20))] [2, 3, 5, 19, 20]) .ret) .skip))) (.seq (.seq (.reg [.o 21 (.fa 1 (.t 2)), .o 22 (.ld 2 true (.t 21)), .o 23 (.fa 1 (.t 3)), .o 24 (.ld 2 true (.t 23)), .o 25 (.call 170 true [.t 22, .t 24]), .o 6 (.mv (.t 25))] [5, 19, 21, 22, 23, 24, 25]) (.seq (.reg [.o 26 (.mv (.t 6)), .o 27 (.bin .neq .num (.t 26) (.c (.i .i64 0)))] [26]) (.cond (.t 27) (.seq (.reg [.o 28 (.mv (.t 6)), .o 4 (.mv (.t 28))] [2, 3, 6, 27, 28]) .ret) .skip))) (.seq (.seq (.reg [.o 7 (.mv (.c (.i .i64 0)))] [6, 27]) (.blk 0 (.loop [] c110_0))) c110_r0))))
def d110 : Fn := { real := 110, np := 2, nt := 96, res := [.t 4], body := c110 }





/-- lineage/bdd.numbered$1 -/
def c115 : C :=
  (.seq (.reg [.o 6 (.mv (.c (.i .i64 0)))] [6]) (.seq (.seq (.reg [.o 11 (.ld 1 false (.t 1)), .o 12 (.mv (.t 0)), .o 13 (.lk (.one .i) true (.i .i64 0) (.t 11) (.t 12)), .o 10 (.mv (.t 13)), .o 14 (.ext (.t 10) 0), .o 15 (.ext (.t 10) 1), .o 7 (.mv (.t 14)), .o 8 (.mv (.t 15))] [10, 11, 12, 13, 14, 15]) (.seq (.reg [.o 16 (.mv (.t 8))] [8]) (.cond (.t 16) (.seq (.reg [.o 17 (.mv (.t 7)), .o 6 (.mv (.t 17))] [0, 1, 2, 3, 4, 7, 16, 17]) .ret) .skip))) (.seq (.reg [.o 18 (.ld 1 false (.t 2)), .o 19 (.mv (.t 0)), .o 20 (.bin .sub .num (.t 19) (.c (.i .i64 2))), .o 21 (.ia 3 (.t 18) (.t 20)), .o 22 (.ld 3 true (.t 21)), .o 9 (.alloc [.i .i64 0, .i .i64 0, .i .i64 0]), .op none none (.st 3 true (.t 9) (.t 22))] [2, 7, 16, 18, 19, 20, 21, 22]) (.seq (.dreg [(0, .o 23 (.ld 1 false (.t 3))), (1, .o 24 (.fa 1 (.t 9))), (2, .o 25 (.ld 1 false (.t 24))), (4, .o 27 (.ld 1 false (.t 3))), (5, .o 28 (.fa 2 (.t 9))), (6, .o 29 (.ld 1 false (.t 28))), (3, .o 26 (.calld (.t 23) false [.t 25])), (4, .ck 27 (.ld 1 false (.t 3))), (6, .ck 29 (.ld 1 false (.t 28))), (8, .o 31 (.fa 1 (.t 9))), (7, .o 30 (.calld (.t 27) false [.t 29])), (9, .op none none (.st 1 false (.t 31) (.t 26))), (10, .o 32 (.fa 2 (.t 9))), (11, .op none none (.st 1 false (.t 32) (.t 30)))] [3, 23, 24, 25, 26, 27, 28, 29, 30, 31, 32]) (.seq (.reg [.o 33 (.fa 1 (.t 4)), .o 34 (.ld 1 false (.t 33)), .o 35 (.ld 3 true (.t 9)), .o 36 (.bsl 3 true false [.t 35]), .o 37 (.app 3 false (.t 34) (.t 36)), .o 38 (.fa 1 (.t 4)), .op none none (.st 1 false (.t 38) (.t 37))] [9, 33, 34, 35, 36, 37, 38]) (.seq (.reg [.o 39 (.ld 1 false (.t 1)), .o 40 (.mv (.t 0)), .o 41 (.fa 1 (.t 4)), .o 42 (.ld 1 false (.t 41)), .o 43 (.len false (.t 42)), .o 44 (.bin .sub .num (.t 43) (.c (.i .i64 1))), .o 45 (.bin .add .num (.t 44) (.c (.i .i64 2))), .op none none (.mu (.one .i) (.t 39) (.t 40) (.t 45))] [4, 39, 40, 41, 42, 43, 44, 45]) (.seq (.reg [.o 46 (.ld 1 false (.t 1)), .o 47 (.mv (.t 0)), .o 48 (.lk (.one .i) false (.i .i64 0) (.t 46) (.t 47)), .o 6 (.mv (.t 48))] [0, 1, 46, 47, 48]) .ret)))))))
def d115 : Fn := { real := 115, np := 5, nt := 49, res := [.t 6], body := c115 }

/-- lineage/bignat.trimmed -/
def c116_0 : C :=
  .seq (.seq (.reg [.o 6 (.mv (.t 3)), .o 7 (.bin .gtr .num (.t 6) (.c (.i .i64 0))), .o 8 (.mv (.t 7)), .op (some 9) (some (8, true)) (.mv (.t 0)), .op (some 10) (some (8, true)) (.mv (.t 3)), .op (some 11) (some (8, true)) (.bin .sub .num (.t 10) (.c (.i .i64 1))), .op (some 12) (some (8, true)) (.ia 1 (.t 9) (.t 11)), .op (some 13) (some (8, true)) (.ld 1 false (.t 12)), .op (some 14) (some (8, true)) (.bin .eql .num (.t 13) (.c (.i .u32 0))), .o 15 (.pick (.t 8) (.t 14) (.c (.b false)))] [6, 7, 8, 9, 10, 11, 12, 13, 14]) (.cond (.t 15) .skip (.exit 0))) (.blk 1 (.reg [.o 16 (.mv (.t 3)), .o 17 (.bin .sub .num (.t 16) (.c (.i .i64 1))), .o 3 (.mv (.t 17))] [15, 16, 17]))
def c116_r0 : C :=
  .seq (.reg [.o 18 (.mv (.t 0)), .o 19 (.mv (.t 3)), .o 20 (.slc 1 (.t 18) none (some (.t 19))), .o 2 (.mv (.t 20))] [0, 3, 15, 18, 19, 20]) .ret
def c116 : C :=
  (.seq (.reg [.o 2 (.mv (.c (.sl 1 true [] .ro)))] [2]) (.seq (.reg [.o 4 (.mv (.t 0)), .o 5 (.len false (.t 4)), .o 3 (.mv (.t 5))] [4, 5]) (.seq (.blk 0 (.loop [] c116_0)) c116_r0)))
def d116 : Fn := { real := 116, np := 1, nt := 21, res := [.t 2], body := c116 }

/-- lineage/bignat.fitting -/
def c117 : C :=
  (.seq (.reg [.o 2 (.mv (.c (.sl 1 true [] .ro))), .o 3 (.mv (.c (.i .i64 0)))] [2, 3]) (.seq (.reg [.o 5 (.mv (.t 0)), .o 6 (.call 116 true [.t 5]), .o 4 (.mv (.t 6))] [0, 5, 6]) (.seq (.seq (.reg [.o 7 (.mv (.t 4)), .o 8 (.len false (.t 7)), .o 9 (.bin .gtr .num (.t 8) (.c (.i .i64 128)))] [7, 8]) (.cond (.t 9) (.seq (.reg [.o 2 (.mv (.c (.sl 1 true [] .ro))), .o 3 (.mv (.c (.i .i64 6)))] [4, 9]) .ret) .skip)) (.seq (.reg [.o 10 (.mv (.t 4)), .o 2 (.mv (.t 10)), .o 3 (.mv (.c (.i .i64 0)))] [4, 9, 10]) .ret))))
def d117 : Fn := { real := 117, np := 1, nt := 11, res := [.t 2, .t 3], body := c117 }

/-- lineage/bignat.left -/
def c118_0 : C :=
  .seq (.reg [.o 15 (.bin .lss .num (.t 14) (.t 13))] []) (.seq (.cond (.t 15) .skip (.exit 0)) (.seq (.blk 1 (.seq (.reg [.o 16 (.mv (.t 14)), .o 6 (.mv (.t 16))] [15, 16]) (.seq (.reg [.o 17 (.mv (.t 0)), .o 18 (.mv (.t 6)), .o 19 (.ia 1 (.t 17) (.t 18)), .o 20 (.ld 1 false (.t 19)), .o 21 (.conv .u64 (.t 20)), .o 22 (.mv (.t 1)), .o 23 (.bin .shl .num (.t 21) (.t 22)), .o 7 (.mv (.t 23))] [17, 18, 19, 20, 21, 22, 23]) (.seq (.reg [.o 24 (.mv (.t 5)), .o 25 (.mv (.t 6)), .o 26 (.ia 1 (.t 24) (.t 25)), .o 27 (.ld 1 false (.t 26)), .o 28 (.mv (.t 7)), .o 29 (.conv .u32 (.t 28)), .o 30 (.bin .or .num (.t 27) (.t 29)), .o 31 (.ia 1 (.t 24) (.t 25)), .op none none (.st 1 false (.t 31) (.t 30))] [24, 25, 26, 27, 28, 29, 30, 31]) (.reg [.o 32 (.mv (.t 5)), .o 33 (.mv (.t 6)), .o 34 (.bin .add .num (.t 33) (.c (.i .i64 1))), .o 35 (.mv (.t 7)), .o 36 (.bin .shr .num (.t 35) (.c (.i .u64 32))), .o 37 (.conv .u32 (.t 36)), .o 38 (.ia 1 (.t 32) (.t 34)), .op none none (.st 1 false (.t 38) (.t 37))] [6, 7, 32, 33, 34, 35, 36, 37, 38]))))) (.reg [.o 39 (.bin .add .num (.t 14) (.c (.i .i64 1))), .o 14 (.mv (.t 39))] [39])))
def c118_r0 : C :=
  .seq (.reg [.fz 5, .o 40 (.mv (.t 5)), .o 4 (.mv (.t 40))] [0, 1, 5, 13, 14, 15, 40]) .ret
def c118 : C :=
  (.seq (.reg [.o 4 (.mv (.c (.sl 1 true [] .ro)))] [4]) (.seq (.reg [.o 8 (.mv (.t 0)), .o 9 (.len false (.t 8)), .o 10 (.bin .add .num (.t 9) (.c (.i .i64 1))), .o 11 (.mksl 1 true [.i .u32 0] (.t 10)), .o 5 (.mv (.t 11))] [8, 9, 10, 11]) (.seq (.seq (.reg [.o 12 (.mv (.t 0)), .o 13 (.len false (.t 12)), .o 14 (.mv (.c (.i .i64 0)))] [12]) (.blk 0 (.loop [] c118_0))) c118_r0)))
def d118 : Fn := { real := 118, np := 2, nt := 41, res := [.t 4], body := c118 }

/-- lineage/bignat.right -/
def c119_0 : C :=
  .seq (.reg [.o 14 (.bin .lss .num (.t 13) (.t 12))] []) (.seq (.cond (.t 14) .skip (.exit 0)) (.seq (.blk 1 (.seq (.reg [.o 15 (.mv (.t 13)), .o 6 (.mv (.t 15))] [14, 15]) (.seq (.reg [.o 16 (.mv (.t 0)), .o 17 (.mv (.t 6)), .o 18 (.ia 1 (.t 16) (.t 17)), .o 19 (.ld 1 false (.t 18)), .o 20 (.conv .u64 (.t 19)), .o 7 (.mv (.t 20))] [16, 17, 18, 19, 20]) (.seq (.seq (.reg [.o 21 (.mv (.t 6)), .o 22 (.bin .add .num (.t 21) (.c (.i .i64 1))), .o 23 (.mv (.t 0)), .o 24 (.len false (.t 23)), .o 25 (.bin .lss .num (.t 22) (.t 24))] [21, 22, 23, 24]) (.cond (.t 25) (.reg [.o 26 (.mv (.t 7)), .o 27 (.mv (.t 0)), .o 28 (.mv (.t 6)), .o 29 (.bin .add .num (.t 28) (.c (.i .i64 1))), .o 30 (.ia 1 (.t 27) (.t 29)), .o 31 (.ld 1 false (.t 30)), .o 32 (.conv .u64 (.t 31)), .o 33 (.bin .shl .num (.t 32) (.c (.i .u64 32))), .o 34 (.bin .or .num (.t 26) (.t 33)), .o 7 (.mv (.t 34))] [25, 26, 27, 28, 29, 30, 31, 32, 33, 34]) .skip)) (.reg [.o 35 (.mv (.t 5)), .o 36 (.mv (.t 6)), .o 37 (.mv (.t 7)), .o 38 (.mv (.t 1)), .o 39 (.bin .shr .num (.t 37) (.t 38)), .o 40 (.conv .u32 (.t 39)), .o 41 (.ia 1 (.t 35) (.t 36)), .op none none (.st 1 false (.t 41) (.t 40))] [6, 7, 25, 35, 36, 37, 38, 39, 40, 41]))))) (.reg [.o 42 (.bin .add .num (.t 13) (.c (.i .i64 1))), .o 13 (.mv (.t 42))] [42])))
def c119_r0 : C :=
  .seq (.reg [.fz 5, .o 43 (.mv (.t 5)), .o 4 (.mv (.t 43))] [0, 1, 5, 12, 13, 14, 43]) .ret
def c119 : C :=
  (.seq (.reg [.o 4 (.mv (.c (.sl 1 true [] .ro)))] [4]) (.seq (.reg [.o 8 (.mv (.t 0)), .o 9 (.len false (.t 8)), .o 10 (.mksl 1 true [.i .u32 0] (.t 9)), .o 5 (.mv (.t 10))] [8, 9, 10]) (.seq (.seq (.reg [.o 11 (.mv (.t 0)), .o 12 (.len false (.t 11)), .o 13 (.mv (.c (.i .i64 0)))] [11]) (.blk 0 (.loop [] c119_0))) c119_r0)))
def d119 : Fn := { real := 119, np := 2, nt := 44, res := [.t 4], body := c119 }

/-- lineage/bignat.limbAt -/
def c120 : C :=
  (.seq (.reg [.o 1 (.box 1 false (.t 0)), .o 2 (.mv (.c (.top)))] [0, 2]) (.seq (.reg [.o 3 (.mkfn 173 [.t 1]), .o 2 (.mv (.t 3))] [1, 3]) .ret))
def d120 : Fn := { real := 120, np := 1, nt := 4, res := [.t 2], body := c120 }

/-- math/bits.Add32 -/
def c121 : C :=
  (.seq (.reg [.o 6 (.mv (.c (.i .u32 0))), .o 7 (.mv (.c (.i .u32 0)))] [6, 7]) (.seq (.reg [.o 9 (.mv (.t 0)), .o 10 (.conv .u64 (.t 9)), .o 11 (.mv (.t 1)), .o 12 (.conv .u64 (.t 11)), .o 13 (.bin .add .num (.t 10) (.t 12)), .o 14 (.mv (.t 2)), .o 15 (.conv .u64 (.t 14)), .o 16 (.bin .add .num (.t 13) (.t 15)), .o 8 (.mv (.t 16))] [0, 1, 2, 9, 10, 11, 12, 13, 14, 15, 16]) (.seq (.reg [.o 17 (.mv (.t 8)), .o 18 (.conv .u32 (.t 17)), .o 6 (.mv (.t 18))] [17, 18]) (.seq (.reg [.o 19 (.mv (.t 8)), .o 20 (.bin .shr .num (.t 19) (.c (.i .u64 32))), .o 21 (.conv .u32 (.t 20)), .o 7 (.mv (.t 21))] [8, 19, 20, 21]) .ret))))
def d121 : Fn := { real := 121, np := 3, nt := 22, res := [.t 6, .t 7], body := c121 }

/-- slices.SortFunc[[]lineage/api.RowID,lineage/api.RowID] -/
def c122 : C :=
  (.seq (.reg [.o 5 (.mv (.t 0)), .o 6 (.len false (.t 5)), .o 4 (.mv (.t 6))] [5, 6]) (.reg [.o 7 (.mv (.t 0)), .o 8 (.mv (.t 4)), .o 9 (.mv (.t 4)), .o 10 (.conv .u64 (.t 9)), .o 11 (.call 175 true [.t 10]), .o 12 (.mv (.t 1)), .o 13 (.call 174 false [.t 7, .c (.i .i64 0), .t 8, .t 11, .t 12])] [0, 1, 4, 7, 8, 9, 10, 11, 12, 13]))
def d122 : Fn := { real := 122, np := 2, nt := 14, res := [], body := c122 }

/-- lineage/rowset.Compare -/
def c123 : C :=
  (.seq (.reg [.o 2 (.box 2 true (.t 0)), .o 3 (.box 2 true (.t 1)), .o 4 (.mv (.c (.i .i64 0)))] [0, 1, 4]) (.seq (.dreg [(0, .o 5 (.fa 0 (.t 2))), (1, .o 6 (.ld 1 false (.t 5))), (2, .o 7 (.fa 0 (.t 3))), (3, .o 8 (.ld 1 false (.t 7))), (4, .o 9 (.call 144 true [.t 6, .t 8])), (5, .o 10 (.fa 1 (.t 2))), (6, .o 11 (.ld 1 false (.t 10))), (7, .o 12 (.fa 1 (.t 3))), (8, .o 13 (.ld 1 false (.t 12))), (9, .o 14 (.call 144 true [.t 11, .t 13])), (10, .o 15 (.bsl 1 false false [.t 9, .t 14])), (11, .o 16 (.call 143 true [.t 15])), (12, .o 4 (.mv (.t 16)))] [2, 3, 5, 6, 7, 8, 9, 10, 11, 12, 13, 14, 15, 16]) .ret))
def d123 : Fn := { real := 123, np := 2, nt := 17, res := [.t 4], body := c123 }

/-- slices.Compact[[]lineage/api.RowID,lineage/api.RowID] -/
def c124_0 : C :=
  .seq (.seq (.reg [.o 29 (.mv (.t 5)), .o 30 (.mv (.t 4)), .o 31 (.len false (.t 30)), .o 32 (.bin .lss .num (.t 29) (.t 31))] [29, 30, 31]) (.cond (.t 32) .skip (.exit 2))) (.seq (.blk 3 (.seq (.dreg [(0, .o 35 (.mv (.t 4))), (1, .o 36 (.mv (.t 5))), (2, .o 37 (.ia 2 (.t 35) (.t 36))), (3, .o 38 (.ld 2 true (.t 37))), (4, .o 39 (.mv (.t 4))), (5, .o 40 (.mv (.t 5))), (6, .o 41 (.bin .sub .num (.t 40) (.c (.i .i64 1)))), (7, .o 42 (.ia 2 (.t 39) (.t 41))), (8, .o 43 (.ld 2 true (.t 42))), (9, .o 44 (.bin .neq (.agg [.i, .i]) (.t 38) (.t 43)))] [32, 35, 36, 37, 38, 39, 40, 41, 42, 43]) (.cond (.t 44) (.seq (.reg [.o 45 (.mv (.t 0)), .o 46 (.mv (.t 3)), .o 47 (.mv (.t 4)), .o 48 (.mv (.t 5)), .o 49 (.ia 2 (.t 47) (.t 48)), .o 50 (.ld 2 true (.t 49)), .o 51 (.ia 2 (.t 45) (.t 46)), .op none none (.st 2 true (.t 51) (.t 50))] [44, 45, 46, 47, 48, 49, 50, 51]) (.reg [.o 52 (.mv (.t 3)), .o 53 (.bin .add .num (.t 52) (.c (.i .i64 1))), .o 3 (.mv (.t 53))] [52, 53])) .skip))) (.reg [.o 33 (.mv (.t 5)), .o 34 (.bin .add .num (.t 33) (.c (.i .i64 1))), .o 5 (.mv (.t 34))] [33, 34, 44]))
def c124_r0 : C :=
  .seq (.reg [.o 54 (.mv (.t 0)), .o 55 (.mv (.t 3)), .o 56 (.slc 2 (.t 54) (some (.t 55)) none), .op none none (.clr 2 [.i .i64 0, .i .i64 0] (.t 56))] [4, 5, 32, 54, 55, 56]) (.seq (.reg [.o 57 (.mv (.t 0)), .o 58 (.mv (.t 3)), .o 59 (.slc 2 (.t 57) none (some (.t 58))), .o 2 (.mv (.t 59))] [0, 3, 57, 58, 59]) .ret)
def c124_r1 : C :=
  .reg [.o 14 (.mv (.t 3)), .o 15 (.bin .add .num (.t 14) (.c (.i .i64 1))), .o 3 (.mv (.t 15))] [14, 15, 25]
def c124_1 : C :=
  .seq (.seq (.reg [.o 10 (.mv (.t 3)), .o 11 (.mv (.t 0)), .o 12 (.len false (.t 11)), .o 13 (.bin .lss .num (.t 10) (.t 12))] [10, 11, 12]) (.cond (.t 13) .skip (.exit 0))) (.seq (.blk 1 (.seq (.dreg [(0, .o 16 (.mv (.t 0))), (1, .o 17 (.mv (.t 3))), (2, .o 18 (.ia 2 (.t 16) (.t 17))), (3, .o 19 (.ld 2 true (.t 18))), (4, .o 20 (.mv (.t 0))), (5, .o 21 (.mv (.t 3))), (6, .o 22 (.bin .sub .num (.t 21) (.c (.i .i64 1)))), (7, .o 23 (.ia 2 (.t 20) (.t 22))), (8, .o 24 (.ld 2 true (.t 23))), (9, .o 25 (.bin .eql (.agg [.i, .i]) (.t 19) (.t 24)))] [13, 16, 17, 18, 19, 20, 21, 22, 23, 24]) (.cond (.t 25) (.seq (.reg [.o 26 (.mv (.t 0)), .o 27 (.mv (.t 3)), .o 28 (.slc 2 (.t 26) (some (.t 27)) none), .o 4 (.mv (.t 28))] [25, 26, 27, 28]) (.seq (.seq (.reg [.o 5 (.mv (.c (.i .i64 1)))] []) (.blk 2 (.loop [] c124_0))) c124_r0)) .skip))) c124_r1)
def c124_r2 : C :=
  .seq (.reg [.o 60 (.mv (.t 0)), .o 2 (.mv (.t 60))] [0, 3, 13, 60]) .ret
def c124 : C :=
  (.seq (.reg [.o 2 (.mv (.c (.sl 2 true [] .ro)))] [2]) (.seq (.seq (.reg [.o 6 (.mv (.t 0)), .o 7 (.len false (.t 6)), .o 8 (.bin .lss .num (.t 7) (.c (.i .i64 2)))] [6, 7]) (.cond (.t 8) (.seq (.reg [.o 9 (.mv (.t 0)), .o 2 (.mv (.t 9))] [0, 8, 9]) .ret) .skip)) (.seq (.seq (.reg [.o 3 (.mv (.c (.i .i64 1)))] [8]) (.blk 0 (.loop [] c124_1))) c124_r2)))
def d124 : Fn := { real := 124, np := 1, nt := 61, res := [.t 2], body := c124 }



/-- lineage/lineageref05.plus -/
def c127 : C :=
  (.seq (.reg [.o 4 (.mv (.c (.i .i64 0)))] [4]) (.seq (.reg [.o 5 (.mv (.t 0)), .o 6 (.mv (.t 1)), .o 7 (.bin .add .num (.t 5) (.t 6)), .o 8 (.mn (.t 7) (.c (.i .i64 1152921504606846976))), .o 4 (.mv (.t 8))] [0, 1, 5, 6, 7, 8]) .ret))
def d127 : Fn := { real := 127, np := 2, nt := 9, res := [.t 4], body := c127 }

/-- internal/strconv.FormatUint -/
def c128 : C :=
  (.seq (.reg [.o 4 (.mv (.c (.s [])))] [4]) (.seq (.seq (.reg [.o 9 (.mv (.t 1)), .o 10 (.bin .eql .num (.t 9) (.c (.i .i64 10)))] [9]) (.cond (.t 10) (.seq (.seq (.reg [.o 11 (.mv (.t 0)), .o 12 (.bin .lss .num (.t 11) (.c (.i .u64 100)))] [1, 10, 11]) (.cond (.t 12) (.seq (.reg [.o 13 (.mv (.t 0)), .o 14 (.conv .i64 (.t 13)), .o 15 (.call 176 true [.t 14]), .o 4 (.mv (.t 15))] [0, 12, 13, 14, 15]) .ret) .skip)) (.seq (.reg [.o 5 (.alloc [.i .u8 0, .i .u8 0, .i .u8 0, .i .u8 0, .i .u8 0, .i .u8 0, .i .u8 0, .i .u8 0, .i .u8 0, .i .u8 0, .i .u8 0, .i .u8 0, .i .u8 0, .i .u8 0, .i .u8 0, .i .u8 0, .i .u8 0, .i .u8 0, .i .u8 0, .i .u8 0, .i .u8 0, .i .u8 0, .i .u8 0, .i .u8 0])] [12]) (.seq (.reg [.o 16 (.mv (.t 0)), .o 17 (.call 177 true [.t 16]), .o 6 (.mv (.t 17))] [16, 17]) (.bad)))) .skip)) (.seq (.reg [.o 26 (.mv (.t 0)), .o 27 (.mv (.t 1)), .o 28 (.call 179 true [.c (.sl 1 true [] .ro), .t 26, .t 27, .c (.b false), .c (.b false)]), .o 25 (.mv (.t 28)), .o 29 (.ext (.t 25) 0), .o 30 (.ext (.t 25) 1), .o 7 (.mv (.t 29)), .o 8 (.mv (.t 30))] [0, 1, 7, 10, 25, 26, 27, 28, 29, 30]) (.seq (.reg [.o 31 (.mv (.t 8)), .o 4 (.mv (.t 31))] [8, 31]) .ret))))
def d128 : Fn := { real := 128, np := 2, nt := 32, res := [.t 4], body := c128 }

/-- lineage/annotation.nesting -/
def c135_0 : C :=
  .seq (.reg [.o 48 (.bin .lss .num (.t 47) (.t 46))] []) (.seq (.cond (.t 48) .skip (.exit 6)) (.seq (.blk 7 (.seq (.reg [.o 49 (.ia 4 (.t 45) (.t 47)), .o 50 (.ld 4 true (.t 49)), .o 12 (.alloc [.i .i64 0, .i .i64 0, .s [], .sl 2 true [] .ro]), .op none none (.st 4 true (.t 12) (.t 50))] [48, 49, 50]) (.reg [.o 51 (.mv (.t 8)), .o 52 (.fa 3 (.t 12)), .o 53 (.ld 1 false (.t 52)), .o 54 (.call 135 true [.t 53]), .o 55 (.mx (.t 51) (.t 54)), .o 8 (.mv (.t 55))] [12, 51, 52, 53, 54, 55]))) (.reg [.o 56 (.bin .add .num (.t 47) (.c (.i .i64 1))), .o 47 (.mv (.t 56))] [56])))
def c135_1 : C :=
  .seq (.reg [.o 35 (.bin .lss .num (.t 34) (.t 33))] []) (.seq (.cond (.t 35) .skip (.exit 4)) (.seq (.blk 5 (.seq (.reg [.o 36 (.ia 1 (.t 32) (.t 34)), .o 37 (.ld 1 false (.t 36)), .o 10 (.mv (.t 37))] [35, 36, 37]) (.reg [.o 38 (.mv (.t 8)), .o 39 (.mv (.t 10)), .o 40 (.call 135 true [.t 39]), .o 41 (.mx (.t 38) (.t 40)), .o 8 (.mv (.t 41))] [10, 38, 39, 40, 41]))) (.reg [.o 42 (.bin .add .num (.t 34) (.c (.i .i64 1))), .o 34 (.mv (.t 42))] [42])))
def c135_r0 : C :=
  .reg [.o 57 (.mv (.t 3)), .o 58 (.mv (.t 8)), .o 59 (.bin .add .num (.c (.i .i64 1)) (.t 58)), .o 60 (.mx (.t 57) (.t 59)), .o 3 (.mv (.t 60))] [8, 45, 46, 47, 48, 57, 58, 59, 60]
def c135_r1 : C :=
  .seq (.seq (.reg [.o 43 (.fa 0 (.t 7)), .o 44 (.fa 5 (.t 43)), .o 45 (.ld 1 false (.t 44)), .o 46 (.len false (.t 45)), .o 47 (.mv (.c (.i .i64 0)))] [7, 32, 33, 34, 35, 43, 44]) (.blk 6 (.loop [] c135_0))) c135_r0
def c135_r2 : C :=
  .reg [.o 61 (.bin .add .num (.t 22) (.c (.i .i64 1))), .o 22 (.mv (.t 61))] [7, 29, 61]
def c135_2 : C :=
  .seq (.reg [.o 23 (.bin .lss .num (.t 22) (.t 21))] []) (.seq (.cond (.t 23) .skip (.exit 2)) (.seq (.blk 3 (.seq (.reg [.o 24 (.ia 11 (.t 20) (.t 22)), .o 25 (.ld 11 true (.t 24)), .o 7 (.alloc [.i .i64 0, .i .i64 0, .i .i64 0, .sl 1 true [] .ro, .i .i64 0, .sl 4 true [] .ro, .i .i64 0, .i .i64 0, .i .i64 0, .s [], .i .i64 0]), .op none none (.st 11 true (.t 7) (.t 25))] [23, 24, 25]) (.seq (.seq (.reg [.o 26 (.fa 0 (.t 7)), .o 27 (.fa 0 (.t 26)), .o 28 (.ld 1 false (.t 27)), .o 29 (.bin .eql .num (.t 28) (.c (.i .i64 0)))] [26, 27, 28]) (.cond (.t 29) (.exit 3) .skip)) (.seq (.reg [.o 8 (.mv (.c (.i .i64 0)))] [29]) (.seq (.seq (.reg [.o 30 (.fa 0 (.t 7)), .o 31 (.fa 3 (.t 30)), .o 32 (.ld 1 false (.t 31)), .o 33 (.len false (.t 32)), .o 34 (.mv (.c (.i .i64 0)))] [30, 31]) (.blk 4 (.loop [] c135_1))) c135_r1))))) c135_r2))
def c135_r3 : C :=
  .reg [.o 62 (.bin .add .num (.t 15) (.c (.i .i64 1))), .o 15 (.mv (.t 62))] [20, 21, 22, 23, 62]
def c135_3 : C :=
  .seq (.reg [.o 16 (.bin .lss .num (.t 15) (.t 14))] []) (.seq (.cond (.t 16) .skip (.exit 0)) (.seq (.blk 1 (.seq (.reg [.o 17 (.ia 2 (.t 13) (.t 15)), .o 18 (.ld 2 true (.t 17)), .o 5 (.alloc [.i .i64 0, .sl 11 true [] .ro]), .op none none (.st 2 true (.t 5) (.t 18))] [16, 17, 18]) (.seq (.reg [.o 19 (.fa 1 (.t 5)), .o 20 (.ld 1 false (.t 19)), .o 21 (.len false (.t 20)), .o 22 (.mv (.c (.i .i64 0)))] [5, 19]) (.blk 2 (.loop [] c135_2))))) c135_r3))
def c135_r4 : C :=
  .seq (.reg [.o 63 (.mv (.t 3)), .o 2 (.mv (.t 63))] [3, 13, 14, 15, 16, 63]) .ret
def c135 : C :=
  (.seq (.reg [.o 2 (.mv (.c (.i .i64 0)))] [2]) (.seq (.reg [.o 3 (.mv (.c (.i .i64 0)))] []) (.seq (.seq (.reg [.o 13 (.mv (.t 0)), .o 14 (.len false (.t 13)), .o 15 (.mv (.c (.i .i64 0)))] [0]) (.blk 0 (.loop [] c135_3))) c135_r4)))
def d135 : Fn := { real := 135, np := 1, nt := 64, res := [.t 2], body := c135 }

/-- lineage/annotation.Size -/
def c136_0 : C :=
  .seq (.reg [.o 49 (.bin .lss .num (.t 48) (.t 47))] []) (.seq (.cond (.t 49) .skip (.exit 6)) (.seq (.blk 7 (.seq (.reg [.o 50 (.ia 4 (.t 46) (.t 48)), .o 51 (.ld 4 true (.t 50)), .o 11 (.alloc [.i .i64 0, .i .i64 0, .s [], .sl 2 true [] .ro]), .op none none (.st 4 true (.t 11) (.t 51))] [49, 50, 51]) (.reg [.o 52 (.mv (.t 3)), .o 53 (.fa 3 (.t 11)), .o 54 (.ld 1 false (.t 53)), .o 55 (.call 136 true [.t 54]), .o 56 (.bin .add .num (.c (.i .i64 1)) (.t 55)), .o 57 (.bin .add .num (.t 52) (.t 56)), .o 3 (.mv (.t 57))] [11, 52, 53, 54, 55, 56, 57]))) (.reg [.o 58 (.bin .add .num (.t 48) (.c (.i .i64 1))), .o 48 (.mv (.t 58))] [58])))
def c136_1 : C :=
  .seq (.reg [.o 36 (.bin .lss .num (.t 35) (.t 34))] []) (.seq (.cond (.t 36) .skip (.exit 4)) (.seq (.blk 5 (.seq (.reg [.o 37 (.ia 1 (.t 33) (.t 35)), .o 38 (.ld 1 false (.t 37)), .o 9 (.mv (.t 38))] [36, 37, 38]) (.reg [.o 39 (.mv (.t 3)), .o 40 (.mv (.t 9)), .o 41 (.call 136 true [.t 40]), .o 42 (.bin .add .num (.t 39) (.t 41)), .o 3 (.mv (.t 42))] [9, 39, 40, 41, 42]))) (.reg [.o 43 (.bin .add .num (.t 35) (.c (.i .i64 1))), .o 35 (.mv (.t 43))] [43])))
def c136_r0 : C :=
  .seq (.reg [.o 44 (.fa 0 (.t 7)), .o 45 (.fa 5 (.t 44)), .o 46 (.ld 1 false (.t 45)), .o 47 (.len false (.t 46)), .o 48 (.mv (.c (.i .i64 0)))] [7, 33, 34, 35, 36, 44, 45]) (.blk 6 (.loop [] c136_0))
def c136_r1 : C :=
  .reg [.o 59 (.bin .add .num (.t 27) (.c (.i .i64 1))), .o 27 (.mv (.t 59))] [46, 47, 48, 49, 59]
def c136_2 : C :=
  .seq (.reg [.o 28 (.bin .lss .num (.t 27) (.t 26))] []) (.seq (.cond (.t 28) .skip (.exit 2)) (.seq (.blk 3 (.seq (.reg [.o 29 (.ia 11 (.t 25) (.t 27)), .o 30 (.ld 11 true (.t 29)), .o 7 (.alloc [.i .i64 0, .i .i64 0, .i .i64 0, .sl 1 true [] .ro, .i .i64 0, .sl 4 true [] .ro, .i .i64 0, .i .i64 0, .i .i64 0, .s [], .i .i64 0]), .op none none (.st 11 true (.t 7) (.t 30))] [28, 29, 30]) (.seq (.seq (.reg [.o 31 (.fa 0 (.t 7)), .o 32 (.fa 3 (.t 31)), .o 33 (.ld 1 false (.t 32)), .o 34 (.len false (.t 33)), .o 35 (.mv (.c (.i .i64 0)))] [31, 32]) (.blk 4 (.loop [] c136_1))) c136_r0))) c136_r1))
def c136_r2 : C :=
  .reg [.o 60 (.bin .add .num (.t 14) (.c (.i .i64 1))), .o 14 (.mv (.t 60))] [25, 26, 27, 28, 60]
def c136_3 : C :=
  .seq (.reg [.o 15 (.bin .lss .num (.t 14) (.t 13))] []) (.seq (.cond (.t 15) .skip (.exit 0)) (.seq (.blk 1 (.seq (.reg [.o 16 (.ia 2 (.t 12) (.t 14)), .o 17 (.ld 2 true (.t 16)), .o 5 (.alloc [.i .i64 0, .sl 11 true [] .ro]), .op none none (.st 2 true (.t 5) (.t 17))] [15, 16, 17]) (.seq (.reg [.o 18 (.mv (.t 3)), .o 19 (.fa 1 (.t 5)), .o 20 (.ld 1 false (.t 19)), .o 21 (.len false (.t 20)), .o 22 (.bin .add .num (.c (.i .i64 1)) (.t 21)), .o 23 (.bin .add .num (.t 18) (.t 22)), .o 3 (.mv (.t 23))] [18, 19, 20, 21, 22, 23]) (.seq (.reg [.o 24 (.fa 1 (.t 5)), .o 25 (.ld 1 false (.t 24)), .o 26 (.len false (.t 25)), .o 27 (.mv (.c (.i .i64 0)))] [5, 24]) (.blk 2 (.loop [] c136_2)))))) c136_r2))
def c136_r3 : C :=
  .seq (.reg [.o 61 (.mv (.t 3)), .o 2 (.mv (.t 61))] [3, 12, 13, 14, 15, 61]) .ret
def c136 : C :=
  (.seq (.reg [.o 2 (.mv (.c (.i .i64 0)))] [2]) (.seq (.reg [.o 3 (.mv (.c (.i .i64 0)))] []) (.seq (.seq (.reg [.o 12 (.mv (.t 0)), .o 13 (.len false (.t 12)), .o 14 (.mv (.c (.i .i64 0)))] [0]) (.blk 0 (.loop [] c136_3))) c136_r3)))
def d136 : Fn := { real := 136, np := 1, nt := 62, res := [.t 2], body := c136 }

/-- slices.ContainsFunc[lineage/api.Annotation,lineage/api.Term] -/
def c137 : C :=
  (.seq (.reg [.o 4 (.mv (.c (.b false)))] [4]) (.seq (.reg [.o 5 (.mv (.t 0)), .o 6 (.mv (.t 1)), .o 7 (.call 185 true [.t 5, .t 6]), .o 8 (.bin .geq .num (.t 7) (.c (.i .i64 0))), .o 4 (.mv (.t 8))] [0, 1, 5, 6, 7, 8]) .ret))
def d137 : Fn := { real := 137, np := 2, nt := 9, res := [.t 4], body := c137 }

/-- lineage/annotation.within$1 -/
def c138 : C :=
  (.seq (.reg [.o 1 (.box 2 true (.t 0)), .o 2 (.mv (.c (.b false)))] [0, 2]) (.seq (.reg [.o 3 (.fa 1 (.t 1)), .o 4 (.ld 1 false (.t 3)), .o 5 (.len false (.t 4)), .o 6 (.bin .gtr .num (.t 5) (.c (.i .i64 64))), .o 7 (.mv (.t 6)), .op (some 8) (some (7, false)) (.fa 1 (.t 1)), .op (some 9) (some (7, false)) (.ld 1 false (.t 8)), .op (some 10) (some (7, false)) (.call 139 true [.t 9, .c (.fn 140 [])]), .o 11 (.pick (.t 7) (.c (.b true)) (.t 10)), .o 2 (.mv (.t 11))] [1, 3, 4, 5, 6, 7, 8, 9, 10, 11]) .ret))
def d138 : Fn := { real := 138, np := 1, nt := 12, res := [.t 2], body := c138 }

/-- slices.ContainsFunc[[]lineage/api.Factor,lineage/api.Factor] -/
def c139 : C :=
  (.seq (.reg [.o 4 (.mv (.c (.b false)))] [4]) (.seq (.reg [.o 5 (.mv (.t 0)), .o 6 (.mv (.t 1)), .o 7 (.call 186 true [.t 5, .t 6]), .o 8 (.bin .geq .num (.t 7) (.c (.i .i64 0))), .o 4 (.mv (.t 8))] [0, 1, 5, 6, 7, 8]) .ret))
def d139 : Fn := { real := 139, np := 2, nt := 9, res := [.t 4], body := c139 }

/-- lineage/annotation.within$1$1 -/
def c140 : C :=
  (.seq (.reg [.o 1 (.box 11 true (.t 0)), .o 2 (.mv (.c (.b false)))] [0, 2]) (.seq (.reg [.o 3 (.fa 10 (.t 1)), .o 4 (.ld 1 false (.t 3)), .o 5 (.bin .gtr .num (.t 4) (.c (.i .i64 64))), .o 6 (.mv (.t 5)), .op (some 7) (some (6, false)) (.fa 0 (.t 1)), .op (some 8) (some (6, false)) (.fa 5 (.t 7)), .op (some 9) (some (6, false)) (.ld 1 false (.t 8)), .op (some 10) (some (6, false)) (.len false (.t 9)), .op (some 11) (some (6, false)) (.bin .gtr .num (.t 10) (.c (.i .i64 1024))), .o 12 (.pick (.t 6) (.c (.b true)) (.t 11)), .o 2 (.mv (.t 12))] [1, 3, 4, 5, 6, 7, 8, 9, 10, 11, 12]) .ret))
def d140 : Fn := { real := 140, np := 1, nt := 13, res := [.t 2], body := c140 }

/-- slices.CompareFunc[[]lineage/api.Factor,[]lineage/api.Factor,lineage/api.Factor,lineage/api.Factor] -/
def c141_0 : C :=
  .seq (.reg [.o 14 (.bin .lss .num (.t 13) (.t 12))] []) (.seq (.cond (.t 14) .skip (.exit 0)) (.seq (.blk 1 (.seq (.reg [.o 15 (.mv (.t 13)), .o 16 (.ia 11 (.t 11) (.t 13)), .o 17 (.ld 11 true (.t 16)), .o 8 (.alloc [.i .i64 0, .i .i64 0, .i .i64 0, .sl 1 true [] .ro, .i .i64 0, .sl 4 true [] .ro, .i .i64 0, .i .i64 0, .i .i64 0, .s [], .i .i64 0]), .o 7 (.mv (.t 15)), .op none none (.st 11 true (.t 8) (.t 17))] [14, 15, 16, 17]) (.seq (.seq (.reg [.o 18 (.mv (.t 7)), .o 19 (.mv (.t 1)), .o 20 (.len false (.t 19)), .o 21 (.bin .geq .num (.t 18) (.t 20))] [18, 19, 20]) (.cond (.t 21) (.seq (.reg [.o 6 (.mv (.c (.i .i64 1)))] [0, 1, 2, 7, 8, 11, 12, 13, 21]) .ret) .skip)) (.seq (.reg [.o 22 (.mv (.t 1)), .o 23 (.mv (.t 7)), .o 24 (.ia 11 (.t 22) (.t 23)), .o 25 (.ld 11 true (.t 24)), .o 9 (.alloc [.i .i64 0, .i .i64 0, .i .i64 0, .sl 1 true [] .ro, .i .i64 0, .sl 4 true [] .ro, .i .i64 0, .i .i64 0, .i .i64 0, .s [], .i .i64 0]), .op none none (.st 11 true (.t 9) (.t 25))] [7, 21, 22, 23, 24, 25]) (.seq (.reg [.o 26 (.mv (.t 2)), .o 27 (.ld 11 true (.t 8)), .o 28 (.ld 11 true (.t 9)), .o 29 (.calld (.t 26) true [.t 27, .t 28]), .o 10 (.mv (.t 29))] [8, 9, 26, 27, 28, 29]) (.seq (.reg [.o 30 (.mv (.t 10)), .o 31 (.bin .neq .num (.t 30) (.c (.i .i64 0)))] [30]) (.cond (.t 31) (.seq (.reg [.o 32 (.mv (.t 10)), .o 6 (.mv (.t 32))] [0, 1, 2, 10, 11, 12, 13, 31, 32]) .ret) .skip))))))) (.reg [.o 33 (.bin .add .num (.t 13) (.c (.i .i64 1))), .o 13 (.mv (.t 33))] [10, 31, 33])))
def c141_r0 : C :=
  .seq (.seq (.reg [.o 34 (.mv (.t 0)), .o 35 (.len false (.t 34)), .o 36 (.mv (.t 1)), .o 37 (.len false (.t 36)), .o 38 (.bin .lss .num (.t 35) (.t 37))] [0, 1, 2, 11, 12, 13, 14, 34, 35, 36, 37]) (.cond (.t 38) (.seq (.reg [.o 6 (.mv (.c (.i .i64 (-1))))] [38]) .ret) .skip)) (.seq (.reg [.o 6 (.mv (.c (.i .i64 0)))] [38]) .ret)
def c141 : C :=
  (.seq (.reg [.o 6 (.mv (.c (.i .i64 0)))] [6]) (.seq (.seq (.reg [.o 11 (.mv (.t 0)), .o 12 (.len false (.t 11)), .o 13 (.mv (.c (.i .i64 0)))] []) (.blk 0 (.loop [] c141_0))) c141_r0))
def d141 : Fn := { real := 141, np := 3, nt := 39, res := [.t 6], body := c141 }

/-- lineage/annotation.compareFactors -/
def c142 : C :=
  (.seq (.reg [.o 2 (.box 11 true (.t 0)), .o 3 (.box 11 true (.t 1)), .o 4 (.mv (.c (.i .i64 0)))] [0, 1, 4]) (.seq (.dreg [(0, .o 5 (.fa 0 (.t 2))), (1, .o 6 (.ld 10 true (.t 5))), (2, .o 7 (.fa 0 (.t 3))), (3, .o 8 (.ld 10 true (.t 7))), (4, .o 9 (.call 99 true [.t 6, .t 8])), (5, .o 10 (.fa 10 (.t 2))), (6, .o 11 (.ld 1 false (.t 10))), (7, .o 12 (.fa 10 (.t 3))), (8, .o 13 (.ld 1 false (.t 12))), (9, .o 14 (.call 144 true [.t 11, .t 13])), (10, .o 15 (.bsl 1 false false [.t 9, .t 14])), (11, .o 16 (.call 143 true [.t 15])), (12, .o 4 (.mv (.t 16)))] [2, 3, 5, 6, 7, 8, 9, 10, 11, 12, 13, 14, 15, 16]) .ret))
def d142 : Fn := { real := 142, np := 2, nt := 17, res := [.t 4], body := c142 }

/-- cmp.Or[int] -/
def c143_0 : C :=
  .seq (.reg [.o 9 (.bin .lss .num (.t 8) (.t 7))] []) (.seq (.cond (.t 9) .skip (.exit 0)) (.seq (.blk 1 (.seq (.reg [.o 10 (.ia 1 (.t 6) (.t 8)), .o 11 (.ld 1 false (.t 10)), .o 5 (.mv (.t 11))] [9, 10, 11]) (.seq (.reg [.o 12 (.mv (.t 5)), .o 13 (.mv (.t 3)), .o 14 (.bin .neq .num (.t 12) (.t 13))] [12, 13]) (.cond (.t 14) (.seq (.reg [.o 15 (.mv (.t 5)), .o 2 (.mv (.t 15))] [3, 5, 6, 7, 8, 14, 15]) .ret) .skip)))) (.reg [.o 16 (.bin .add .num (.t 8) (.c (.i .i64 1))), .o 8 (.mv (.t 16))] [5, 14, 16])))
def c143_r0 : C :=
  .seq (.reg [.o 17 (.mv (.t 3)), .o 2 (.mv (.t 17))] [3, 6, 7, 8, 9, 17]) .ret
def c143 : C :=
  (.seq (.reg [.o 2 (.mv (.c (.i .i64 0)))] [2]) (.seq (.reg [.o 3 (.mv (.c (.i .i64 0)))] []) (.seq (.seq (.reg [.o 6 (.mv (.t 0)), .o 7 (.len false (.t 6)), .o 8 (.mv (.c (.i .i64 0)))] [0]) (.blk 0 (.loop [] c143_0))) c143_r0)))
def d143 : Fn := { real := 143, np := 1, nt := 18, res := [.t 2], body := c143 }

/-- cmp.Compare[int] -/
def c144 : C :=
  (.seq (.reg [.o 4 (.mv (.c (.i .i64 0)))] [4]) (.seq (.reg [.o 7 (.mv (.t 0)), .o 8 (.call 187 true [.t 7]), .o 5 (.mv (.t 8))] [7, 8]) (.seq (.reg [.o 9 (.mv (.t 1)), .o 10 (.call 187 true [.t 9]), .o 6 (.mv (.t 10))] [9, 10]) (.seq (.seq (.reg [.o 11 (.mv (.t 5))] [5]) (.cond (.t 11) (.seq (.seq (.reg [.o 12 (.mv (.t 6))] [0, 1, 6, 11]) (.cond (.t 12) (.seq (.reg [.o 4 (.mv (.c (.i .i64 0)))] [12]) .ret) .skip)) (.seq (.reg [.o 4 (.mv (.c (.i .i64 (-1))))] [12]) .ret)) .skip)) (.seq (.seq (.reg [.o 13 (.mv (.t 6))] [6, 11]) (.cond (.t 13) (.seq (.reg [.o 4 (.mv (.c (.i .i64 1)))] [0, 1, 13]) .ret) .skip)) (.seq (.seq (.reg [.o 14 (.mv (.t 0)), .o 15 (.mv (.t 1)), .o 16 (.bin .lss .num (.t 14) (.t 15))] [13, 14, 15]) (.cond (.t 16) (.seq (.reg [.o 4 (.mv (.c (.i .i64 (-1))))] [0, 1, 16]) .ret) .skip)) (.seq (.seq (.reg [.o 17 (.mv (.t 0)), .o 18 (.mv (.t 1)), .o 19 (.bin .gtr .num (.t 17) (.t 18))] [0, 1, 16, 17, 18]) (.cond (.t 19) (.seq (.reg [.o 4 (.mv (.c (.i .i64 1)))] [19]) .ret) .skip)) (.seq (.reg [.o 4 (.mv (.c (.i .i64 0)))] [19]) .ret))))))))
def d144 : Fn := { real := 144, np := 2, nt := 20, res := [.t 4], body := c144 }

/-- slices.CompareFunc[[]lineage/api.Annotation,[]lineage/api.Annotation,lineage/api.Annotation,lineage/api.Annotation] -/
def c145_0 : C :=
  .seq (.reg [.o 14 (.bin .lss .num (.t 13) (.t 12))] []) (.seq (.cond (.t 14) .skip (.exit 0)) (.seq (.blk 1 (.seq (.reg [.o 15 (.mv (.t 13)), .o 16 (.ia 1 (.t 11) (.t 13)), .o 17 (.ld 1 false (.t 16)), .o 7 (.mv (.t 15)), .o 8 (.mv (.t 17))] [14, 15, 16, 17]) (.seq (.seq (.reg [.o 18 (.mv (.t 7)), .o 19 (.mv (.t 1)), .o 20 (.len false (.t 19)), .o 21 (.bin .geq .num (.t 18) (.t 20))] [18, 19, 20]) (.cond (.t 21) (.seq (.reg [.o 6 (.mv (.c (.i .i64 1)))] [0, 1, 2, 7, 8, 11, 12, 13, 21]) .ret) .skip)) (.seq (.reg [.o 22 (.mv (.t 1)), .o 23 (.mv (.t 7)), .o 24 (.ia 1 (.t 22) (.t 23)), .o 25 (.ld 1 false (.t 24)), .o 9 (.mv (.t 25))] [7, 21, 22, 23, 24, 25]) (.seq (.reg [.o 26 (.mv (.t 2)), .o 27 (.mv (.t 8)), .o 28 (.mv (.t 9)), .o 29 (.calld (.t 26) true [.t 27, .t 28]), .o 10 (.mv (.t 29))] [8, 9, 26, 27, 28, 29]) (.seq (.reg [.o 30 (.mv (.t 10)), .o 31 (.bin .neq .num (.t 30) (.c (.i .i64 0)))] [30]) (.cond (.t 31) (.seq (.reg [.o 32 (.mv (.t 10)), .o 6 (.mv (.t 32))] [0, 1, 2, 10, 11, 12, 13, 31, 32]) .ret) .skip))))))) (.reg [.o 33 (.bin .add .num (.t 13) (.c (.i .i64 1))), .o 13 (.mv (.t 33))] [10, 31, 33])))
def c145_r0 : C :=
  .seq (.seq (.reg [.o 34 (.mv (.t 0)), .o 35 (.len false (.t 34)), .o 36 (.mv (.t 1)), .o 37 (.len false (.t 36)), .o 38 (.bin .lss .num (.t 35) (.t 37))] [0, 1, 2, 11, 12, 13, 14, 34, 35, 36, 37]) (.cond (.t 38) (.seq (.reg [.o 6 (.mv (.c (.i .i64 (-1))))] [38]) .ret) .skip)) (.seq (.reg [.o 6 (.mv (.c (.i .i64 0)))] [38]) .ret)
def c145 : C :=
  (.seq (.reg [.o 6 (.mv (.c (.i .i64 0)))] [6]) (.seq (.seq (.reg [.o 11 (.mv (.t 0)), .o 12 (.len false (.t 11)), .o 13 (.mv (.c (.i .i64 0)))] []) (.blk 0 (.loop [] c145_0))) c145_r0))
def d145 : Fn := { real := 145, np := 3, nt := 39, res := [.t 6], body := c145 }

/-- lineage/annotation.Compare -/
def c146 : C :=
  (.seq (.reg [.o 4 (.mv (.c (.i .i64 0)))] [4]) (.seq (.reg [.o 5 (.mv (.t 0)), .o 6 (.mv (.t 1)), .o 7 (.call 188 true [.t 5, .t 6, .c (.fn 189 [])]), .o 4 (.mv (.t 7))] [0, 1, 5, 6, 7]) .ret))
def d146 : Fn := { real := 146, np := 2, nt := 8, res := [.t 4], body := c146 }

/-- slices.CompareFunc[[]lineage/api.Weighted,[]lineage/api.Weighted,lineage/api.Weighted,lineage/api.Weighted] -/
def c147_0 : C :=
  .seq (.reg [.o 14 (.bin .lss .num (.t 13) (.t 12))] []) (.seq (.cond (.t 14) .skip (.exit 0)) (.seq (.blk 1 (.seq (.reg [.o 15 (.mv (.t 13)), .o 16 (.ia 4 (.t 11) (.t 13)), .o 17 (.ld 4 true (.t 16)), .o 8 (.alloc [.i .i64 0, .i .i64 0, .s [], .sl 2 true [] .ro]), .o 7 (.mv (.t 15)), .op none none (.st 4 true (.t 8) (.t 17))] [14, 15, 16, 17]) (.seq (.seq (.reg [.o 18 (.mv (.t 7)), .o 19 (.mv (.t 1)), .o 20 (.len false (.t 19)), .o 21 (.bin .geq .num (.t 18) (.t 20))] [18, 19, 20]) (.cond (.t 21) (.seq (.reg [.o 6 (.mv (.c (.i .i64 1)))] [0, 1, 2, 7, 8, 11, 12, 13, 21]) .ret) .skip)) (.seq (.reg [.o 22 (.mv (.t 1)), .o 23 (.mv (.t 7)), .o 24 (.ia 4 (.t 22) (.t 23)), .o 25 (.ld 4 true (.t 24)), .o 9 (.alloc [.i .i64 0, .i .i64 0, .s [], .sl 2 true [] .ro]), .op none none (.st 4 true (.t 9) (.t 25))] [7, 21, 22, 23, 24, 25]) (.seq (.reg [.o 26 (.mv (.t 2)), .o 27 (.ld 4 true (.t 8)), .o 28 (.ld 4 true (.t 9)), .o 29 (.calld (.t 26) true [.t 27, .t 28]), .o 10 (.mv (.t 29))] [8, 9, 26, 27, 28, 29]) (.seq (.reg [.o 30 (.mv (.t 10)), .o 31 (.bin .neq .num (.t 30) (.c (.i .i64 0)))] [30]) (.cond (.t 31) (.seq (.reg [.o 32 (.mv (.t 10)), .o 6 (.mv (.t 32))] [0, 1, 2, 10, 11, 12, 13, 31, 32]) .ret) .skip))))))) (.reg [.o 33 (.bin .add .num (.t 13) (.c (.i .i64 1))), .o 13 (.mv (.t 33))] [10, 31, 33])))
def c147_r0 : C :=
  .seq (.seq (.reg [.o 34 (.mv (.t 0)), .o 35 (.len false (.t 34)), .o 36 (.mv (.t 1)), .o 37 (.len false (.t 36)), .o 38 (.bin .lss .num (.t 35) (.t 37))] [0, 1, 2, 11, 12, 13, 14, 34, 35, 36, 37]) (.cond (.t 38) (.seq (.reg [.o 6 (.mv (.c (.i .i64 (-1))))] [38]) .ret) .skip)) (.seq (.reg [.o 6 (.mv (.c (.i .i64 0)))] [38]) .ret)
def c147 : C :=
  (.seq (.reg [.o 6 (.mv (.c (.i .i64 0)))] [6]) (.seq (.seq (.reg [.o 11 (.mv (.t 0)), .o 12 (.len false (.t 11)), .o 13 (.mv (.c (.i .i64 0)))] []) (.blk 0 (.loop [] c147_0))) c147_r0))
def d147 : Fn := { real := 147, np := 3, nt := 39, res := [.t 6], body := c147 }

/-- lineage/annotation.compareItems -/
def c148 : C :=
  (.seq (.reg [.o 2 (.box 4 true (.t 0)), .o 3 (.box 4 true (.t 1)), .o 4 (.mv (.c (.i .i64 0)))] [0, 1, 4]) (.seq (.dreg [(0, .o 5 (.fa 0 (.t 2))), (1, .o 6 (.ld 3 true (.t 5))), (2, .o 7 (.fa 0 (.t 3))), (3, .o 8 (.ld 3 true (.t 7))), (4, .o 9 (.call 149 true [.t 6, .t 8])), (5, .o 10 (.fa 3 (.t 2))), (6, .o 11 (.ld 1 false (.t 10))), (7, .o 12 (.fa 3 (.t 3))), (8, .o 13 (.ld 1 false (.t 12))), (9, .o 14 (.call 146 true [.t 11, .t 13])), (10, .o 15 (.bsl 1 false false [.t 9, .t 14])), (11, .o 16 (.call 143 true [.t 15])), (12, .o 4 (.mv (.t 16)))] [2, 3, 5, 6, 7, 8, 9, 10, 11, 12, 13, 14, 15, 16]) .ret))
def d148 : Fn := { real := 148, np := 2, nt := 17, res := [.t 4], body := c148 }

/-- lineage/value.Compare -/
def c149 : C :=
  (.seq (.reg [.o 2 (.box 3 true (.t 0)), .o 3 (.box 3 true (.t 1)), .o 4 (.mv (.c (.i .i64 0)))] [0, 1, 4]) (.seq (.dreg [(0, .o 5 (.fa 0 (.t 2))), (1, .o 6 (.ld 1 false (.t 5))), (2, .o 7 (.fa 0 (.t 3))), (3, .o 8 (.ld 1 false (.t 7))), (4, .o 9 (.call 144 true [.t 6, .t 8])), (5, .o 10 (.fa 1 (.t 2))), (6, .o 11 (.ld 1 false (.t 10))), (7, .o 12 (.fa 1 (.t 3))), (8, .o 13 (.ld 1 false (.t 12))), (9, .o 14 (.call 190 true [.t 11, .t 13])), (10, .o 15 (.fa 2 (.t 2))), (11, .o 16 (.ld 1 false (.t 15))), (12, .o 17 (.fa 2 (.t 3))), (13, .o 18 (.ld 1 false (.t 17))), (14, .o 19 (.call 191 true [.t 16, .t 18])), (15, .o 20 (.bsl 1 false false [.t 9, .t 14, .t 19])), (16, .o 21 (.call 143 true [.t 20])), (17, .o 4 (.mv (.t 21)))] [2, 3, 5, 6, 7, 8, 9, 10, 11, 12, 13, 14, 15, 16, 17, 18, 19, 20, 21]) .ret))
def d149 : Fn := { real := 149, np := 2, nt := 22, res := [.t 4], body := c149 }

/-- lineage/annotation.validAtom$1 -/
def c150 : C :=
  (.seq (.reg [.o 2 (.mv (.c (.b false)))] [2]) (.seq (.reg [.o 3 (.mv (.t 0)), .o 4 (.call 60 true [.t 3]), .o 5 (.un .not (.t 4)), .o 6 (.mv (.t 5)), .op (some 7) (some (6, false)) (.mv (.t 0)), .op (some 8) (some (6, false)) (.len false (.t 7)), .op (some 9) (some (6, false)) (.bin .eql .num (.t 8) (.c (.i .i64 0))), .o 10 (.pick (.t 6) (.c (.b true)) (.t 9)), .o 2 (.mv (.t 10))] [0, 3, 4, 5, 6, 7, 8, 9, 10]) .ret))
def d150 : Fn := { real := 150, np := 1, nt := 11, res := [.t 2], body := c150 }

/-- lineage/annotation.Equal -/
def c151 : C :=
  (.seq (.reg [.o 4 (.mv (.c (.b false)))] [4]) (.seq (.reg [.o 5 (.mv (.t 0)), .o 6 (.mv (.t 1)), .o 7 (.call 146 true [.t 5, .t 6]), .o 8 (.bin .eql .num (.t 7) (.c (.i .i64 0))), .o 4 (.mv (.t 8))] [0, 1, 5, 6, 7, 8]) .ret))
def d151 : Fn := { real := 151, np := 2, nt := 9, res := [.t 4], body := c151 }

/-- lineage/annotation.isConstant -/
def c152 : C :=
  (.seq (.reg [.o 2 (.mv (.c (.b false)))] [2]) (.seq (.reg [.o 3 (.mv (.t 0)), .o 4 (.len false (.t 3)), .o 5 (.bin .eql .num (.t 4) (.c (.i .i64 1))), .o 6 (.mv (.t 5)), .op (some 7) (some (6, true)) (.mv (.t 0)), .op (some 8) (some (6, true)) (.ia 2 (.t 7) (.c (.i .i64 0))), .op (some 9) (some (6, true)) (.fa 1 (.t 8)), .op (some 10) (some (6, true)) (.ld 1 false (.t 9)), .op (some 11) (some (6, true)) (.len false (.t 10)), .op (some 12) (some (6, true)) (.bin .eql .num (.t 11) (.c (.i .i64 0))), .o 13 (.pick (.t 6) (.t 12) (.c (.b false))), .o 2 (.mv (.t 13))] [0, 3, 4, 5, 6, 7, 8, 9, 10, 11, 12, 13]) .ret))
def d152 : Fn := { real := 152, np := 1, nt := 14, res := [.t 2], body := c152 }

/-- lineage/annotation.isUnit -/
def c153 : C :=
  (.seq (.reg [.o 2 (.mv (.c (.b false)))] [2]) (.seq (.seq (.reg [.o 4 (.mv (.t 0)), .o 5 (.len false (.t 4)), .o 6 (.bin .neq .num (.t 5) (.c (.i .i64 1))), .o 7 (.mv (.t 6)), .op (some 8) (some (7, false)) (.mv (.t 0)), .op (some 9) (some (7, false)) (.ia 2 (.t 8) (.c (.i .i64 0))), .op (some 10) (some (7, false)) (.fa 0 (.t 9)), .op (some 11) (some (7, false)) (.ld 1 false (.t 10)), .op (some 12) (some (7, false)) (.bin .neq .num (.t 11) (.c (.i .i64 1))), .o 13 (.pick (.t 7) (.c (.b true)) (.t 12)), .o 14 (.mv (.t 13)), .op (some 15) (some (14, false)) (.mv (.t 0)), .op (some 16) (some (14, false)) (.ia 2 (.t 15) (.c (.i .i64 0))), .op (some 17) (some (14, false)) (.fa 1 (.t 16)), .op (some 18) (some (14, false)) (.ld 1 false (.t 17)), .op (some 19) (some (14, false)) (.len false (.t 18)), .op (some 20) (some (14, false)) (.bin .neq .num (.t 19) (.c (.i .i64 1))), .o 21 (.pick (.t 14) (.c (.b true)) (.t 20))] [4, 5, 6, 7, 8, 9, 10, 11, 12, 13, 14, 15, 16, 17, 18, 19, 20]) (.cond (.t 21) (.seq (.reg [.o 2 (.mv (.c (.b false)))] [0, 21]) .ret) .skip)) (.seq (.reg [.o 22 (.mv (.t 0)), .o 23 (.ia 2 (.t 22) (.c (.i .i64 0))), .o 24 (.fa 1 (.t 23)), .o 25 (.ld 1 false (.t 24)), .o 26 (.ia 11 (.t 25) (.c (.i .i64 0))), .o 27 (.ld 11 true (.t 26)), .o 3 (.alloc [.i .i64 0, .i .i64 0, .i .i64 0, .sl 1 true [] .ro, .i .i64 0, .sl 4 true [] .ro, .i .i64 0, .i .i64 0, .i .i64 0, .s [], .i .i64 0]), .op none none (.st 11 true (.t 3) (.t 27))] [0, 21, 22, 23, 24, 25, 26, 27]) (.seq (.reg [.o 28 (.fa 10 (.t 3)), .o 29 (.ld 1 false (.t 28)), .o 30 (.bin .eql .num (.t 29) (.c (.i .i64 1))), .o 31 (.mv (.t 30)), .op (some 32) (some (31, true)) (.fa 0 (.t 3)), .op (some 33) (some (31, true)) (.fa 0 (.t 32)), .op (some 34) (some (31, true)) (.ld 1 false (.t 33)), .op (some 35) (some (31, true)) (.bin .eql .num (.t 34) (.c (.i .i64 2))), .op (some 36) (some (31, true)) (.mv (.t 35)), .op (some 37) (some (36, false)) (.fa 0 (.t 3)), .op (some 38) (some (36, false)) (.ld 10 true (.t 37)), .op (some 39) (some (36, false)) (.call 98 true [.t 38]), .op (some 40) (some (31, true)) (.pick (.t 36) (.c (.b true)) (.t 39)), .o 41 (.pick (.t 31) (.t 40) (.c (.b false))), .o 2 (.mv (.t 41))] [3, 28, 29, 30, 31, 32, 33, 34, 35, 36, 37, 38, 39, 40, 41]) .ret))))
def d153 : Fn := { real := 153, np := 1, nt := 42, res := [.t 2], body := c153 }

/-- lineage/annotation.hasConstant -/
def c154 : C :=
  (.seq (.reg [.o 2 (.mv (.c (.b false)))] [2]) (.seq (.reg [.o 3 (.mv (.t 0)), .o 4 (.call 137 true [.t 3, .c (.fn 192 [])]), .o 2 (.mv (.t 4))] [0, 3, 4]) .ret))
def d154 : Fn := { real := 154, np := 1, nt := 5, res := [.t 2], body := c154 }

/-- slices.ContainsFunc[[]lineage/api.Weighted,lineage/api.Weighted] -/
def c155 : C :=
  (.seq (.reg [.o 4 (.mv (.c (.b false)))] [4]) (.seq (.reg [.o 5 (.mv (.t 0)), .o 6 (.mv (.t 1)), .o 7 (.call 193 true [.t 5, .t 6]), .o 8 (.bin .geq .num (.t 7) (.c (.i .i64 0))), .o 4 (.mv (.t 8))] [0, 1, 5, 6, 7, 8]) .ret))
def d155 : Fn := { real := 155, np := 2, nt := 9, res := [.t 4], body := c155 }

/-- lineage/annotation.validAtom$2 -/
def c156 : C :=
  (.seq (.reg [.o 1 (.box 4 true (.t 0)), .o 2 (.mv (.c (.b false)))] [0, 2]) (.seq (.reg [.o 3 (.fa 3 (.t 1)), .o 4 (.ld 1 false (.t 3)), .o 5 (.call 60 true [.t 4]), .o 6 (.un .not (.t 5)), .o 7 (.mv (.t 6)), .op (some 8) (some (7, false)) (.fa 3 (.t 1)), .op (some 9) (some (7, false)) (.ld 1 false (.t 8)), .op (some 10) (some (7, false)) (.len false (.t 9)), .op (some 11) (some (7, false)) (.bin .eql .num (.t 10) (.c (.i .i64 0))), .o 12 (.pick (.t 7) (.c (.b true)) (.t 11)), .o 2 (.mv (.t 12))] [1, 3, 4, 5, 6, 7, 8, 9, 10, 11, 12]) .ret))
def d156 : Fn := { real := 156, np := 1, nt := 13, res := [.t 2], body := c156 }

/-- slices.IsSortedFunc[[]lineage/api.Weighted,lineage/api.Weighted] -/
def c157_0 : C :=
  .seq (.seq (.reg [.o 9 (.mv (.t 5)), .o 10 (.bin .gtr .num (.t 9) (.c (.i .i64 0)))] [9]) (.cond (.t 10) .skip (.exit 0))) (.seq (.blk 1 (.seq (.dreg [(0, .o 13 (.mv (.t 1))), (1, .o 14 (.mv (.t 0))), (2, .o 15 (.mv (.t 5))), (3, .o 16 (.ia 4 (.t 14) (.t 15))), (4, .o 17 (.ld 4 true (.t 16))), (5, .o 18 (.mv (.t 0))), (6, .o 19 (.mv (.t 5))), (7, .o 20 (.bin .sub .num (.t 19) (.c (.i .i64 1)))), (8, .o 21 (.ia 4 (.t 18) (.t 20))), (9, .o 22 (.ld 4 true (.t 21))), (10, .o 23 (.calld (.t 13) true [.t 17, .t 22])), (11, .o 24 (.bin .lss .num (.t 23) (.c (.i .i64 0))))] [10, 13, 14, 15, 16, 17, 18, 19, 20, 21, 22, 23]) (.cond (.t 24) (.seq (.reg [.o 4 (.mv (.c (.b false)))] [0, 1, 5, 24]) .ret) .skip))) (.reg [.o 11 (.mv (.t 5)), .o 12 (.bin .sub .num (.t 11) (.c (.i .i64 1))), .o 5 (.mv (.t 12))] [11, 12, 24]))
def c157_r0 : C :=
  .seq (.reg [.o 4 (.mv (.c (.b true)))] [0, 1, 5, 10]) .ret
def c157 : C :=
  (.seq (.reg [.o 4 (.mv (.c (.b false)))] [4]) (.seq (.seq (.reg [.o 6 (.mv (.t 0)), .o 7 (.len false (.t 6)), .o 8 (.bin .sub .num (.t 7) (.c (.i .i64 1))), .o 5 (.mv (.t 8))] [6, 7, 8]) (.blk 0 (.loop [] c157_0))) c157_r0))
def d157 : Fn := { real := 157, np := 2, nt := 25, res := [.t 4], body := c157 }

/-- lineage/annotation.fitting -/
def c158 : C :=
  (.seq (.reg [.o 4 (.box 1 false (.t 0)), .o 7 (.box 3 true (.t 3)), .o 8 (.mv (.c (.b false)))] [0, 3, 8]) (.seq (.seq (.reg [.o 9 (.ld 1 false (.t 4)), .o 10 (.bin .lss .num (.t 9) (.c (.i .i64 0))), .o 11 (.mv (.t 10)), .op (some 12) (some (11, false)) (.ld 1 false (.t 4)), .op (some 13) (some (11, false)) (.bin .gtr .num (.t 12) (.c (.i .i64 3))), .o 14 (.pick (.t 11) (.c (.b true)) (.t 13)), .o 15 (.mv (.t 14)), .op (some 16) (some (15, false)) (.mv (.t 2)), .op (some 17) (some (15, false)) (.bin .lss .num (.t 16) (.c (.i .i64 5))), .o 18 (.pick (.t 15) (.c (.b true)) (.t 17)), .o 19 (.mv (.t 18)), .op (some 20) (some (19, false)) (.mv (.t 2)), .op (some 21) (some (19, false)) (.bin .gtr .num (.t 20) (.c (.i .i64 10))), .o 22 (.pick (.t 19) (.c (.b true)) (.t 21)), .o 23 (.mv (.t 22)), .op (some 24) (some (23, false)) (.ld 3 true (.t 7)), .op (some 25) (some (23, false)) (.call 194 true [.t 24]), .op (some 26) (some (23, false)) (.un .not (.t 25)), .o 27 (.pick (.t 23) (.c (.b true)) (.t 26))] [2, 9, 10, 11, 12, 13, 14, 15, 16, 17, 18, 19, 20, 21, 22, 23, 24, 25, 26]) (.cond (.t 27) (.seq (.reg [.o 8 (.mv (.c (.b false)))] [1, 4, 7, 27]) .ret) .skip)) (.seq (.seq (.reg [.o 28 (.ld 1 false (.t 4)), .o 29 (.bin .eql .num (.t 28) (.c (.i .i64 0))), .o 30 (.mv (.t 29)), .op (some 31) (some (30, false)) (.ld 1 false (.t 4)), .op (some 32) (some (30, false)) (.bin .eql .num (.t 31) (.c (.i .i64 1))), .o 33 (.pick (.t 30) (.c (.b true)) (.t 32)), .o 34 (.mv (.t 33)), .op (some 35) (some (34, true)) (.fa 0 (.t 7)), .op (some 36) (some (34, true)) (.ld 1 false (.t 35)), .op (some 37) (some (34, true)) (.bin .neq .num (.t 36) (.c (.i .i64 0))), .o 38 (.pick (.t 34) (.t 37) (.c (.b false)))] [27, 28, 29, 30, 31, 32, 33, 34, 35, 36, 37]) (.cond (.t 38) (.seq (.reg [.o 8 (.mv (.c (.b false)))] [1, 4, 7, 38]) .ret) .skip)) (.seq (.reg [.o 39 (.mv (.t 1)), .o 40 (.mkfn 195 [.t 7, .t 4]), .o 41 (.call 2155 false [.t 39, .t 40]), .o 42 (.un .not (.t 41)), .o 8 (.mv (.t 42))] [1, 4, 7, 38, 39, 40, 41, 42]) .ret))))
def d158 : Fn := { real := 158, np := 4, nt := 43, res := [.t 8], body := c158 }

/-- slices.IndexFunc[[]lineage/api.Annotation,lineage/api.Annotation] -/
def c159_0 : C :=
  .seq (.reg [.o 9 (.bin .lss .num (.t 8) (.t 7))] []) (.seq (.cond (.t 9) .skip (.exit 0)) (.seq (.blk 1 (.seq (.reg [.o 10 (.mv (.t 8)), .o 5 (.mv (.t 10))] [9, 10]) (.seq (.reg [.o 11 (.mv (.t 1)), .o 12 (.mv (.t 0)), .o 13 (.mv (.t 5)), .o 14 (.ia 1 (.t 12) (.t 13)), .o 15 (.ld 1 false (.t 14)), .o 16 (.calld (.t 11) true [.t 15])] [11, 12, 13, 14, 15]) (.cond (.t 16) (.seq (.reg [.o 17 (.mv (.t 5)), .o 4 (.mv (.t 17))] [0, 1, 5, 7, 8, 16, 17]) .ret) .skip)))) (.reg [.o 18 (.bin .add .num (.t 8) (.c (.i .i64 1))), .o 8 (.mv (.t 18))] [5, 16, 18])))
def c159_r0 : C :=
  .seq (.reg [.o 4 (.mv (.c (.i .i64 (-1))))] [0, 1, 7, 8, 9]) .ret
def c159 : C :=
  (.seq (.reg [.o 4 (.mv (.c (.i .i64 0)))] [4]) (.seq (.seq (.reg [.o 6 (.mv (.t 0)), .o 7 (.len false (.t 6)), .o 8 (.mv (.c (.i .i64 0)))] [6]) (.blk 0 (.loop [] c159_0))) c159_r0))
def d159 : Fn := { real := 159, np := 2, nt := 19, res := [.t 4], body := c159 }

/-- (lineage/bdd.builder).atom -/
def c160 : C :=
  (.seq (.reg [.o 2 (.box 2 true (.t 0)), .o 3 (.box 10 true (.t 1)), .o 4 (.alloc [.sl 2 true [] .ro, .sl 3 true [] .ro, .i .i64 0]), .o 5 (.mv (.c (.i .i64 0)))] [0, 1, 5]) (.seq (.seq (.reg [.o 9 (.fa 0 (.t 3)), .o 10 (.ld 1 false (.t 9)), .o 11 (.bin .eql .num (.t 10) (.c (.i .i64 0)))] [9, 10]) (.cond (.t 11) (.seq (.reg [.o 12 (.fa 0 (.t 2)), .o 13 (.ld 1 false (.t 12)), .o 14 (.fa 1 (.t 3)), .o 15 (.ld 2 true (.t 14)), .o 16 (.call 14 true [.t 13, .t 15]), .o 17 (.ext (.t 16) 0), .o 18 (.ext (.t 16) 1), .op none none (.st 3 true (.t 4) (.t 17)), .o 5 (.mv (.t 18))] [2, 3, 11, 12, 13, 14, 15, 16, 17, 18]) .ret) .skip)) (.seq (.dreg [(0, .o 20 (.ld 2 true (.t 2))), (1, .o 21 (.fa 3 (.t 3))), (2, .o 22 (.ld 1 false (.t 21))), (3, .o 23 (.ia 1 (.t 22) (.c (.i .i64 0)))), (4, .o 24 (.ld 1 false (.t 23))), (5, .o 25 (.call 66 true [.t 20, .t 24])), (6, .o 19 (.mv (.t 25))), (7, .o 26 (.ext (.t 19) 0)), (8, .o 27 (.ext (.t 19) 1)), (9, .o 6 (.alloc [.sl 2 true [] .ro, .sl 3 true [] .ro, .i .i64 0])), (0, .ck 20 (.ld 2 true (.t 2))), (2, .ck 22 (.ld 1 false (.t 21))), (4, .ck 24 (.ld 1 false (.t 23))), (10, .op none none (.st 3 true (.t 6) (.t 26))), (11, .o 7 (.mv (.t 27)))] [11, 19, 20, 21, 22, 23, 24, 25, 26, 27]) (.seq (.seq (.reg [.o 28 (.mv (.t 7)), .o 29 (.bin .neq .num (.t 28) (.c (.i .i64 0))), .o 30 (.mv (.t 29)), .op (some 31) (some (30, false)) (.fa 0 (.t 3)), .op (some 32) (some (30, false)) (.ld 1 false (.t 31)), .op (some 33) (some (30, false)) (.bin .eql .num (.t 32) (.c (.i .i64 2))), .o 34 (.pick (.t 30) (.c (.b true)) (.t 33))] [28, 29, 30, 31, 32, 33]) (.cond (.t 34) (.seq (.reg [.o 35 (.ld 3 true (.t 6)), .o 36 (.mv (.t 7)), .op none none (.st 3 true (.t 4) (.t 35)), .o 5 (.mv (.t 36))] [2, 3, 6, 7, 34, 35, 36]) .ret) .skip)) (.seq (.seq (.reg [.o 37 (.fa 0 (.t 3)), .o 38 (.ld 1 false (.t 37)), .o 39 (.bin .eql .num (.t 38) (.c (.i .i64 3)))] [7, 34, 37, 38]) (.cond (.t 39) (.seq (.reg [.o 40 (.ld 3 true (.t 6)), .o 41 (.call 23 true [.t 40]), .op none none (.st 3 true (.t 4) (.t 41)), .o 5 (.mv (.c (.i .i64 0)))] [2, 3, 6, 39, 40, 41]) .ret) .skip)) (.seq (.dreg [(0, .o 43 (.ld 2 true (.t 2))), (1, .o 44 (.fa 3 (.t 3))), (2, .o 45 (.ld 1 false (.t 44))), (3, .o 46 (.ia 1 (.t 45) (.c (.i .i64 1)))), (4, .o 47 (.ld 1 false (.t 46))), (5, .o 48 (.call 66 true [.t 43, .t 47])), (6, .o 42 (.mv (.t 48))), (7, .o 49 (.ext (.t 42) 0)), (8, .o 50 (.ext (.t 42) 1)), (9, .o 8 (.alloc [.sl 2 true [] .ro, .sl 3 true [] .ro, .i .i64 0])), (0, .ck 43 (.ld 2 true (.t 2))), (2, .ck 45 (.ld 1 false (.t 44))), (4, .ck 47 (.ld 1 false (.t 46))), (10, .op none none (.st 3 true (.t 8) (.t 49))), (11, .o 7 (.mv (.t 50)))] [3, 39, 42, 43, 44, 45, 46, 47, 48, 49, 50]) (.seq (.seq (.reg [.o 51 (.mv (.t 7)), .o 52 (.bin .neq .num (.t 51) (.c (.i .i64 0)))] [51]) (.cond (.t 52) (.seq (.reg [.o 53 (.bld [.sl 2 true [] .ro, .sl 3 true [] .ro, .i .i64 0] []), .o 54 (.mv (.t 7)), .op none none (.st 3 true (.t 4) (.t 53)), .o 5 (.mv (.t 54))] [2, 6, 7, 8, 52, 53, 54]) .ret) .skip)) (.seq (.dreg [(0, .o 55 (.ld 2 true (.t 2))), (1, .o 56 (.ld 3 true (.t 6))), (2, .o 57 (.ld 3 true (.t 8))), (3, .o 58 (.call 23 true [.t 57])), (4, .o 59 (.call 21 true [.t 56, .t 58])), (5, .o 60 (.ext (.t 59) 0)), (6, .o 61 (.ext (.t 59) 1)), (7, .o 62 (.call 106 true [.t 55, .t 60, .t 61])), (8, .o 63 (.ext (.t 62) 0)), (9, .o 64 (.ext (.t 62) 1)), (10, .op none none (.st 3 true (.t 4) (.t 63))), (11, .o 5 (.mv (.t 64)))] [2, 6, 7, 8, 52, 55, 56, 57, 58, 59, 60, 61, 62, 63, 64]) .ret))))))))
def d160 : Fn := { real := 160, np := 2, nt := 65, res := [.cell 4 3 true, .t 5], body := c160 }



/-- lineage/lineageref05.number -/
def c163 : C :=
  (.seq (.reg [.o 4 (.mv (.c (.i .i64 0)))] [4]) (.seq (.seq (.reg [.o 5 (.mv (.t 0)), .o 6 (.mv (.t 1)), .o 7 (.bin .lss .num (.t 5) (.t 6))] [5, 6]) (.cond (.t 7) (.seq (.reg [.o 4 (.mv (.c (.i .i64 (-1))))] [0, 1, 7]) .ret) .skip)) (.seq (.seq (.reg [.o 8 (.mv (.t 0)), .o 9 (.mv (.t 1)), .o 10 (.bin .gtr .num (.t 8) (.t 9))] [0, 1, 7, 8, 9]) (.cond (.t 10) (.seq (.reg [.o 4 (.mv (.c (.i .i64 1)))] [10]) .ret) .skip)) (.seq (.reg [.o 4 (.mv (.c (.i .i64 0)))] [10]) .ret))))
def d163 : Fn := { real := 163, np := 2, nt := 11, res := [.t 4], body := c163 }






/-- lineage/lineageref05.CompareItems -/
def c169_0 : C :=
  .seq (.seq (.reg [.o 8 (.mv (.t 5)), .o 9 (.mv (.t 0)), .o 10 (.len false (.t 9)), .o 11 (.bin .lss .num (.t 8) (.t 10)), .o 12 (.mv (.t 11)), .op (some 13) (some (12, true)) (.mv (.t 5)), .op (some 14) (some (12, true)) (.mv (.t 1)), .op (some 15) (some (12, true)) (.len false (.t 14)), .op (some 16) (some (12, true)) (.bin .lss .num (.t 13) (.t 15)), .o 17 (.pick (.t 12) (.t 16) (.c (.b false)))] [8, 9, 10, 11, 12, 13, 14, 15, 16]) (.cond (.t 17) .skip (.exit 0))) (.seq (.blk 1 (.seq (.seq (.dreg [(0, .o 20 (.mv (.t 0))), (1, .o 21 (.mv (.t 5))), (2, .o 22 (.ia 4 (.t 20) (.t 21))), (3, .o 23 (.fa 0 (.t 22))), (4, .o 24 (.ld 3 true (.t 23))), (5, .o 25 (.mv (.t 1))), (6, .o 26 (.mv (.t 5))), (7, .o 27 (.ia 4 (.t 25) (.t 26))), (8, .o 28 (.fa 0 (.t 27))), (9, .o 29 (.ld 3 true (.t 28))), (10, .o 30 (.call 172 true [.t 24, .t 29])), (11, .o 6 (.mv (.t 30)))] [17, 20, 21, 22, 23, 24, 25, 26, 27, 28, 29, 30]) (.seq (.reg [.o 31 (.mv (.t 6)), .o 32 (.bin .neq .num (.t 31) (.c (.i .i64 0)))] [31]) (.cond (.t 32) (.seq (.reg [.o 33 (.mv (.t 6)), .o 4 (.mv (.t 33))] [0, 1, 5, 6, 32, 33]) .ret) .skip))) (.seq (.dreg [(0, .o 34 (.mv (.t 0))), (1, .o 35 (.mv (.t 5))), (2, .o 36 (.ia 4 (.t 34) (.t 35))), (3, .o 37 (.fa 3 (.t 36))), (4, .o 38 (.ld 1 false (.t 37))), (5, .o 39 (.mv (.t 1))), (6, .o 40 (.mv (.t 5))), (7, .o 41 (.ia 4 (.t 39) (.t 40))), (8, .o 42 (.fa 3 (.t 41))), (9, .o 43 (.ld 1 false (.t 42))), (10, .o 44 (.call 171 true [.t 38, .t 43])), (11, .o 7 (.mv (.t 44)))] [6, 32, 34, 35, 36, 37, 38, 39, 40, 41, 42, 43, 44]) (.seq (.reg [.o 45 (.mv (.t 7)), .o 46 (.bin .neq .num (.t 45) (.c (.i .i64 0)))] [45]) (.cond (.t 46) (.seq (.reg [.o 47 (.mv (.t 7)), .o 4 (.mv (.t 47))] [0, 1, 5, 7, 46, 47]) .ret) .skip))))) (.reg [.o 18 (.mv (.t 5)), .o 19 (.bin .add .num (.t 18) (.c (.i .i64 1))), .o 5 (.mv (.t 19))] [7, 18, 19, 46]))
def c169_r0 : C :=
  .seq (.reg [.o 48 (.mv (.t 0)), .o 49 (.len false (.t 48)), .o 50 (.mv (.t 1)), .o 51 (.len false (.t 50)), .o 52 (.call 163 true [.t 49, .t 51]), .o 4 (.mv (.t 52))] [0, 1, 5, 17, 48, 49, 50, 51, 52]) .ret
def c169 : C :=
  (.seq (.reg [.o 4 (.mv (.c (.i .i64 0)))] [4]) (.seq (.seq (.reg [.o 5 (.mv (.c (.i .i64 0)))] []) (.blk 0 (.loop [] c169_0))) c169_r0))
def d169 : Fn := { real := 169, np := 2, nt := 53, res := [.t 4], body := c169 }

/-- lineage/lineageref05.CompareRow -/
def c170 : C :=
  (.seq (.reg [.o 2 (.box 2 true (.t 0)), .o 3 (.box 2 true (.t 1)), .o 4 (.mv (.c (.i .i64 0)))] [0, 1, 4]) (.seq (.seq (.reg [.o 6 (.fa 0 (.t 2)), .o 7 (.ld 1 false (.t 6)), .o 8 (.fa 0 (.t 3)), .o 9 (.ld 1 false (.t 8)), .o 10 (.call 163 true [.t 7, .t 9]), .o 5 (.mv (.t 10))] [6, 7, 8, 9, 10]) (.seq (.reg [.o 11 (.mv (.t 5)), .o 12 (.bin .neq .num (.t 11) (.c (.i .i64 0)))] [11]) (.cond (.t 12) (.seq (.reg [.o 13 (.mv (.t 5)), .o 4 (.mv (.t 13))] [2, 3, 5, 12, 13]) .ret) .skip))) (.seq (.reg [.o 14 (.fa 1 (.t 2)), .o 15 (.ld 1 false (.t 14)), .o 16 (.fa 1 (.t 3)), .o 17 (.ld 1 false (.t 16)), .o 18 (.call 163 true [.t 15, .t 17]), .o 4 (.mv (.t 18))] [2, 3, 5, 12, 14, 15, 16, 17, 18]) .ret)))
def d170 : Fn := { real := 170, np := 2, nt := 19, res := [.t 4], body := c170 }

/-- lineage/lineageref05.Compare -/
def c171_0 : C :=
  .seq (.seq (.reg [.o 8 (.mv (.t 5)), .o 9 (.mv (.t 0)), .o 10 (.len false (.t 9)), .o 11 (.bin .lss .num (.t 8) (.t 10)), .o 12 (.mv (.t 11)), .op (some 13) (some (12, true)) (.mv (.t 5)), .op (some 14) (some (12, true)) (.mv (.t 1)), .op (some 15) (some (12, true)) (.len false (.t 14)), .op (some 16) (some (12, true)) (.bin .lss .num (.t 13) (.t 15)), .o 17 (.pick (.t 12) (.t 16) (.c (.b false)))] [8, 9, 10, 11, 12, 13, 14, 15, 16]) (.cond (.t 17) .skip (.exit 0))) (.seq (.blk 1 (.seq (.seq (.dreg [(0, .o 20 (.mv (.t 0))), (1, .o 21 (.mv (.t 5))), (2, .o 22 (.ia 2 (.t 20) (.t 21))), (3, .o 23 (.fa 1 (.t 22))), (4, .o 24 (.ld 1 false (.t 23))), (5, .o 25 (.mv (.t 1))), (6, .o 26 (.mv (.t 5))), (7, .o 27 (.ia 2 (.t 25) (.t 26))), (8, .o 28 (.fa 1 (.t 27))), (9, .o 29 (.ld 1 false (.t 28))), (10, .o 30 (.call 108 true [.t 24, .t 29])), (11, .o 6 (.mv (.t 30)))] [17, 20, 21, 22, 23, 24, 25, 26, 27, 28, 29, 30]) (.seq (.reg [.o 31 (.mv (.t 6)), .o 32 (.bin .neq .num (.t 31) (.c (.i .i64 0)))] [31]) (.cond (.t 32) (.seq (.reg [.o 33 (.mv (.t 6)), .o 4 (.mv (.t 33))] [0, 1, 5, 6, 32, 33]) .ret) .skip))) (.seq (.dreg [(0, .o 34 (.mv (.t 0))), (1, .o 35 (.mv (.t 5))), (2, .o 36 (.ia 2 (.t 34) (.t 35))), (3, .o 37 (.fa 0 (.t 36))), (4, .o 38 (.ld 1 false (.t 37))), (5, .o 39 (.mv (.t 1))), (6, .o 40 (.mv (.t 5))), (7, .o 41 (.ia 2 (.t 39) (.t 40))), (8, .o 42 (.fa 0 (.t 41))), (9, .o 43 (.ld 1 false (.t 42))), (10, .o 44 (.call 163 true [.t 38, .t 43])), (11, .o 7 (.mv (.t 44)))] [6, 32, 34, 35, 36, 37, 38, 39, 40, 41, 42, 43, 44]) (.seq (.reg [.o 45 (.mv (.t 7)), .o 46 (.bin .neq .num (.t 45) (.c (.i .i64 0)))] [45]) (.cond (.t 46) (.seq (.reg [.o 47 (.mv (.t 7)), .o 4 (.mv (.t 47))] [0, 1, 5, 7, 46, 47]) .ret) .skip))))) (.reg [.o 18 (.mv (.t 5)), .o 19 (.bin .add .num (.t 18) (.c (.i .i64 1))), .o 5 (.mv (.t 19))] [7, 18, 19, 46]))
def c171_r0 : C :=
  .seq (.reg [.o 48 (.mv (.t 0)), .o 49 (.len false (.t 48)), .o 50 (.mv (.t 1)), .o 51 (.len false (.t 50)), .o 52 (.call 163 true [.t 49, .t 51]), .o 4 (.mv (.t 52))] [0, 1, 5, 17, 48, 49, 50, 51, 52]) .ret
def c171 : C :=
  (.seq (.reg [.o 4 (.mv (.c (.i .i64 0)))] [4]) (.seq (.seq (.reg [.o 5 (.mv (.c (.i .i64 0)))] []) (.blk 0 (.loop [] c171_0))) c171_r0))
def d171 : Fn := { real := 171, np := 2, nt := 53, res := [.t 4], body := c171 }

/-- lineage/lineageref01.Compare -/
def c172 : C :=
  (.seq (.reg [.o 2 (.box 3 true (.t 0)), .o 3 (.box 3 true (.t 1)), .o 4 (.mv (.c (.i .i64 0)))] [0, 1, 4]) (.seq (.seq (.reg [.o 5 (.fa 0 (.t 2)), .o 6 (.ld 1 false (.t 5)), .o 7 (.fa 0 (.t 3)), .o 8 (.ld 1 false (.t 7)), .o 9 (.bin .neq .num (.t 6) (.t 8))] [5, 6, 7, 8]) (.cond (.t 9) (.seq (.reg [.o 10 (.fa 0 (.t 2)), .o 11 (.ld 1 false (.t 10)), .o 12 (.fa 0 (.t 3)), .o 13 (.ld 1 false (.t 12)), .o 14 (.bin .lss .num (.t 11) (.t 13)), .o 15 (.call 197 true [.t 14]), .o 4 (.mv (.t 15))] [2, 3, 9, 10, 11, 12, 13, 14, 15]) .ret) .skip)) (.seq (.seq (.reg [.o 16 (.fa 1 (.t 2)), .o 17 (.ld 1 false (.t 16)), .o 18 (.fa 1 (.t 3)), .o 19 (.ld 1 false (.t 18)), .o 20 (.bin .neq .num (.t 17) (.t 19))] [9, 16, 17, 18, 19]) (.cond (.t 20) (.seq (.reg [.o 21 (.fa 1 (.t 2)), .o 22 (.ld 1 false (.t 21)), .o 23 (.fa 1 (.t 3)), .o 24 (.ld 1 false (.t 23)), .o 25 (.bin .lss .num (.t 22) (.t 24)), .o 26 (.call 197 true [.t 25]), .o 4 (.mv (.t 26))] [2, 3, 20, 21, 22, 23, 24, 25, 26]) .ret) .skip)) (.seq (.seq (.reg [.o 27 (.fa 2 (.t 2)), .o 28 (.ld 1 false (.t 27)), .o 29 (.fa 2 (.t 3)), .o 30 (.ld 1 false (.t 29)), .o 31 (.bin .neq .str (.t 28) (.t 30))] [20, 27, 28, 29, 30]) (.cond (.t 31) (.seq (.reg [.o 32 (.fa 2 (.t 2)), .o 33 (.ld 1 false (.t 32)), .o 34 (.fa 2 (.t 3)), .o 35 (.ld 1 false (.t 34)), .o 36 (.bin .lss .str (.t 33) (.t 35)), .o 37 (.call 197 true [.t 36]), .o 4 (.mv (.t 37))] [2, 3, 31, 32, 33, 34, 35, 36, 37]) .ret) .skip)) (.seq (.reg [.o 4 (.mv (.c (.i .i64 0)))] [2, 3, 31]) .ret)))))
def d172 : Fn := { real := 172, np := 2, nt := 38, res := [.t 4], body := c172 }

/-- lineage/bignat.limbAt$1 -/
def c173 : C :=
  (.seq (.reg [.o 3 (.mv (.c (.i .u32 0)))] [3]) (.seq (.seq (.reg [.o 4 (.mv (.t 0)), .o 5 (.ld 1 false (.t 1)), .o 6 (.len false (.t 5)), .o 7 (.bin .geq .num (.t 4) (.t 6))] [4, 5, 6]) (.cond (.t 7) (.seq (.reg [.o 3 (.mv (.c (.i .u32 0)))] [0, 1, 7]) .ret) .skip)) (.seq (.reg [.o 8 (.ld 1 false (.t 1)), .o 9 (.mv (.t 0)), .o 10 (.ia 1 (.t 8) (.t 9)), .o 11 (.ld 1 false (.t 10)), .o 3 (.mv (.t 11))] [0, 1, 7, 8, 9, 10, 11]) .ret)))
def d173 : Fn := { real := 173, np := 2, nt := 12, res := [.t 3], body := c173 }

end Go.Proofs.YtjlmeikcfdanmaaGreatDoor.DE

namespace Go.Proofs.YtjlmeikcfdanmaaGreatDoor.DE
/-- slices.pdqsortCmpFunc[lineage/api.RowID] -/
def c174_0 : C :=
  .blk 1 (.seq (.reg [.o 21 (.mv (.t 2)), .o 22 (.mv (.t 1)), .o 23 (.bin .sub .num (.t 21) (.t 22)), .o 12 (.mv (.t 23))] [21, 22, 23]) (.seq (.seq (.reg [.o 24 (.mv (.t 12)), .o 25 (.bin .leq .num (.t 24) (.c (.i .i64 12)))] [24]) (.cond (.t 25) (.seq (.reg [.o 26 (.mv (.t 0)), .o 27 (.mv (.t 1)), .o 28 (.mv (.t 2)), .o 29 (.mv (.t 4)), .o 30 (.call 198 false [.t 26, .t 27, .t 28, .t 29])] [0, 1, 2, 3, 4, 10, 11, 12, 25, 26, 27, 28, 29, 30]) .ret) .skip)) (.seq (.seq (.reg [.o 31 (.mv (.t 3)), .o 32 (.bin .eql .num (.t 31) (.c (.i .i64 0)))] [25, 31]) (.cond (.t 32) (.seq (.reg [.o 33 (.mv (.t 0)), .o 34 (.mv (.t 1)), .o 35 (.mv (.t 2)), .o 36 (.mv (.t 4)), .o 37 (.call 199 false [.t 33, .t 34, .t 35, .t 36])] [0, 1, 2, 3, 4, 10, 11, 12, 32, 33, 34, 35, 36, 37]) .ret) .skip)) (.seq (.seq (.reg [.o 38 (.mv (.t 10)), .o 39 (.un .not (.t 38))] [32, 38]) (.cond (.t 39) (.seq (.reg [.o 40 (.mv (.t 0)), .o 41 (.mv (.t 1)), .o 42 (.mv (.t 2)), .o 43 (.mv (.t 4)), .o 44 (.call 200 false [.t 40, .t 41, .t 42, .t 43])] [39, 40, 41, 42, 43, 44]) (.reg [.o 45 (.mv (.t 3)), .o 46 (.bin .sub .num (.t 45) (.c (.i .i64 1))), .o 3 (.mv (.t 46))] [45, 46])) .skip)) (.seq (.reg [.o 48 (.mv (.t 0)), .o 49 (.mv (.t 1)), .o 50 (.mv (.t 2)), .o 51 (.mv (.t 4)), .o 52 (.call 201 false [.t 48, .t 49, .t 50, .t 51]), .o 47 (.mv (.t 52)), .o 53 (.ext (.t 47) 0), .o 54 (.ext (.t 47) 1), .o 13 (.mv (.t 53)), .o 14 (.mv (.t 54))] [39, 47, 48, 49, 50, 51, 52, 53, 54]) (.seq (.seq (.reg [.o 55 (.mv (.t 14)), .o 56 (.bin .eql .num (.t 55) (.c (.i .i64 2)))] [55]) (.cond (.t 56) (.seq (.reg [.o 57 (.mv (.t 0)), .o 58 (.mv (.t 1)), .o 59 (.mv (.t 2)), .o 60 (.mv (.t 4)), .o 61 (.call 202 false [.t 57, .t 58, .t 59, .t 60])] [14, 56, 57, 58, 59, 60, 61]) (.seq (.reg [.o 62 (.mv (.t 2)), .o 63 (.bin .sub .num (.t 62) (.c (.i .i64 1))), .o 64 (.mv (.t 13)), .o 65 (.mv (.t 1)), .o 66 (.bin .sub .num (.t 64) (.t 65)), .o 67 (.bin .sub .num (.t 63) (.t 66)), .o 13 (.mv (.t 67))] [62, 63, 64, 65, 66, 67]) (.reg [.o 14 (.mv (.c (.i .i64 1)))] []))) .skip)) (.seq (.seq (.reg [.o 68 (.mv (.t 10)), .o 69 (.mv (.t 68)), .op (some 70) (some (69, true)) (.mv (.t 11)), .o 71 (.pick (.t 69) (.t 70) (.c (.b false))), .o 72 (.mv (.t 71)), .op (some 73) (some (72, true)) (.mv (.t 14)), .op (some 74) (some (72, true)) (.bin .eql .num (.t 73) (.c (.i .i64 1))), .o 75 (.pick (.t 72) (.t 74) (.c (.b false)))] [14, 56, 68, 69, 70, 71, 72, 73, 74]) (.cond (.t 75) (.seq (.reg [.o 76 (.mv (.t 0)), .o 77 (.mv (.t 1)), .o 78 (.mv (.t 2)), .o 79 (.mv (.t 4)), .o 80 (.call 203 false [.t 76, .t 77, .t 78, .t 79])] [75, 76, 77, 78, 79]) (.cond (.t 80) .ret .skip)) .skip)) (.seq (.seq (.dreg [(0, .o 81 (.mv (.t 1))), (1, .o 82 (.bin .gtr .num (.t 81) (.c (.i .i64 0)))), (2, .o 83 (.mv (.t 82))), (3, .op (some 84) (some (83, true)) (.mv (.t 4))), (4, .op (some 85) (some (83, true)) (.mv (.t 0))), (5, .op (some 86) (some (83, true)) (.mv (.t 1))), (6, .op (some 87) (some (83, true)) (.bin .sub .num (.t 86) (.c (.i .i64 1)))), (7, .op (some 88) (some (83, true)) (.ia 2 (.t 85) (.t 87))), (8, .op (some 89) (some (83, true)) (.ld 2 true (.t 88))), (9, .op (some 90) (some (83, true)) (.mv (.t 0))), (10, .op (some 91) (some (83, true)) (.mv (.t 13))), (11, .op (some 92) (some (83, true)) (.ia 2 (.t 90) (.t 91))), (12, .op (some 93) (some (83, true)) (.ld 2 true (.t 92))), (13, .op (some 94) (some (83, true)) (.calld (.t 84) true [.t 89, .t 93])), (14, .op (some 95) (some (83, true)) (.bin .lss .num (.t 94) (.c (.i .i64 0)))), (15, .op (some 96) (some (83, true)) (.un .not (.t 95))), (16, .o 97 (.pick (.t 83) (.t 96) (.c (.b false))))] [75, 80, 81, 82, 83, 84, 85, 86, 87, 88, 89, 90, 91, 92, 93, 94, 95, 96]) (.cond (.t 97) (.seq (.reg [.o 98 (.mv (.t 0)), .o 99 (.mv (.t 1)), .o 100 (.mv (.t 2)), .o 101 (.mv (.t 13)), .o 102 (.mv (.t 4)), .o 103 (.call 204 false [.t 98, .t 99, .t 100, .t 101, .t 102]), .o 15 (.mv (.t 103))] [1, 12, 13, 97, 98, 99, 100, 101, 102, 103]) (.seq (.reg [.o 104 (.mv (.t 15)), .o 1 (.mv (.t 104))] [15, 104]) (.exit 1))) .skip)) (.seq (.reg [.o 106 (.mv (.t 0)), .o 107 (.mv (.t 1)), .o 108 (.mv (.t 2)), .o 109 (.mv (.t 13)), .o 110 (.mv (.t 4)), .o 111 (.call 205 false [.t 106, .t 107, .t 108, .t 109, .t 110]), .o 105 (.mv (.t 111)), .o 112 (.ext (.t 105) 0), .o 113 (.ext (.t 105) 1), .o 16 (.mv (.t 112)), .o 17 (.mv (.t 113))] [10, 11, 13, 97, 105, 106, 107, 108, 109, 110, 111, 112, 113]) (.seq (.reg [.o 114 (.mv (.t 17)), .o 11 (.mv (.t 114))] [17, 114]) (.seq (.reg [.o 115 (.mv (.t 16)), .o 116 (.mv (.t 1)), .o 117 (.bin .sub .num (.t 115) (.t 116)), .o 118 (.mv (.t 2)), .o 119 (.mv (.t 16)), .o 120 (.bin .sub .num (.t 118) (.t 119)), .o 18 (.mv (.t 117)), .o 19 (.mv (.t 120))] [115, 116, 117, 118, 119, 120]) (.seq (.reg [.o 121 (.mv (.t 12)), .o 122 (.bin .quo .num (.t 121) (.c (.i .i64 8))), .o 20 (.mv (.t 122))] [12, 121, 122]) (.seq (.reg [.o 123 (.mv (.t 18)), .o 124 (.mv (.t 19)), .o 125 (.bin .lss .num (.t 123) (.t 124))] [123, 124]) (.cond (.t 125) (.seq (.reg [.o 126 (.mv (.t 18)), .o 127 (.mv (.t 20)), .o 128 (.bin .geq .num (.t 126) (.t 127)), .o 10 (.mv (.t 128))] [18, 19, 20, 125, 126, 127, 128]) (.seq (.reg [.o 129 (.mv (.t 0)), .o 130 (.mv (.t 1)), .o 131 (.mv (.t 16)), .o 132 (.mv (.t 3)), .o 133 (.mv (.t 4)), .o 134 (.call 174 false [.t 129, .t 130, .t 131, .t 132, .t 133])] [1, 129, 130, 131, 132, 133, 134]) (.reg [.o 135 (.mv (.t 16)), .o 136 (.bin .add .num (.t 135) (.c (.i .i64 1))), .o 1 (.mv (.t 136))] [16, 135, 136]))) (.seq (.reg [.o 137 (.mv (.t 19)), .o 138 (.mv (.t 20)), .o 139 (.bin .geq .num (.t 137) (.t 138)), .o 10 (.mv (.t 139))] [18, 19, 20, 125, 137, 138, 139]) (.seq (.reg [.o 140 (.mv (.t 0)), .o 141 (.mv (.t 16)), .o 142 (.bin .add .num (.t 141) (.c (.i .i64 1))), .o 143 (.mv (.t 2)), .o 144 (.mv (.t 3)), .o 145 (.mv (.t 4)), .o 146 (.call 174 false [.t 140, .t 142, .t 143, .t 144, .t 145])] [2, 140, 141, 142, 143, 144, 145, 146]) (.reg [.o 147 (.mv (.t 16)), .o 2 (.mv (.t 147))] [16, 147])))))))))))))))))
def c174 : C :=
  (.seq (.reg [.o 10 (.mv (.c (.b true)))] []) (.seq (.reg [.o 11 (.mv (.c (.b true)))] []) (.blk 0 (.loop [] c174_0))))
def d174 : Fn := { real := 174, np := 5, nt := 148, res := [], body := c174 }

/-- math/bits.Len -/
def c175 : C :=
  (.seq (.reg [.o 2 (.mv (.c (.i .i64 0)))] [2]) (.seq (.cond (.c (.b false)) (.seq (.reg [.o 3 (.mv (.t 0)), .o 4 (.conv .u32 (.t 3)), .o 5 (.call 206 true [.t 4]), .o 2 (.mv (.t 5))] [0, 3, 4, 5]) .ret) .skip) (.seq (.reg [.o 6 (.mv (.t 0)), .o 7 (.call 207 true [.t 6]), .o 2 (.mv (.t 7))] [0, 6, 7]) .ret)))
def d175 : Fn := { real := 175, np := 1, nt := 8, res := [.t 2], body := c175 }

/-- internal/strconv.small -/
def c176 : C :=
  (.seq (.reg [.o 2 (.mv (.c (.s [])))] [2]) (.seq (.seq (.reg [.o 3 (.mv (.t 0)), .o 4 (.bin .lss .num (.t 3) (.c (.i .i64 10)))] [3]) (.cond (.t 4) (.seq (.reg [.o 5 (.mv (.t 0)), .o 6 (.mv (.t 0)), .o 7 (.bin .add .num (.t 6) (.c (.i .i64 1))), .o 8 (.slcs (.c (.s [48, 49, 50, 51, 52, 53, 54, 55, 56, 57, 97, 98, 99, 100, 101, 102, 103, 104, 105, 106, 107, 108, 109, 110, 111, 112, 113, 114, 115, 116, 117, 118, 119, 120, 121, 122])) (some (.t 5)) (some (.t 7))), .o 2 (.mv (.t 8))] [0, 4, 5, 6, 7, 8]) .ret) .skip)) (.seq (.reg [.o 9 (.mv (.t 0)), .o 10 (.bin .mul .num (.t 9) (.c (.i .i64 2))), .o 11 (.mv (.t 0)), .o 12 (.bin .mul .num (.t 11) (.c (.i .i64 2))), .o 13 (.bin .add .num (.t 12) (.c (.i .i64 2))), .o 14 (.slcs (.c (.s [48, 48, 48, 49, 48, 50, 48, 51, 48, 52, 48, 53, 48, 54, 48, 55, 48, 56, 48, 57, 49, 48, 49, 49, 49, 50, 49, 51, 49, 52, 49, 53, 49, 54, 49, 55, 49, 56, 49, 57, 50, 48, 50, 49, 50, 50, 50, 51, 50, 52, 50, 53, 50, 54, 50, 55, 50, 56, 50, 57, 51, 48, 51, 49, 51, 50, 51, 51, 51, 52, 51, 53, 51, 54, 51, 55, 51, 56, 51, 57, 52, 48, 52, 49, 52, 50, 52, 51, 52, 52, 52, 53, 52, 54, 52, 55, 52, 56, 52, 57, 53, 48, 53, 49, 53, 50, 53, 51, 53, 52, 53, 53, 53, 54, 53, 55, 53, 56, 53, 57, 54, 48, 54, 49, 54, 50, 54, 51, 54, 52, 54, 53, 54, 54, 54, 55, 54, 56, 54, 57, 55, 48, 55, 49, 55, 50, 55, 51, 55, 52, 55, 53, 55, 54, 55, 55, 55, 56, 55, 57, 56, 48, 56, 49, 56, 50, 56, 51, 56, 52, 56, 53, 56, 54, 56, 55, 56, 56, 56, 57, 57, 48, 57, 49, 57, 50, 57, 51, 57, 52, 57, 53, 57, 54, 57, 55, 57, 56, 57, 57])) (some (.t 10)) (some (.t 13))), .o 2 (.mv (.t 14))] [0, 4, 9, 10, 11, 12, 13, 14]) .ret)))
def d176 : Fn := { real := 176, np := 1, nt := 15, res := [.t 2], body := c176 }

/-- internal/strconv.numDigits -/
def c177 : C :=
  (.bad)
def d177 : Fn := { real := 177, np := 1, nt := 15, res := [.t 2], body := c177 }

/-- internal/strconv.formatBits -/
def c179 : C :=
  (.bad)
def d179 : Fn := { real := 179, np := 5, nt := 102, res := [.t 10, .t 11], body := c179 }

/-- slices.IndexFunc[lineage/api.Annotation,lineage/api.Term] -/
def c185_0 : C :=
  .seq (.reg [.o 9 (.bin .lss .num (.t 8) (.t 7))] []) (.seq (.cond (.t 9) .skip (.exit 0)) (.seq (.blk 1 (.seq (.reg [.o 10 (.mv (.t 8)), .o 5 (.mv (.t 10))] [9, 10]) (.seq (.reg [.o 11 (.mv (.t 1)), .o 12 (.mv (.t 0)), .o 13 (.mv (.t 5)), .o 14 (.ia 2 (.t 12) (.t 13)), .o 15 (.ld 2 true (.t 14)), .o 16 (.calld (.t 11) true [.t 15])] [11, 12, 13, 14, 15]) (.cond (.t 16) (.seq (.reg [.o 17 (.mv (.t 5)), .o 4 (.mv (.t 17))] [0, 1, 5, 7, 8, 16, 17]) .ret) .skip)))) (.reg [.o 18 (.bin .add .num (.t 8) (.c (.i .i64 1))), .o 8 (.mv (.t 18))] [5, 16, 18])))
def c185_r0 : C :=
  .seq (.reg [.o 4 (.mv (.c (.i .i64 (-1))))] [0, 1, 7, 8, 9]) .ret
def c185 : C :=
  (.seq (.reg [.o 4 (.mv (.c (.i .i64 0)))] [4]) (.seq (.seq (.reg [.o 6 (.mv (.t 0)), .o 7 (.len false (.t 6)), .o 8 (.mv (.c (.i .i64 0)))] [6]) (.blk 0 (.loop [] c185_0))) c185_r0))
def d185 : Fn := { real := 185, np := 2, nt := 19, res := [.t 4], body := c185 }

/-- slices.IndexFunc[[]lineage/api.Factor,lineage/api.Factor] -/
def c186_0 : C :=
  .seq (.reg [.o 9 (.bin .lss .num (.t 8) (.t 7))] []) (.seq (.cond (.t 9) .skip (.exit 0)) (.seq (.blk 1 (.seq (.reg [.o 10 (.mv (.t 8)), .o 5 (.mv (.t 10))] [9, 10]) (.seq (.reg [.o 11 (.mv (.t 1)), .o 12 (.mv (.t 0)), .o 13 (.mv (.t 5)), .o 14 (.ia 11 (.t 12) (.t 13)), .o 15 (.ld 11 true (.t 14)), .o 16 (.calld (.t 11) true [.t 15])] [11, 12, 13, 14, 15]) (.cond (.t 16) (.seq (.reg [.o 17 (.mv (.t 5)), .o 4 (.mv (.t 17))] [0, 1, 5, 7, 8, 16, 17]) .ret) .skip)))) (.reg [.o 18 (.bin .add .num (.t 8) (.c (.i .i64 1))), .o 8 (.mv (.t 18))] [5, 16, 18])))
def c186_r0 : C :=
  .seq (.reg [.o 4 (.mv (.c (.i .i64 (-1))))] [0, 1, 7, 8, 9]) .ret
def c186 : C :=
  (.seq (.reg [.o 4 (.mv (.c (.i .i64 0)))] [4]) (.seq (.seq (.reg [.o 6 (.mv (.t 0)), .o 7 (.len false (.t 6)), .o 8 (.mv (.c (.i .i64 0)))] [6]) (.blk 0 (.loop [] c186_0))) c186_r0))
def d186 : Fn := { real := 186, np := 2, nt := 19, res := [.t 4], body := c186 }

/-- cmp.isNaN[int] -/
def c187 : C :=
  (.seq (.reg [.o 2 (.mv (.c (.b false)))] [2]) (.seq (.reg [.o 3 (.mv (.t 0)), .o 4 (.mv (.t 0)), .o 5 (.bin .neq .num (.t 3) (.t 4)), .o 2 (.mv (.t 5))] [0, 3, 4, 5]) .ret))
def d187 : Fn := { real := 187, np := 1, nt := 6, res := [.t 2], body := c187 }

/-- slices.CompareFunc[lineage/api.Annotation,lineage/api.Annotation,lineage/api.Term,lineage/api.Term] -/
def c188_0 : C :=
  .seq (.reg [.o 14 (.bin .lss .num (.t 13) (.t 12))] []) (.seq (.cond (.t 14) .skip (.exit 0)) (.seq (.blk 1 (.seq (.reg [.o 15 (.mv (.t 13)), .o 16 (.ia 2 (.t 11) (.t 13)), .o 17 (.ld 2 true (.t 16)), .o 8 (.alloc [.i .i64 0, .sl 11 true [] .ro]), .o 7 (.mv (.t 15)), .op none none (.st 2 true (.t 8) (.t 17))] [14, 15, 16, 17]) (.seq (.seq (.reg [.o 18 (.mv (.t 7)), .o 19 (.mv (.t 1)), .o 20 (.len false (.t 19)), .o 21 (.bin .geq .num (.t 18) (.t 20))] [18, 19, 20]) (.cond (.t 21) (.seq (.reg [.o 6 (.mv (.c (.i .i64 1)))] [0, 1, 2, 7, 8, 11, 12, 13, 21]) .ret) .skip)) (.seq (.reg [.o 22 (.mv (.t 1)), .o 23 (.mv (.t 7)), .o 24 (.ia 2 (.t 22) (.t 23)), .o 25 (.ld 2 true (.t 24)), .o 9 (.alloc [.i .i64 0, .sl 11 true [] .ro]), .op none none (.st 2 true (.t 9) (.t 25))] [7, 21, 22, 23, 24, 25]) (.seq (.reg [.o 26 (.mv (.t 2)), .o 27 (.ld 2 true (.t 8)), .o 28 (.ld 2 true (.t 9)), .o 29 (.calld (.t 26) true [.t 27, .t 28]), .o 10 (.mv (.t 29))] [8, 9, 26, 27, 28, 29]) (.seq (.reg [.o 30 (.mv (.t 10)), .o 31 (.bin .neq .num (.t 30) (.c (.i .i64 0)))] [30]) (.cond (.t 31) (.seq (.reg [.o 32 (.mv (.t 10)), .o 6 (.mv (.t 32))] [0, 1, 2, 10, 11, 12, 13, 31, 32]) .ret) .skip))))))) (.reg [.o 33 (.bin .add .num (.t 13) (.c (.i .i64 1))), .o 13 (.mv (.t 33))] [10, 31, 33])))
def c188_r0 : C :=
  .seq (.seq (.reg [.o 34 (.mv (.t 0)), .o 35 (.len false (.t 34)), .o 36 (.mv (.t 1)), .o 37 (.len false (.t 36)), .o 38 (.bin .lss .num (.t 35) (.t 37))] [0, 1, 2, 11, 12, 13, 14, 34, 35, 36, 37]) (.cond (.t 38) (.seq (.reg [.o 6 (.mv (.c (.i .i64 (-1))))] [38]) .ret) .skip)) (.seq (.reg [.o 6 (.mv (.c (.i .i64 0)))] [38]) .ret)
def c188 : C :=
  (.seq (.reg [.o 6 (.mv (.c (.i .i64 0)))] [6]) (.seq (.seq (.reg [.o 11 (.mv (.t 0)), .o 12 (.len false (.t 11)), .o 13 (.mv (.c (.i .i64 0)))] []) (.blk 0 (.loop [] c188_0))) c188_r0))
def d188 : Fn := { real := 188, np := 3, nt := 39, res := [.t 6], body := c188 }

/-- lineage/annotation.Compare$1 -/
def c189 : C :=
  (.seq (.reg [.o 2 (.box 2 true (.t 0)), .o 3 (.box 2 true (.t 1)), .o 4 (.mv (.c (.i .i64 0)))] [0, 1, 4]) (.seq (.dreg [(0, .o 5 (.ld 2 true (.t 2))), (1, .o 6 (.ld 2 true (.t 3))), (2, .o 7 (.call 97 true [.t 5, .t 6])), (3, .o 8 (.fa 0 (.t 2))), (4, .o 9 (.ld 1 false (.t 8))), (5, .o 10 (.fa 0 (.t 3))), (6, .o 11 (.ld 1 false (.t 10))), (7, .o 12 (.call 190 true [.t 9, .t 11])), (8, .o 13 (.bsl 1 false false [.t 7, .t 12])), (9, .o 14 (.call 143 true [.t 13])), (10, .o 4 (.mv (.t 14)))] [2, 3, 5, 6, 7, 8, 9, 10, 11, 12, 13, 14]) .ret))
def d189 : Fn := { real := 189, np := 2, nt := 15, res := [.t 4], body := c189 }

/-- cmp.Compare[int64] -/
def c190 : C :=
  (.seq (.reg [.o 4 (.mv (.c (.i .i64 0)))] [4]) (.seq (.reg [.o 7 (.mv (.t 0)), .o 8 (.call 214 true [.t 7]), .o 5 (.mv (.t 8))] [7, 8]) (.seq (.reg [.o 9 (.mv (.t 1)), .o 10 (.call 214 true [.t 9]), .o 6 (.mv (.t 10))] [9, 10]) (.seq (.seq (.reg [.o 11 (.mv (.t 5))] [5]) (.cond (.t 11) (.seq (.seq (.reg [.o 12 (.mv (.t 6))] [0, 1, 6, 11]) (.cond (.t 12) (.seq (.reg [.o 4 (.mv (.c (.i .i64 0)))] [12]) .ret) .skip)) (.seq (.reg [.o 4 (.mv (.c (.i .i64 (-1))))] [12]) .ret)) .skip)) (.seq (.seq (.reg [.o 13 (.mv (.t 6))] [6, 11]) (.cond (.t 13) (.seq (.reg [.o 4 (.mv (.c (.i .i64 1)))] [0, 1, 13]) .ret) .skip)) (.seq (.seq (.reg [.o 14 (.mv (.t 0)), .o 15 (.mv (.t 1)), .o 16 (.bin .lss .num (.t 14) (.t 15))] [13, 14, 15]) (.cond (.t 16) (.seq (.reg [.o 4 (.mv (.c (.i .i64 (-1))))] [0, 1, 16]) .ret) .skip)) (.seq (.seq (.reg [.o 17 (.mv (.t 0)), .o 18 (.mv (.t 1)), .o 19 (.bin .gtr .num (.t 17) (.t 18))] [0, 1, 16, 17, 18]) (.cond (.t 19) (.seq (.reg [.o 4 (.mv (.c (.i .i64 1)))] [19]) .ret) .skip)) (.seq (.reg [.o 4 (.mv (.c (.i .i64 0)))] [19]) .ret))))))))
def d190 : Fn := { real := 190, np := 2, nt := 20, res := [.t 4], body := c190 }

/-- strings.Compare -/
def c191 : C :=
  (.seq (.reg [.o 4 (.mv (.c (.i .i64 0)))] [4]) (.seq (.reg [.o 5 (.mv (.t 0)), .o 6 (.mv (.t 1)), .o 7 (.call 215 true [.t 5, .t 6]), .o 4 (.mv (.t 7))] [0, 1, 5, 6, 7]) .ret))
def d191 : Fn := { real := 191, np := 2, nt := 8, res := [.t 4], body := c191 }

/-- lineage/annotation.hasConstant$1 -/
def c192 : C :=
  (.seq (.reg [.o 1 (.box 2 true (.t 0)), .o 2 (.mv (.c (.b false)))] [0, 2]) (.seq (.reg [.o 3 (.fa 1 (.t 1)), .o 4 (.ld 1 false (.t 3)), .o 5 (.len false (.t 4)), .o 6 (.bin .eql .num (.t 5) (.c (.i .i64 0))), .o 2 (.mv (.t 6))] [1, 3, 4, 5, 6]) .ret))
def d192 : Fn := { real := 192, np := 1, nt := 7, res := [.t 2], body := c192 }

/-- slices.IndexFunc[[]lineage/api.Weighted,lineage/api.Weighted] -/
def c193_0 : C :=
  .seq (.reg [.o 9 (.bin .lss .num (.t 8) (.t 7))] []) (.seq (.cond (.t 9) .skip (.exit 0)) (.seq (.blk 1 (.seq (.reg [.o 10 (.mv (.t 8)), .o 5 (.mv (.t 10))] [9, 10]) (.seq (.reg [.o 11 (.mv (.t 1)), .o 12 (.mv (.t 0)), .o 13 (.mv (.t 5)), .o 14 (.ia 4 (.t 12) (.t 13)), .o 15 (.ld 4 true (.t 14)), .o 16 (.calld (.t 11) true [.t 15])] [11, 12, 13, 14, 15]) (.cond (.t 16) (.seq (.reg [.o 17 (.mv (.t 5)), .o 4 (.mv (.t 17))] [0, 1, 5, 7, 8, 16, 17]) .ret) .skip)))) (.reg [.o 18 (.bin .add .num (.t 8) (.c (.i .i64 1))), .o 8 (.mv (.t 18))] [5, 16, 18])))
def c193_r0 : C :=
  .seq (.reg [.o 4 (.mv (.c (.i .i64 (-1))))] [0, 1, 7, 8, 9]) .ret
def c193 : C :=
  (.seq (.reg [.o 4 (.mv (.c (.i .i64 0)))] [4]) (.seq (.seq (.reg [.o 6 (.mv (.t 0)), .o 7 (.len false (.t 6)), .o 8 (.mv (.c (.i .i64 0)))] [6]) (.blk 0 (.loop [] c193_0))) c193_r0))
def d193 : Fn := { real := 193, np := 2, nt := 19, res := [.t 4], body := c193 }

/-- lineage/value.Valid -/
def c194 : C :=
  (.seq (.reg [.o 1 (.box 3 true (.t 0)), .o 2 (.mv (.c (.b false)))] [0, 2]) (.seq (.seq (.reg [.o 3 (.fa 0 (.t 1)), .o 4 (.ld 1 false (.t 3))] [3]) (.blk 0 (.seq (.reg [.o 6 (.bin .eql .num (.t 4) (.c (.i .i64 0))), .o 5 (.mv (.t 6))] [6]) (.cond (.t 5) (.seq (.reg [.o 7 (.fa 2 (.t 1)), .o 8 (.ld 1 false (.t 7)), .o 9 (.bin .eql .str (.t 8) (.c (.s []))), .o 2 (.mv (.t 9))] [1, 4, 5, 7, 8, 9]) .ret) (.seq (.reg [.o 11 (.bin .eql .num (.t 4) (.c (.i .i64 1))), .o 10 (.mv (.t 11))] [5, 11]) (.cond (.t 10) (.seq (.reg [.o 12 (.fa 1 (.t 1)), .o 13 (.ld 1 false (.t 12)), .o 14 (.bin .eql .num (.t 13) (.c (.i .i64 0))), .o 15 (.mv (.t 14)), .op (some 16) (some (15, true)) (.fa 2 (.t 1)), .op (some 17) (some (15, true)) (.ld 1 false (.t 16)), .op (some 18) (some (15, true)) (.len true (.t 17)), .op (some 19) (some (15, true)) (.bin .leq .num (.t 18) (.c (.i .i64 255))), .o 20 (.pick (.t 15) (.t 19) (.c (.b false))), .o 2 (.mv (.t 20))] [1, 4, 10, 12, 13, 14, 15, 16, 17, 18, 19, 20]) .ret) (.seq (.reg [.o 22 (.bin .eql .num (.t 4) (.c (.i .i64 2))), .o 21 (.mv (.t 22))] [4, 10, 22]) (.cond (.t 21) (.seq (.reg [.o 23 (.fa 1 (.t 1)), .o 24 (.ld 1 false (.t 23)), .o 25 (.bin .eql .num (.t 24) (.c (.i .i64 0))), .o 26 (.mv (.t 25)), .op (some 27) (some (26, false)) (.fa 1 (.t 1)), .op (some 28) (some (26, false)) (.ld 1 false (.t 27)), .op (some 29) (some (26, false)) (.bin .eql .num (.t 28) (.c (.i .i64 1))), .o 30 (.pick (.t 26) (.c (.b true)) (.t 29)), .o 31 (.mv (.t 30)), .op (some 32) (some (31, true)) (.fa 2 (.t 1)), .op (some 33) (some (31, true)) (.ld 1 false (.t 32)), .op (some 34) (some (31, true)) (.bin .eql .str (.t 33) (.c (.s []))), .o 35 (.pick (.t 31) (.t 34) (.c (.b false))), .o 2 (.mv (.t 35))] [1, 21, 23, 24, 25, 26, 27, 28, 29, 30, 31, 32, 33, 34, 35]) .ret) .skip)))))))) (.seq (.reg [.o 2 (.mv (.c (.b false)))] [1, 21]) .ret)))
def d194 : Fn := { real := 194, np := 1, nt := 36, res := [.t 2], body := c194 }

/-- lineage/annotation.fitting$1 -/
def c195 : C :=
  (.seq (.reg [.o 3 (.box 4 true (.t 0)), .o 4 (.mv (.c (.b false)))] [0, 4]) (.seq (.reg [.o 5 (.fa 0 (.t 3)), .o 6 (.ld 3 true (.t 5)), .o 7 (.call 194 true [.t 6]), .o 8 (.un .not (.t 7)), .o 9 (.mv (.t 8)), .op (some 10) (some (9, false)) (.fa 0 (.t 3)), .op (some 11) (some (9, false)) (.fa 0 (.t 10)), .op (some 12) (some (9, false)) (.ld 1 false (.t 11)), .op (some 13) (some (9, false)) (.fa 0 (.t 1)), .op (some 14) (some (9, false)) (.ld 1 false (.t 13)), .op (some 15) (some (9, false)) (.bin .neq .num (.t 12) (.t 14)), .o 16 (.pick (.t 9) (.c (.b true)) (.t 15)), .o 17 (.mv (.t 16)), .op (some 18) (some (17, false)) (.ld 1 false (.t 2)), .op (some 19) (some (17, false)) (.bin .eql .num (.t 18) (.c (.i .i64 0))), .op (some 20) (some (17, false)) (.mv (.t 19)), .op (some 21) (some (20, true)) (.fa 0 (.t 3)), .op (some 22) (some (20, true)) (.fa 1 (.t 21)), .op (some 23) (some (20, true)) (.ld 1 false (.t 22)), .op (some 24) (some (20, true)) (.bin .neq .num (.t 23) (.c (.i .i64 1))), .op (some 25) (some (17, false)) (.pick (.t 20) (.t 24) (.c (.b false))), .o 26 (.pick (.t 17) (.c (.b true)) (.t 25)), .o 4 (.mv (.t 26))] [1, 2, 3, 5, 6, 7, 8, 9, 10, 11, 12, 13, 14, 15, 16, 17, 18, 19, 20, 21, 22, 23, 24, 25, 26]) .ret))
def d195 : Fn := { real := 195, np := 3, nt := 27, res := [.t 4], body := c195 }


/-- lineage/lineageref01.sign -/
def c197 : C :=
  (.seq (.reg [.o 2 (.mv (.c (.i .i64 0)))] [2]) (.seq (.seq (.reg [.o 3 (.mv (.t 0))] [0]) (.cond (.t 3) (.seq (.reg [.o 2 (.mv (.c (.i .i64 (-1))))] [3]) .ret) .skip)) (.seq (.reg [.o 2 (.mv (.c (.i .i64 1)))] [3]) .ret)))
def d197 : Fn := { real := 197, np := 1, nt := 4, res := [.t 2], body := c197 }

/-- slices.insertionSortCmpFunc[lineage/api.RowID] -/
def c198_0 : C :=
  .seq (.seq (.dreg [(0, .o 18 (.mv (.t 9))), (1, .o 19 (.mv (.t 1))), (2, .o 20 (.bin .gtr .num (.t 18) (.t 19))), (3, .o 21 (.mv (.t 20))), (4, .op (some 22) (some (21, true)) (.mv (.t 3))), (5, .op (some 23) (some (21, true)) (.mv (.t 0))), (6, .op (some 24) (some (21, true)) (.mv (.t 9))), (7, .op (some 25) (some (21, true)) (.ia 2 (.t 23) (.t 24))), (8, .op (some 26) (some (21, true)) (.ld 2 true (.t 25))), (9, .op (some 27) (some (21, true)) (.mv (.t 0))), (10, .op (some 28) (some (21, true)) (.mv (.t 9))), (11, .op (some 29) (some (21, true)) (.bin .sub .num (.t 28) (.c (.i .i64 1)))), (12, .op (some 30) (some (21, true)) (.ia 2 (.t 27) (.t 29))), (13, .op (some 31) (some (21, true)) (.ld 2 true (.t 30))), (14, .op (some 32) (some (21, true)) (.calld (.t 22) true [.t 26, .t 31])), (15, .op (some 33) (some (21, true)) (.bin .lss .num (.t 32) (.c (.i .i64 0)))), (16, .o 34 (.pick (.t 21) (.t 33) (.c (.b false))))] [18, 19, 20, 21, 22, 23, 24, 25, 26, 27, 28, 29, 30, 31, 32, 33]) (.cond (.t 34) .skip (.exit 2))) (.seq (.blk 3 (.dreg [(0, .o 37 (.mv (.t 0))), (1, .o 38 (.mv (.t 9))), (2, .o 39 (.mv (.t 0))), (3, .o 40 (.mv (.t 9))), (4, .o 41 (.bin .sub .num (.t 40) (.c (.i .i64 1)))), (5, .o 42 (.mv (.t 0))), (6, .o 43 (.mv (.t 9))), (7, .o 44 (.bin .sub .num (.t 43) (.c (.i .i64 1)))), (8, .o 45 (.ia 2 (.t 42) (.t 44))), (9, .o 46 (.ld 2 true (.t 45))), (10, .o 47 (.mv (.t 0))), (11, .o 48 (.mv (.t 9))), (12, .o 49 (.ia 2 (.t 47) (.t 48))), (13, .o 50 (.ld 2 true (.t 49))), (14, .o 51 (.ia 2 (.t 37) (.t 38))), (15, .op none none (.st 2 true (.t 51) (.t 46))), (16, .o 52 (.ia 2 (.t 39) (.t 41))), (17, .op none none (.st 2 true (.t 52) (.t 50)))] [34, 37, 38, 39, 40, 41, 42, 43, 44, 45, 46, 47, 48, 49, 50, 51, 52])) (.reg [.o 35 (.mv (.t 9)), .o 36 (.bin .sub .num (.t 35) (.c (.i .i64 1))), .o 9 (.mv (.t 36))] [35, 36]))
def c198_r0 : C :=
  .reg [.o 15 (.mv (.t 8)), .o 16 (.bin .add .num (.t 15) (.c (.i .i64 1))), .o 8 (.mv (.t 16))] [9, 15, 16, 34]
def c198_1 : C :=
  .seq (.seq (.reg [.o 12 (.mv (.t 8)), .o 13 (.mv (.t 2)), .o 14 (.bin .lss .num (.t 12) (.t 13))] [12, 13]) (.cond (.t 14) .skip (.exit 0))) (.seq (.blk 1 (.seq (.reg [.o 17 (.mv (.t 8)), .o 9 (.mv (.t 17))] [14, 17]) (.blk 2 (.loop [] c198_0)))) c198_r0)
def c198 : C :=
  (.seq (.reg [.o 10 (.mv (.t 1)), .o 11 (.bin .add .num (.t 10) (.c (.i .i64 1))), .o 8 (.mv (.t 11))] [10, 11]) (.blk 0 (.loop [] c198_1)))
def d198 : Fn := { real := 198, np := 4, nt := 53, res := [], body := c198 }

/-- slices.heapSortCmpFunc[lineage/api.RowID] -/
def c199_0 : C :=
  .seq (.seq (.reg [.o 32 (.mv (.t 12)), .o 33 (.bin .geq .num (.t 32) (.c (.i .i64 0)))] [32]) (.cond (.t 33) .skip (.exit 2))) (.seq (.blk 3 (.seq (.dreg [(0, .o 36 (.mv (.t 0))), (1, .o 37 (.mv (.t 8))), (2, .o 38 (.mv (.t 0))), (3, .o 39 (.mv (.t 8))), (4, .o 40 (.mv (.t 12))), (5, .o 41 (.bin .add .num (.t 39) (.t 40))), (6, .o 42 (.mv (.t 0))), (7, .o 43 (.mv (.t 8))), (8, .o 44 (.mv (.t 12))), (9, .o 45 (.bin .add .num (.t 43) (.t 44))), (10, .o 46 (.ia 2 (.t 42) (.t 45))), (11, .o 47 (.ld 2 true (.t 46))), (12, .o 48 (.mv (.t 0))), (13, .o 49 (.mv (.t 8))), (14, .o 50 (.ia 2 (.t 48) (.t 49))), (15, .o 51 (.ld 2 true (.t 50))), (16, .o 52 (.ia 2 (.t 36) (.t 37))), (17, .op none none (.st 2 true (.t 52) (.t 47))), (18, .o 53 (.ia 2 (.t 38) (.t 41))), (19, .op none none (.st 2 true (.t 53) (.t 51)))] [33, 36, 37, 38, 39, 40, 41, 42, 43, 44, 45, 46, 47, 48, 49, 50, 51, 52, 53]) (.reg [.o 54 (.mv (.t 0)), .o 55 (.mv (.t 9)), .o 56 (.mv (.t 12)), .o 57 (.mv (.t 8)), .o 58 (.mv (.t 3)), .o 59 (.call 216 false [.t 54, .t 55, .t 56, .t 57, .t 58])] [54, 55, 56, 57, 58, 59]))) (.reg [.o 34 (.mv (.t 12)), .o 35 (.bin .sub .num (.t 34) (.c (.i .i64 1))), .o 12 (.mv (.t 35))] [34, 35]))
def c199_1 : C :=
  .seq (.seq (.reg [.o 20 (.mv (.t 11)), .o 21 (.bin .geq .num (.t 20) (.c (.i .i64 0)))] [20]) (.cond (.t 21) .skip (.exit 0))) (.seq (.blk 1 (.reg [.o 24 (.mv (.t 0)), .o 25 (.mv (.t 11)), .o 26 (.mv (.t 10)), .o 27 (.mv (.t 8)), .o 28 (.mv (.t 3)), .o 29 (.call 216 false [.t 24, .t 25, .t 26, .t 27, .t 28])] [21, 24, 25, 26, 27, 28, 29])) (.reg [.o 22 (.mv (.t 11)), .o 23 (.bin .sub .num (.t 22) (.c (.i .i64 1))), .o 11 (.mv (.t 23))] [22, 23]))
def c199_r0 : C :=
  .seq (.reg [.o 30 (.mv (.t 10)), .o 31 (.bin .sub .num (.t 30) (.c (.i .i64 1))), .o 12 (.mv (.t 31))] [10, 11, 21, 30, 31]) (.blk 2 (.loop [] c199_0))
def c199 : C :=
  (.seq (.reg [.o 13 (.mv (.t 1)), .o 8 (.mv (.t 13))] [13]) (.seq (.reg [.o 9 (.mv (.c (.i .i64 0)))] []) (.seq (.reg [.o 14 (.mv (.t 2)), .o 15 (.mv (.t 1)), .o 16 (.bin .sub .num (.t 14) (.t 15)), .o 10 (.mv (.t 16))] [1, 2, 14, 15, 16]) (.seq (.seq (.reg [.o 17 (.mv (.t 10)), .o 18 (.bin .sub .num (.t 17) (.c (.i .i64 1))), .o 19 (.bin .quo .num (.t 18) (.c (.i .i64 2))), .o 11 (.mv (.t 19))] [17, 18, 19]) (.blk 0 (.loop [] c199_1))) c199_r0))))
def d199 : Fn := { real := 199, np := 4, nt := 60, res := [], body := c199 }

/-- slices.breakPatternsCmpFunc[lineage/api.RowID] -/
def c200_0 : C :=
  .seq (.seq (.reg [.o 28 (.mv (.t 11)), .o 29 (.mv (.t 1)), .o 30 (.mv (.t 8)), .o 31 (.bin .quo .num (.t 30) (.c (.i .i64 4))), .o 32 (.bin .mul .num (.t 31) (.c (.i .i64 2))), .o 33 (.bin .add .num (.t 29) (.t 32)), .o 34 (.bin .add .num (.t 33) (.c (.i .i64 1))), .o 35 (.bin .leq .num (.t 28) (.t 34))] [28, 29, 30, 31, 32, 33, 34]) (.cond (.t 35) .skip (.exit 0))) (.seq (.blk 1 (.seq (.reg [.o 38 (.call 218 false [.t 9]), .o 39 (.mv (.t 10)), .o 40 (.bin .sub .num (.t 39) (.c (.i .u64 1))), .o 41 (.bin .and .num (.t 38) (.t 40)), .o 42 (.conv .i64 (.t 41)), .o 12 (.mv (.t 42))] [35, 38, 39, 40, 41, 42]) (.seq (.seq (.reg [.o 43 (.mv (.t 12)), .o 44 (.mv (.t 8)), .o 45 (.bin .geq .num (.t 43) (.t 44))] [43, 44]) (.cond (.t 45) (.reg [.o 46 (.mv (.t 12)), .o 47 (.mv (.t 8)), .o 48 (.bin .sub .num (.t 46) (.t 47)), .o 12 (.mv (.t 48))] [45, 46, 47, 48]) .skip)) (.dreg [(0, .o 49 (.mv (.t 0))), (1, .o 50 (.mv (.t 11))), (2, .o 51 (.mv (.t 0))), (3, .o 52 (.mv (.t 1))), (4, .o 53 (.mv (.t 12))), (5, .o 54 (.bin .add .num (.t 52) (.t 53))), (6, .o 55 (.mv (.t 0))), (7, .o 56 (.mv (.t 1))), (8, .o 57 (.mv (.t 12))), (9, .o 58 (.bin .add .num (.t 56) (.t 57))), (10, .o 59 (.ia 2 (.t 55) (.t 58))), (11, .o 60 (.ld 2 true (.t 59))), (12, .o 61 (.mv (.t 0))), (13, .o 62 (.mv (.t 11))), (14, .o 63 (.ia 2 (.t 61) (.t 62))), (15, .o 64 (.ld 2 true (.t 63))), (16, .o 65 (.ia 2 (.t 49) (.t 50))), (17, .op none none (.st 2 true (.t 65) (.t 60))), (18, .o 66 (.ia 2 (.t 51) (.t 54))), (19, .op none none (.st 2 true (.t 66) (.t 64)))] [12, 45, 49, 50, 51, 52, 53, 54, 55, 56, 57, 58, 59, 60, 61, 62, 63, 64, 65, 66])))) (.reg [.o 36 (.mv (.t 11)), .o 37 (.bin .add .num (.t 36) (.c (.i .i64 1))), .o 11 (.mv (.t 37))] [36, 37]))
def c200 : C :=
  (.seq (.reg [.o 13 (.mv (.t 2)), .o 14 (.mv (.t 1)), .o 15 (.bin .sub .num (.t 13) (.t 14)), .o 8 (.mv (.t 15))] [2, 3, 13, 14, 15]) (.seq (.reg [.o 16 (.mv (.t 8)), .o 17 (.bin .geq .num (.t 16) (.c (.i .i64 8)))] [16]) (.cond (.t 17) (.seq (.reg [.o 18 (.mv (.t 8)), .o 19 (.conv .u64 (.t 18)), .o 9 (.alloc [.i .u64 0]), .op none none (.st 1 false (.t 9) (.t 19))] [17, 18, 19]) (.seq (.reg [.o 20 (.mv (.t 8)), .o 21 (.call 217 true [.t 20]), .o 10 (.mv (.t 21))] [20, 21]) (.seq (.reg [.o 22 (.mv (.t 1)), .o 23 (.mv (.t 8)), .o 24 (.bin .quo .num (.t 23) (.c (.i .i64 4))), .o 25 (.bin .mul .num (.t 24) (.c (.i .i64 2))), .o 26 (.bin .add .num (.t 22) (.t 25)), .o 27 (.bin .sub .num (.t 26) (.c (.i .i64 1))), .o 11 (.mv (.t 27))] [22, 23, 24, 25, 26, 27]) (.blk 0 (.loop [] c200_0))))) .skip)))
def d200 : Fn := { real := 200, np := 4, nt := 67, res := [], body := c200 }

/-- slices.choosePivotCmpFunc[lineage/api.RowID] -/
def c201 : C :=
  (.seq (.reg [.o 8 (.mv (.c (.i .i64 0))), .o 9 (.mv (.c (.i .i64 0)))] [8, 9]) (.seq (.reg [.o 15 (.mv (.t 2)), .o 16 (.mv (.t 1)), .o 17 (.bin .sub .num (.t 15) (.t 16)), .o 10 (.mv (.t 17))] [2, 15, 16, 17]) (.seq (.reg [.o 11 (.alloc [.i .i64 0])] []) (.seq (.reg [.o 18 (.mv (.t 1)), .o 19 (.mv (.t 10)), .o 20 (.bin .quo .num (.t 19) (.c (.i .i64 4))), .o 21 (.bin .mul .num (.t 20) (.c (.i .i64 1))), .o 22 (.bin .add .num (.t 18) (.t 21)), .o 12 (.mv (.t 22))] [18, 19, 20, 21, 22]) (.seq (.reg [.o 23 (.mv (.t 1)), .o 24 (.mv (.t 10)), .o 25 (.bin .quo .num (.t 24) (.c (.i .i64 4))), .o 26 (.bin .mul .num (.t 25) (.c (.i .i64 2))), .o 27 (.bin .add .num (.t 23) (.t 26)), .o 13 (.mv (.t 27))] [23, 24, 25, 26, 27]) (.seq (.reg [.o 28 (.mv (.t 1)), .o 29 (.mv (.t 10)), .o 30 (.bin .quo .num (.t 29) (.c (.i .i64 4))), .o 31 (.bin .mul .num (.t 30) (.c (.i .i64 3))), .o 32 (.bin .add .num (.t 28) (.t 31)), .o 14 (.mv (.t 32))] [1, 28, 29, 30, 31, 32]) (.seq (.seq (.reg [.o 33 (.mv (.t 10)), .o 34 (.bin .geq .num (.t 33) (.c (.i .i64 8)))] [33]) (.cond (.t 34) (.seq (.seq (.reg [.o 35 (.mv (.t 10)), .o 36 (.bin .geq .num (.t 35) (.c (.i .i64 50)))] [10, 34, 35]) (.cond (.t 36) (.seq (.reg [.o 37 (.mv (.t 0)), .o 38 (.mv (.t 12)), .o 39 (.mv (.t 3)), .o 40 (.call 219 false [.t 37, .t 38, .t 11, .t 39]), .o 12 (.mv (.t 40))] [36, 37, 38, 39, 40]) (.seq (.reg [.o 41 (.mv (.t 0)), .o 42 (.mv (.t 13)), .o 43 (.mv (.t 3)), .o 44 (.call 219 false [.t 41, .t 42, .t 11, .t 43]), .o 13 (.mv (.t 44))] [41, 42, 43, 44]) (.reg [.o 45 (.mv (.t 0)), .o 46 (.mv (.t 14)), .o 47 (.mv (.t 3)), .o 48 (.call 219 false [.t 45, .t 46, .t 11, .t 47]), .o 14 (.mv (.t 48))] [45, 46, 47, 48]))) .skip)) (.reg [.o 49 (.mv (.t 0)), .o 50 (.mv (.t 12)), .o 51 (.mv (.t 13)), .o 52 (.mv (.t 14)), .o 53 (.mv (.t 3)), .o 54 (.call 220 false [.t 49, .t 50, .t 51, .t 52, .t 11, .t 53]), .o 13 (.mv (.t 54))] [0, 3, 12, 14, 36, 49, 50, 51, 52, 53, 54])) .skip)) (.seq (.reg [.o 55 (.ld 1 false (.t 11))] [0, 3, 10, 11, 12, 14, 34]) (.blk 0 (.seq (.reg [.o 58 (.bin .eql .num (.t 55) (.c (.i .i64 0))), .o 57 (.mv (.t 58))] [58]) (.cond (.t 57) (.seq (.reg [.o 59 (.mv (.t 13)), .o 8 (.mv (.t 59)), .o 9 (.mv (.c (.i .i64 1)))] [13, 55, 57, 59]) .ret) (.seq (.reg [.o 61 (.bin .eql .num (.t 55) (.c (.i .i64 12))), .o 60 (.mv (.t 61))] [55, 57, 61]) (.cond (.t 60) (.seq (.reg [.o 62 (.mv (.t 13)), .o 8 (.mv (.t 62)), .o 9 (.mv (.c (.i .i64 2)))] [13, 60, 62]) .ret) (.seq (.reg [.o 56 (.mv (.t 13)), .o 8 (.mv (.t 56)), .o 9 (.mv (.c (.i .i64 0)))] [13, 56, 60]) .ret))))))))))))))
def d201 : Fn := { real := 201, np := 4, nt := 63, res := [.t 8, .t 9], body := c201 }

/-- slices.reverseRangeCmpFunc[lineage/api.RowID] -/
def c202_0 : C :=
  .seq (.seq (.reg [.o 13 (.mv (.t 8)), .o 14 (.mv (.t 9)), .o 15 (.bin .lss .num (.t 13) (.t 14))] [13, 14]) (.cond (.t 15) .skip (.exit 0))) (.blk 1 (.seq (.dreg [(0, .o 16 (.mv (.t 0))), (1, .o 17 (.mv (.t 8))), (2, .o 18 (.mv (.t 0))), (3, .o 19 (.mv (.t 9))), (4, .o 20 (.mv (.t 0))), (5, .o 21 (.mv (.t 9))), (6, .o 22 (.ia 2 (.t 20) (.t 21))), (7, .o 23 (.ld 2 true (.t 22))), (8, .o 24 (.mv (.t 0))), (9, .o 25 (.mv (.t 8))), (10, .o 26 (.ia 2 (.t 24) (.t 25))), (11, .o 27 (.ld 2 true (.t 26))), (12, .o 28 (.ia 2 (.t 16) (.t 17))), (13, .op none none (.st 2 true (.t 28) (.t 23))), (14, .o 29 (.ia 2 (.t 18) (.t 19))), (15, .op none none (.st 2 true (.t 29) (.t 27)))] [15, 16, 17, 18, 19, 20, 21, 22, 23, 24, 25, 26, 27, 28, 29]) (.seq (.reg [.o 30 (.mv (.t 8)), .o 31 (.bin .add .num (.t 30) (.c (.i .i64 1))), .o 8 (.mv (.t 31))] [30, 31]) (.reg [.o 32 (.mv (.t 9)), .o 33 (.bin .sub .num (.t 32) (.c (.i .i64 1))), .o 9 (.mv (.t 33))] [32, 33]))))
def c202 : C :=
  (.seq (.reg [.o 10 (.mv (.t 1)), .o 8 (.mv (.t 10))] [1, 3, 10]) (.seq (.reg [.o 11 (.mv (.t 2)), .o 12 (.bin .sub .num (.t 11) (.c (.i .i64 1))), .o 9 (.mv (.t 12))] [2, 11, 12]) (.blk 0 (.loop [] c202_0))))
def d202 : Fn := { real := 202, np := 4, nt := 34, res := [], body := c202 }

/-- slices.partialInsertionSortCmpFunc[lineage/api.RowID] -/
def c203_0 : C :=
  .seq (.seq (.reg [.o 107 (.mv (.t 12)), .o 108 (.mv (.t 2)), .o 109 (.bin .lss .num (.t 107) (.t 108))] [107, 108]) (.cond (.t 109) .skip (.exit 6))) (.seq (.blk 7 (.seq (.seq (.dreg [(0, .o 112 (.mv (.t 3))), (1, .o 113 (.mv (.t 0))), (2, .o 114 (.mv (.t 12))), (3, .o 115 (.ia 2 (.t 113) (.t 114))), (4, .o 116 (.ld 2 true (.t 115))), (5, .o 117 (.mv (.t 0))), (6, .o 118 (.mv (.t 12))), (7, .o 119 (.bin .sub .num (.t 118) (.c (.i .i64 1)))), (8, .o 120 (.ia 2 (.t 117) (.t 119))), (9, .o 121 (.ld 2 true (.t 120))), (10, .o 122 (.calld (.t 112) true [.t 116, .t 121])), (11, .o 123 (.bin .lss .num (.t 122) (.c (.i .i64 0)))), (12, .o 124 (.un .not (.t 123)))] [109, 112, 113, 114, 115, 116, 117, 118, 119, 120, 121, 122, 123]) (.cond (.t 124) (.exit 6) .skip)) (.dreg [(0, .o 125 (.mv (.t 0))), (1, .o 126 (.mv (.t 12))), (2, .o 127 (.mv (.t 0))), (3, .o 128 (.mv (.t 12))), (4, .o 129 (.bin .sub .num (.t 128) (.c (.i .i64 1)))), (5, .o 130 (.mv (.t 0))), (6, .o 131 (.mv (.t 12))), (7, .o 132 (.bin .sub .num (.t 131) (.c (.i .i64 1)))), (8, .o 133 (.ia 2 (.t 130) (.t 132))), (9, .o 134 (.ld 2 true (.t 133))), (10, .o 135 (.mv (.t 0))), (11, .o 136 (.mv (.t 12))), (12, .o 137 (.ia 2 (.t 135) (.t 136))), (13, .o 138 (.ld 2 true (.t 137))), (14, .o 139 (.ia 2 (.t 125) (.t 126))), (15, .op none none (.st 2 true (.t 139) (.t 134))), (16, .o 140 (.ia 2 (.t 127) (.t 129))), (17, .op none none (.st 2 true (.t 140) (.t 138)))] [124, 125, 126, 127, 128, 129, 130, 131, 132, 133, 134, 135, 136, 137, 138, 139, 140]))) (.reg [.o 110 (.mv (.t 12)), .o 111 (.bin .add .num (.t 110) (.c (.i .i64 1))), .o 12 (.mv (.t 111))] [110, 111]))
def c203_1 : C :=
  .seq (.seq (.reg [.o 68 (.mv (.t 11)), .o 69 (.bin .geq .num (.t 68) (.c (.i .i64 1)))] [68]) (.cond (.t 69) .skip (.exit 4))) (.seq (.blk 5 (.seq (.seq (.dreg [(0, .o 72 (.mv (.t 3))), (1, .o 73 (.mv (.t 0))), (2, .o 74 (.mv (.t 11))), (3, .o 75 (.ia 2 (.t 73) (.t 74))), (4, .o 76 (.ld 2 true (.t 75))), (5, .o 77 (.mv (.t 0))), (6, .o 78 (.mv (.t 11))), (7, .o 79 (.bin .sub .num (.t 78) (.c (.i .i64 1)))), (8, .o 80 (.ia 2 (.t 77) (.t 79))), (9, .o 81 (.ld 2 true (.t 80))), (10, .o 82 (.calld (.t 72) true [.t 76, .t 81])), (11, .o 83 (.bin .lss .num (.t 82) (.c (.i .i64 0)))), (12, .o 84 (.un .not (.t 83)))] [69, 72, 73, 74, 75, 76, 77, 78, 79, 80, 81, 82, 83]) (.cond (.t 84) (.exit 4) .skip)) (.dreg [(0, .o 85 (.mv (.t 0))), (1, .o 86 (.mv (.t 11))), (2, .o 87 (.mv (.t 0))), (3, .o 88 (.mv (.t 11))), (4, .o 89 (.bin .sub .num (.t 88) (.c (.i .i64 1)))), (5, .o 90 (.mv (.t 0))), (6, .o 91 (.mv (.t 11))), (7, .o 92 (.bin .sub .num (.t 91) (.c (.i .i64 1)))), (8, .o 93 (.ia 2 (.t 90) (.t 92))), (9, .o 94 (.ld 2 true (.t 93))), (10, .o 95 (.mv (.t 0))), (11, .o 96 (.mv (.t 11))), (12, .o 97 (.ia 2 (.t 95) (.t 96))), (13, .o 98 (.ld 2 true (.t 97))), (14, .o 99 (.ia 2 (.t 85) (.t 86))), (15, .op none none (.st 2 true (.t 99) (.t 94))), (16, .o 100 (.ia 2 (.t 87) (.t 89))), (17, .op none none (.st 2 true (.t 100) (.t 98)))] [84, 85, 86, 87, 88, 89, 90, 91, 92, 93, 94, 95, 96, 97, 98, 99, 100]))) (.reg [.o 70 (.mv (.t 11)), .o 71 (.bin .sub .num (.t 70) (.c (.i .i64 1))), .o 11 (.mv (.t 71))] [70, 71]))
def c203_2 : C :=
  .seq (.seq (.dreg [(0, .o 19 (.mv (.t 9))), (1, .o 20 (.mv (.t 2))), (2, .o 21 (.bin .lss .num (.t 19) (.t 20))), (3, .o 22 (.mv (.t 21))), (4, .op (some 23) (some (22, true)) (.mv (.t 3))), (5, .op (some 24) (some (22, true)) (.mv (.t 0))), (6, .op (some 25) (some (22, true)) (.mv (.t 9))), (7, .op (some 26) (some (22, true)) (.ia 2 (.t 24) (.t 25))), (8, .op (some 27) (some (22, true)) (.ld 2 true (.t 26))), (9, .op (some 28) (some (22, true)) (.mv (.t 0))), (10, .op (some 29) (some (22, true)) (.mv (.t 9))), (11, .op (some 30) (some (22, true)) (.bin .sub .num (.t 29) (.c (.i .i64 1)))), (12, .op (some 31) (some (22, true)) (.ia 2 (.t 28) (.t 30))), (13, .op (some 32) (some (22, true)) (.ld 2 true (.t 31))), (14, .op (some 33) (some (22, true)) (.calld (.t 23) true [.t 27, .t 32])), (15, .op (some 34) (some (22, true)) (.bin .lss .num (.t 33) (.c (.i .i64 0)))), (16, .op (some 35) (some (22, true)) (.un .not (.t 34))), (17, .o 36 (.pick (.t 22) (.t 35) (.c (.b false))))] [19, 20, 21, 22, 23, 24, 25, 26, 27, 28, 29, 30, 31, 32, 33, 34, 35]) (.cond (.t 36) .skip (.exit 2))) (.blk 3 (.reg [.o 37 (.mv (.t 9)), .o 38 (.bin .add .num (.t 37) (.c (.i .i64 1))), .o 9 (.mv (.t 38))] [36, 37, 38]))
def c203_r0 : C :=
  .seq (.reg [.o 101 (.mv (.t 2)), .o 102 (.mv (.t 9)), .o 103 (.bin .sub .num (.t 101) (.t 102)), .o 104 (.bin .geq .num (.t 103) (.c (.i .i64 2)))] [11, 65, 69, 84, 101, 102, 103]) (.cond (.t 104) (.seq (.reg [.o 105 (.mv (.t 9)), .o 106 (.bin .add .num (.t 105) (.c (.i .i64 1))), .o 12 (.mv (.t 106))] [104, 105, 106]) (.blk 6 (.loop [] c203_0))) .skip)
def c203_r1 : C :=
  .seq (.seq (.reg [.o 39 (.mv (.t 9)), .o 40 (.mv (.t 2)), .o 41 (.bin .eql .num (.t 39) (.t 40))] [36, 39, 40]) (.cond (.t 41) (.seq (.reg [.o 8 (.mv (.c (.b true)))] [0, 1, 2, 3, 9, 10, 41]) .ret) .skip)) (.seq (.seq (.reg [.o 42 (.mv (.t 2)), .o 43 (.mv (.t 1)), .o 44 (.bin .sub .num (.t 42) (.t 43)), .o 45 (.bin .lss .num (.t 44) (.c (.i .i64 50)))] [41, 42, 43, 44]) (.cond (.t 45) (.seq (.reg [.o 8 (.mv (.c (.b false)))] [0, 1, 2, 3, 9, 10, 45]) .ret) .skip)) (.seq (.dreg [(0, .o 46 (.mv (.t 0))), (1, .o 47 (.mv (.t 9))), (2, .o 48 (.mv (.t 0))), (3, .o 49 (.mv (.t 9))), (4, .o 50 (.bin .sub .num (.t 49) (.c (.i .i64 1)))), (5, .o 51 (.mv (.t 0))), (6, .o 52 (.mv (.t 9))), (7, .o 53 (.bin .sub .num (.t 52) (.c (.i .i64 1)))), (8, .o 54 (.ia 2 (.t 51) (.t 53))), (9, .o 55 (.ld 2 true (.t 54))), (10, .o 56 (.mv (.t 0))), (11, .o 57 (.mv (.t 9))), (12, .o 58 (.ia 2 (.t 56) (.t 57))), (13, .o 59 (.ld 2 true (.t 58))), (14, .o 60 (.ia 2 (.t 46) (.t 47))), (15, .op none none (.st 2 true (.t 60) (.t 55))), (16, .o 61 (.ia 2 (.t 48) (.t 50))), (17, .op none none (.st 2 true (.t 61) (.t 59)))] [45, 46, 47, 48, 49, 50, 51, 52, 53, 54, 55, 56, 57, 58, 59, 60, 61]) (.seq (.seq (.reg [.o 62 (.mv (.t 9)), .o 63 (.mv (.t 1)), .o 64 (.bin .sub .num (.t 62) (.t 63)), .o 65 (.bin .geq .num (.t 64) (.c (.i .i64 2)))] [62, 63, 64]) (.cond (.t 65) (.seq (.reg [.o 66 (.mv (.t 9)), .o 67 (.bin .sub .num (.t 66) (.c (.i .i64 1))), .o 11 (.mv (.t 67))] [65, 66, 67]) (.blk 4 (.loop [] c203_1))) .skip)) c203_r0)))
def c203_r2 : C :=
  .reg [.o 17 (.mv (.t 10)), .o 18 (.bin .add .num (.t 17) (.c (.i .i64 1))), .o 10 (.mv (.t 18))] [12, 17, 18, 104, 109, 124]
def c203_3 : C :=
  .seq (.seq (.reg [.o 15 (.mv (.t 10)), .o 16 (.bin .lss .num (.t 15) (.c (.i .i64 5)))] [15]) (.cond (.t 16) .skip (.exit 0))) (.seq (.blk 1 (.seq (.blk 2 (.loop [16] c203_2)) c203_r1)) c203_r2)
def c203_r3 : C :=
  .seq (.reg [.o 8 (.mv (.c (.b false)))] [0, 1, 2, 3, 9, 10, 16]) .ret
def c203 : C :=
  (.seq (.reg [.o 8 (.mv (.c (.b false)))] [8]) (.seq (.reg [.o 13 (.mv (.t 1)), .o 14 (.bin .add .num (.t 13) (.c (.i .i64 1))), .o 9 (.mv (.t 14))] [13, 14]) (.seq (.seq (.reg [.o 10 (.mv (.c (.i .i64 0)))] []) (.blk 0 (.loop [] c203_3))) c203_r3)))
def d203 : Fn := { real := 203, np := 4, nt := 141, res := [.t 8], body := c203 }

/-- slices.partitionEqualCmpFunc[lineage/api.RowID] -/
def c204_0 : C :=
  .seq (.seq (.dreg [(0, .o 50 (.mv (.t 11))), (1, .o 51 (.mv (.t 12))), (2, .o 52 (.bin .leq .num (.t 50) (.t 51))), (3, .o 53 (.mv (.t 52))), (4, .op (some 54) (some (53, true)) (.mv (.t 4))), (5, .op (some 55) (some (53, true)) (.mv (.t 0))), (6, .op (some 56) (some (53, true)) (.mv (.t 1))), (7, .op (some 57) (some (53, true)) (.ia 2 (.t 55) (.t 56))), (8, .op (some 58) (some (53, true)) (.ld 2 true (.t 57))), (9, .op (some 59) (some (53, true)) (.mv (.t 0))), (10, .op (some 60) (some (53, true)) (.mv (.t 12))), (11, .op (some 61) (some (53, true)) (.ia 2 (.t 59) (.t 60))), (12, .op (some 62) (some (53, true)) (.ld 2 true (.t 61))), (13, .op (some 63) (some (53, true)) (.calld (.t 54) true [.t 58, .t 62])), (14, .op (some 64) (some (53, true)) (.bin .lss .num (.t 63) (.c (.i .i64 0)))), (15, .o 65 (.pick (.t 53) (.t 64) (.c (.b false))))] [50, 51, 52, 53, 54, 55, 56, 57, 58, 59, 60, 61, 62, 63, 64]) (.cond (.t 65) .skip (.exit 4))) (.blk 5 (.reg [.o 66 (.mv (.t 12)), .o 67 (.bin .sub .num (.t 66) (.c (.i .i64 1))), .o 12 (.mv (.t 67))] [65, 66, 67]))
def c204_1 : C :=
  .seq (.seq (.dreg [(0, .o 31 (.mv (.t 11))), (1, .o 32 (.mv (.t 12))), (2, .o 33 (.bin .leq .num (.t 31) (.t 32))), (3, .o 34 (.mv (.t 33))), (4, .op (some 35) (some (34, true)) (.mv (.t 4))), (5, .op (some 36) (some (34, true)) (.mv (.t 0))), (6, .op (some 37) (some (34, true)) (.mv (.t 1))), (7, .op (some 38) (some (34, true)) (.ia 2 (.t 36) (.t 37))), (8, .op (some 39) (some (34, true)) (.ld 2 true (.t 38))), (9, .op (some 40) (some (34, true)) (.mv (.t 0))), (10, .op (some 41) (some (34, true)) (.mv (.t 11))), (11, .op (some 42) (some (34, true)) (.ia 2 (.t 40) (.t 41))), (12, .op (some 43) (some (34, true)) (.ld 2 true (.t 42))), (13, .op (some 44) (some (34, true)) (.calld (.t 35) true [.t 39, .t 43])), (14, .op (some 45) (some (34, true)) (.bin .lss .num (.t 44) (.c (.i .i64 0)))), (15, .op (some 46) (some (34, true)) (.un .not (.t 45))), (16, .o 47 (.pick (.t 34) (.t 46) (.c (.b false))))] [31, 32, 33, 34, 35, 36, 37, 38, 39, 40, 41, 42, 43, 44, 45, 46]) (.cond (.t 47) .skip (.exit 2))) (.blk 3 (.reg [.o 48 (.mv (.t 11)), .o 49 (.bin .add .num (.t 48) (.c (.i .i64 1))), .o 11 (.mv (.t 49))] [47, 48, 49]))
def c204_r0 : C :=
  .seq (.seq (.reg [.o 68 (.mv (.t 11)), .o 69 (.mv (.t 12)), .o 70 (.bin .gtr .num (.t 68) (.t 69))] [65, 68, 69]) (.cond (.t 70) (.exit 0) .skip)) (.seq (.dreg [(0, .o 71 (.mv (.t 0))), (1, .o 72 (.mv (.t 11))), (2, .o 73 (.mv (.t 0))), (3, .o 74 (.mv (.t 12))), (4, .o 75 (.mv (.t 0))), (5, .o 76 (.mv (.t 12))), (6, .o 77 (.ia 2 (.t 75) (.t 76))), (7, .o 78 (.ld 2 true (.t 77))), (8, .o 79 (.mv (.t 0))), (9, .o 80 (.mv (.t 11))), (10, .o 81 (.ia 2 (.t 79) (.t 80))), (11, .o 82 (.ld 2 true (.t 81))), (12, .o 83 (.ia 2 (.t 71) (.t 72))), (13, .op none none (.st 2 true (.t 83) (.t 78))), (14, .o 84 (.ia 2 (.t 73) (.t 74))), (15, .op none none (.st 2 true (.t 84) (.t 82)))] [70, 71, 72, 73, 74, 75, 76, 77, 78, 79, 80, 81, 82, 83, 84]) (.seq (.reg [.o 85 (.mv (.t 11)), .o 86 (.bin .add .num (.t 85) (.c (.i .i64 1))), .o 11 (.mv (.t 86))] [85, 86]) (.reg [.o 87 (.mv (.t 12)), .o 88 (.bin .sub .num (.t 87) (.c (.i .i64 1))), .o 12 (.mv (.t 88))] [87, 88])))
def c204_r1 : C :=
  .seq (.blk 4 (.loop [47] c204_0)) c204_r0
def c204_2 : C :=
  .blk 1 (.seq (.blk 2 (.loop [] c204_1)) c204_r1)
def c204_r2 : C :=
  .seq (.reg [.o 89 (.mv (.t 11)), .o 10 (.mv (.t 89))] [0, 1, 4, 11, 12, 70, 89]) .ret
def c204 : C :=
  (.seq (.reg [.o 10 (.mv (.c (.i .i64 0)))] [10]) (.seq (.dreg [(0, .o 13 (.mv (.t 0))), (1, .o 14 (.mv (.t 1))), (2, .o 15 (.mv (.t 0))), (3, .o 16 (.mv (.t 3))), (4, .o 17 (.mv (.t 0))), (5, .o 18 (.mv (.t 3))), (6, .o 19 (.ia 2 (.t 17) (.t 18))), (7, .o 20 (.ld 2 true (.t 19))), (8, .o 21 (.mv (.t 0))), (9, .o 22 (.mv (.t 1))), (10, .o 23 (.ia 2 (.t 21) (.t 22))), (11, .o 24 (.ld 2 true (.t 23))), (12, .o 25 (.ia 2 (.t 13) (.t 14))), (13, .op none none (.st 2 true (.t 25) (.t 20))), (14, .o 26 (.ia 2 (.t 15) (.t 16))), (15, .op none none (.st 2 true (.t 26) (.t 24)))] [3, 13, 14, 15, 16, 17, 18, 19, 20, 21, 22, 23, 24, 25, 26]) (.seq (.reg [.o 27 (.mv (.t 1)), .o 28 (.bin .add .num (.t 27) (.c (.i .i64 1))), .o 29 (.mv (.t 2)), .o 30 (.bin .sub .num (.t 29) (.c (.i .i64 1))), .o 11 (.mv (.t 28)), .o 12 (.mv (.t 30))] [2, 27, 28, 29, 30]) (.seq (.blk 0 (.loop [] c204_2)) c204_r2))))
def d204 : Fn := { real := 204, np := 5, nt := 90, res := [.t 10], body := c204 }

/-- slices.partitionCmpFunc[lineage/api.RowID] -/
def c205_0 : C :=
  .seq (.seq (.dreg [(0, .o 123 (.mv (.t 12))), (1, .o 124 (.mv (.t 13))), (2, .o 125 (.bin .leq .num (.t 123) (.t 124))), (3, .o 126 (.mv (.t 125))), (4, .op (some 127) (some (126, true)) (.mv (.t 4))), (5, .op (some 128) (some (126, true)) (.mv (.t 0))), (6, .op (some 129) (some (126, true)) (.mv (.t 13))), (7, .op (some 130) (some (126, true)) (.ia 2 (.t 128) (.t 129))), (8, .op (some 131) (some (126, true)) (.ld 2 true (.t 130))), (9, .op (some 132) (some (126, true)) (.mv (.t 0))), (10, .op (some 133) (some (126, true)) (.mv (.t 1))), (11, .op (some 134) (some (126, true)) (.ia 2 (.t 132) (.t 133))), (12, .op (some 135) (some (126, true)) (.ld 2 true (.t 134))), (13, .op (some 136) (some (126, true)) (.calld (.t 127) true [.t 131, .t 135])), (14, .op (some 137) (some (126, true)) (.bin .lss .num (.t 136) (.c (.i .i64 0)))), (15, .op (some 138) (some (126, true)) (.un .not (.t 137))), (16, .o 139 (.pick (.t 126) (.t 138) (.c (.b false))))] [123, 124, 125, 126, 127, 128, 129, 130, 131, 132, 133, 134, 135, 136, 137, 138]) (.cond (.t 139) .skip (.exit 8))) (.blk 9 (.reg [.o 140 (.mv (.t 13)), .o 141 (.bin .sub .num (.t 140) (.c (.i .i64 1))), .o 13 (.mv (.t 141))] [139, 140, 141]))
def c205_1 : C :=
  .seq (.seq (.dreg [(0, .o 105 (.mv (.t 12))), (1, .o 106 (.mv (.t 13))), (2, .o 107 (.bin .leq .num (.t 105) (.t 106))), (3, .o 108 (.mv (.t 107))), (4, .op (some 109) (some (108, true)) (.mv (.t 4))), (5, .op (some 110) (some (108, true)) (.mv (.t 0))), (6, .op (some 111) (some (108, true)) (.mv (.t 12))), (7, .op (some 112) (some (108, true)) (.ia 2 (.t 110) (.t 111))), (8, .op (some 113) (some (108, true)) (.ld 2 true (.t 112))), (9, .op (some 114) (some (108, true)) (.mv (.t 0))), (10, .op (some 115) (some (108, true)) (.mv (.t 1))), (11, .op (some 116) (some (108, true)) (.ia 2 (.t 114) (.t 115))), (12, .op (some 117) (some (108, true)) (.ld 2 true (.t 116))), (13, .op (some 118) (some (108, true)) (.calld (.t 109) true [.t 113, .t 117])), (14, .op (some 119) (some (108, true)) (.bin .lss .num (.t 118) (.c (.i .i64 0)))), (15, .o 120 (.pick (.t 108) (.t 119) (.c (.b false))))] [105, 106, 107, 108, 109, 110, 111, 112, 113, 114, 115, 116, 117, 118, 119]) (.cond (.t 120) .skip (.exit 6))) (.blk 7 (.reg [.o 121 (.mv (.t 12)), .o 122 (.bin .add .num (.t 121) (.c (.i .i64 1))), .o 12 (.mv (.t 122))] [120, 121, 122]))
def c205_r0 : C :=
  .seq (.seq (.reg [.o 142 (.mv (.t 12)), .o 143 (.mv (.t 13)), .o 144 (.bin .gtr .num (.t 142) (.t 143))] [139, 142, 143]) (.cond (.t 144) (.exit 4) .skip)) (.seq (.dreg [(0, .o 145 (.mv (.t 0))), (1, .o 146 (.mv (.t 12))), (2, .o 147 (.mv (.t 0))), (3, .o 148 (.mv (.t 13))), (4, .o 149 (.mv (.t 0))), (5, .o 150 (.mv (.t 13))), (6, .o 151 (.ia 2 (.t 149) (.t 150))), (7, .o 152 (.ld 2 true (.t 151))), (8, .o 153 (.mv (.t 0))), (9, .o 154 (.mv (.t 12))), (10, .o 155 (.ia 2 (.t 153) (.t 154))), (11, .o 156 (.ld 2 true (.t 155))), (12, .o 157 (.ia 2 (.t 145) (.t 146))), (13, .op none none (.st 2 true (.t 157) (.t 152))), (14, .o 158 (.ia 2 (.t 147) (.t 148))), (15, .op none none (.st 2 true (.t 158) (.t 156)))] [144, 145, 146, 147, 148, 149, 150, 151, 152, 153, 154, 155, 156, 157, 158]) (.seq (.reg [.o 159 (.mv (.t 12)), .o 160 (.bin .add .num (.t 159) (.c (.i .i64 1))), .o 12 (.mv (.t 160))] [159, 160]) (.reg [.o 161 (.mv (.t 13)), .o 162 (.bin .sub .num (.t 161) (.c (.i .i64 1))), .o 13 (.mv (.t 162))] [161, 162])))
def c205_r1 : C :=
  .seq (.blk 8 (.loop [120] c205_0)) c205_r0
def c205_2 : C :=
  .blk 5 (.seq (.blk 6 (.loop [] c205_1)) c205_r1)
def c205_3 : C :=
  .seq (.seq (.dreg [(0, .o 50 (.mv (.t 12))), (1, .o 51 (.mv (.t 13))), (2, .o 52 (.bin .leq .num (.t 50) (.t 51))), (3, .o 53 (.mv (.t 52))), (4, .op (some 54) (some (53, true)) (.mv (.t 4))), (5, .op (some 55) (some (53, true)) (.mv (.t 0))), (6, .op (some 56) (some (53, true)) (.mv (.t 13))), (7, .op (some 57) (some (53, true)) (.ia 2 (.t 55) (.t 56))), (8, .op (some 58) (some (53, true)) (.ld 2 true (.t 57))), (9, .op (some 59) (some (53, true)) (.mv (.t 0))), (10, .op (some 60) (some (53, true)) (.mv (.t 1))), (11, .op (some 61) (some (53, true)) (.ia 2 (.t 59) (.t 60))), (12, .op (some 62) (some (53, true)) (.ld 2 true (.t 61))), (13, .op (some 63) (some (53, true)) (.calld (.t 54) true [.t 58, .t 62])), (14, .op (some 64) (some (53, true)) (.bin .lss .num (.t 63) (.c (.i .i64 0)))), (15, .op (some 65) (some (53, true)) (.un .not (.t 64))), (16, .o 66 (.pick (.t 53) (.t 65) (.c (.b false))))] [50, 51, 52, 53, 54, 55, 56, 57, 58, 59, 60, 61, 62, 63, 64, 65]) (.cond (.t 66) .skip (.exit 2))) (.blk 3 (.reg [.o 67 (.mv (.t 13)), .o 68 (.bin .sub .num (.t 67) (.c (.i .i64 1))), .o 13 (.mv (.t 68))] [66, 67, 68]))
def c205_4 : C :=
  .seq (.seq (.dreg [(0, .o 32 (.mv (.t 12))), (1, .o 33 (.mv (.t 13))), (2, .o 34 (.bin .leq .num (.t 32) (.t 33))), (3, .o 35 (.mv (.t 34))), (4, .op (some 36) (some (35, true)) (.mv (.t 4))), (5, .op (some 37) (some (35, true)) (.mv (.t 0))), (6, .op (some 38) (some (35, true)) (.mv (.t 12))), (7, .op (some 39) (some (35, true)) (.ia 2 (.t 37) (.t 38))), (8, .op (some 40) (some (35, true)) (.ld 2 true (.t 39))), (9, .op (some 41) (some (35, true)) (.mv (.t 0))), (10, .op (some 42) (some (35, true)) (.mv (.t 1))), (11, .op (some 43) (some (35, true)) (.ia 2 (.t 41) (.t 42))), (12, .op (some 44) (some (35, true)) (.ld 2 true (.t 43))), (13, .op (some 45) (some (35, true)) (.calld (.t 36) true [.t 40, .t 44])), (14, .op (some 46) (some (35, true)) (.bin .lss .num (.t 45) (.c (.i .i64 0)))), (15, .o 47 (.pick (.t 35) (.t 46) (.c (.b false))))] [32, 33, 34, 35, 36, 37, 38, 39, 40, 41, 42, 43, 44, 45, 46]) (.cond (.t 47) .skip (.exit 0))) (.blk 1 (.reg [.o 48 (.mv (.t 12)), .o 49 (.bin .add .num (.t 48) (.c (.i .i64 1))), .o 12 (.mv (.t 49))] [47, 48, 49]))
def c205_r2 : C :=
  .seq (.dreg [(0, .o 163 (.mv (.t 0))), (1, .o 164 (.mv (.t 13))), (2, .o 165 (.mv (.t 0))), (3, .o 166 (.mv (.t 1))), (4, .o 167 (.mv (.t 0))), (5, .o 168 (.mv (.t 1))), (6, .o 169 (.ia 2 (.t 167) (.t 168))), (7, .o 170 (.ld 2 true (.t 169))), (8, .o 171 (.mv (.t 0))), (9, .o 172 (.mv (.t 13))), (10, .o 173 (.ia 2 (.t 171) (.t 172))), (11, .o 174 (.ld 2 true (.t 173))), (12, .o 175 (.ia 2 (.t 163) (.t 164))), (13, .op none none (.st 2 true (.t 175) (.t 170))), (14, .o 176 (.ia 2 (.t 165) (.t 166))), (15, .op none none (.st 2 true (.t 176) (.t 174)))] [0, 1, 4, 12, 144, 163, 164, 165, 166, 167, 168, 169, 170, 171, 172, 173, 174, 175, 176]) (.seq (.reg [.o 177 (.mv (.t 13)), .o 10 (.mv (.t 177)), .o 11 (.mv (.c (.b false)))] [13, 177]) .ret)
def c205_r3 : C :=
  .seq (.seq (.reg [.o 69 (.mv (.t 12)), .o 70 (.mv (.t 13)), .o 71 (.bin .gtr .num (.t 69) (.t 70))] [66, 69, 70]) (.cond (.t 71) (.seq (.dreg [(0, .o 72 (.mv (.t 0))), (1, .o 73 (.mv (.t 13))), (2, .o 74 (.mv (.t 0))), (3, .o 75 (.mv (.t 1))), (4, .o 76 (.mv (.t 0))), (5, .o 77 (.mv (.t 1))), (6, .o 78 (.ia 2 (.t 76) (.t 77))), (7, .o 79 (.ld 2 true (.t 78))), (8, .o 80 (.mv (.t 0))), (9, .o 81 (.mv (.t 13))), (10, .o 82 (.ia 2 (.t 80) (.t 81))), (11, .o 83 (.ld 2 true (.t 82))), (12, .o 84 (.ia 2 (.t 72) (.t 73))), (13, .op none none (.st 2 true (.t 84) (.t 79))), (14, .o 85 (.ia 2 (.t 74) (.t 75))), (15, .op none none (.st 2 true (.t 85) (.t 83)))] [0, 1, 4, 12, 71, 72, 73, 74, 75, 76, 77, 78, 79, 80, 81, 82, 83, 84, 85]) (.seq (.reg [.o 86 (.mv (.t 13)), .o 10 (.mv (.t 86)), .o 11 (.mv (.c (.b true)))] [13, 86]) .ret)) .skip)) (.seq (.dreg [(0, .o 87 (.mv (.t 0))), (1, .o 88 (.mv (.t 12))), (2, .o 89 (.mv (.t 0))), (3, .o 90 (.mv (.t 13))), (4, .o 91 (.mv (.t 0))), (5, .o 92 (.mv (.t 13))), (6, .o 93 (.ia 2 (.t 91) (.t 92))), (7, .o 94 (.ld 2 true (.t 93))), (8, .o 95 (.mv (.t 0))), (9, .o 96 (.mv (.t 12))), (10, .o 97 (.ia 2 (.t 95) (.t 96))), (11, .o 98 (.ld 2 true (.t 97))), (12, .o 99 (.ia 2 (.t 87) (.t 88))), (13, .op none none (.st 2 true (.t 99) (.t 94))), (14, .o 100 (.ia 2 (.t 89) (.t 90))), (15, .op none none (.st 2 true (.t 100) (.t 98)))] [71, 87, 88, 89, 90, 91, 92, 93, 94, 95, 96, 97, 98, 99, 100]) (.seq (.reg [.o 101 (.mv (.t 12)), .o 102 (.bin .add .num (.t 101) (.c (.i .i64 1))), .o 12 (.mv (.t 102))] [101, 102]) (.seq (.reg [.o 103 (.mv (.t 13)), .o 104 (.bin .sub .num (.t 103) (.c (.i .i64 1))), .o 13 (.mv (.t 104))] [103, 104]) (.seq (.blk 4 (.loop [] c205_2)) c205_r2))))
def c205_r4 : C :=
  .seq (.blk 2 (.loop [47] c205_3)) c205_r3
def c205 : C :=
  (.seq (.reg [.o 10 (.mv (.c (.i .i64 0))), .o 11 (.mv (.c (.b false)))] [10, 11]) (.seq (.dreg [(0, .o 14 (.mv (.t 0))), (1, .o 15 (.mv (.t 1))), (2, .o 16 (.mv (.t 0))), (3, .o 17 (.mv (.t 3))), (4, .o 18 (.mv (.t 0))), (5, .o 19 (.mv (.t 3))), (6, .o 20 (.ia 2 (.t 18) (.t 19))), (7, .o 21 (.ld 2 true (.t 20))), (8, .o 22 (.mv (.t 0))), (9, .o 23 (.mv (.t 1))), (10, .o 24 (.ia 2 (.t 22) (.t 23))), (11, .o 25 (.ld 2 true (.t 24))), (12, .o 26 (.ia 2 (.t 14) (.t 15))), (13, .op none none (.st 2 true (.t 26) (.t 21))), (14, .o 27 (.ia 2 (.t 16) (.t 17))), (15, .op none none (.st 2 true (.t 27) (.t 25)))] [3, 14, 15, 16, 17, 18, 19, 20, 21, 22, 23, 24, 25, 26, 27]) (.seq (.reg [.o 28 (.mv (.t 1)), .o 29 (.bin .add .num (.t 28) (.c (.i .i64 1))), .o 30 (.mv (.t 2)), .o 31 (.bin .sub .num (.t 30) (.c (.i .i64 1))), .o 12 (.mv (.t 29)), .o 13 (.mv (.t 31))] [2, 28, 29, 30, 31]) (.seq (.blk 0 (.loop [] c205_4)) c205_r4))))
def d205 : Fn := { real := 205, np := 5, nt := 178, res := [.t 10, .t 11], body := c205 }

/-- math/bits.Len32 -/
def c206 : C :=
  (.seq (.reg [.o 2 (.mv (.c (.i .i64 0)))] []) (.seq (.seq (.reg [.o 3 (.mv (.t 0)), .o 4 (.bin .geq .num (.t 3) (.c (.i .u32 65536)))] [3]) (.cond (.t 4) (.seq (.reg [.o 5 (.mv (.t 0)), .o 6 (.bin .shr .num (.t 5) (.c (.i .u64 16))), .o 0 (.mv (.t 6))] [2, 4, 5, 6]) (.reg [.o 2 (.mv (.c (.i .i64 16)))] [])) .skip)) (.seq (.seq (.reg [.o 7 (.mv (.t 0)), .o 8 (.bin .geq .num (.t 7) (.c (.i .u32 256)))] [4, 7]) (.cond (.t 8) (.seq (.reg [.o 9 (.mv (.t 0)), .o 10 (.bin .shr .num (.t 9) (.c (.i .u64 8))), .o 0 (.mv (.t 10))] [8, 9, 10]) (.reg [.o 11 (.mv (.t 2)), .o 12 (.bin .add .num (.t 11) (.c (.i .i64 8))), .o 2 (.mv (.t 12))] [11, 12])) .skip)) (.seq (.reg [.o 13 (.mv (.t 2)), .o 14 (.mv (.t 0)), .o 15 (.conv .u8 (.t 14)), .o 16 (.ixs (.c (.s [0, 1, 2, 2, 3, 3, 3, 3, 4, 4, 4, 4, 4, 4, 4, 4, 5, 5, 5, 5, 5, 5, 5, 5, 5, 5, 5, 5, 5, 5, 5, 5, 6, 6, 6, 6, 6, 6, 6, 6, 6, 6, 6, 6, 6, 6, 6, 6, 6, 6, 6, 6, 6, 6, 6, 6, 6, 6, 6, 6, 6, 6, 6, 6, 7, 7, 7, 7, 7, 7, 7, 7, 7, 7, 7, 7, 7, 7, 7, 7, 7, 7, 7, 7, 7, 7, 7, 7, 7, 7, 7, 7, 7, 7, 7, 7, 7, 7, 7, 7, 7, 7, 7, 7, 7, 7, 7, 7, 7, 7, 7, 7, 7, 7, 7, 7, 7, 7, 7, 7, 7, 7, 7, 7, 7, 7, 7, 7, 8, 8, 8, 8, 8, 8, 8, 8, 8, 8, 8, 8, 8, 8, 8, 8, 8, 8, 8, 8, 8, 8, 8, 8, 8, 8, 8, 8, 8, 8, 8, 8, 8, 8, 8, 8, 8, 8, 8, 8, 8, 8, 8, 8, 8, 8, 8, 8, 8, 8, 8, 8, 8, 8, 8, 8, 8, 8, 8, 8, 8, 8, 8, 8, 8, 8, 8, 8, 8, 8, 8, 8, 8, 8, 8, 8, 8, 8, 8, 8, 8, 8, 8, 8, 8, 8, 8, 8, 8, 8, 8, 8, 8, 8, 8, 8, 8, 8, 8, 8, 8, 8, 8, 8, 8, 8, 8, 8, 8, 8, 8, 8, 8, 8, 8, 8, 8, 8, 8, 8, 8, 8, 8, 8, 8, 8, 8, 8])) (.t 15)), .o 17 (.conv .i64 (.t 16)), .o 18 (.bin .add .num (.t 13) (.t 17)), .o 2 (.mv (.t 18))] [0, 8, 13, 14, 15, 16, 17, 18]) .ret))))
def d206 : Fn := { real := 206, np := 1, nt := 19, res := [.t 2], body := c206 }

/-- math/bits.Len64 -/
def c207 : C :=
  (.seq (.reg [.o 2 (.mv (.c (.i .i64 0)))] []) (.seq (.seq (.reg [.o 3 (.mv (.t 0)), .o 4 (.bin .geq .num (.t 3) (.c (.i .u64 4294967296)))] [3]) (.cond (.t 4) (.seq (.reg [.o 5 (.mv (.t 0)), .o 6 (.bin .shr .num (.t 5) (.c (.i .u64 32))), .o 0 (.mv (.t 6))] [2, 4, 5, 6]) (.reg [.o 2 (.mv (.c (.i .i64 32)))] [])) .skip)) (.seq (.seq (.reg [.o 7 (.mv (.t 0)), .o 8 (.bin .geq .num (.t 7) (.c (.i .u64 65536)))] [4, 7]) (.cond (.t 8) (.seq (.reg [.o 9 (.mv (.t 0)), .o 10 (.bin .shr .num (.t 9) (.c (.i .u64 16))), .o 0 (.mv (.t 10))] [8, 9, 10]) (.reg [.o 11 (.mv (.t 2)), .o 12 (.bin .add .num (.t 11) (.c (.i .i64 16))), .o 2 (.mv (.t 12))] [11, 12])) .skip)) (.seq (.seq (.reg [.o 13 (.mv (.t 0)), .o 14 (.bin .geq .num (.t 13) (.c (.i .u64 256)))] [8, 13]) (.cond (.t 14) (.seq (.reg [.o 15 (.mv (.t 0)), .o 16 (.bin .shr .num (.t 15) (.c (.i .u64 8))), .o 0 (.mv (.t 16))] [14, 15, 16]) (.reg [.o 17 (.mv (.t 2)), .o 18 (.bin .add .num (.t 17) (.c (.i .i64 8))), .o 2 (.mv (.t 18))] [17, 18])) .skip)) (.seq (.reg [.o 19 (.mv (.t 2)), .o 20 (.mv (.t 0)), .o 21 (.conv .u8 (.t 20)), .o 22 (.ixs (.c (.s [0, 1, 2, 2, 3, 3, 3, 3, 4, 4, 4, 4, 4, 4, 4, 4, 5, 5, 5, 5, 5, 5, 5, 5, 5, 5, 5, 5, 5, 5, 5, 5, 6, 6, 6, 6, 6, 6, 6, 6, 6, 6, 6, 6, 6, 6, 6, 6, 6, 6, 6, 6, 6, 6, 6, 6, 6, 6, 6, 6, 6, 6, 6, 6, 7, 7, 7, 7, 7, 7, 7, 7, 7, 7, 7, 7, 7, 7, 7, 7, 7, 7, 7, 7, 7, 7, 7, 7, 7, 7, 7, 7, 7, 7, 7, 7, 7, 7, 7, 7, 7, 7, 7, 7, 7, 7, 7, 7, 7, 7, 7, 7, 7, 7, 7, 7, 7, 7, 7, 7, 7, 7, 7, 7, 7, 7, 7, 7, 8, 8, 8, 8, 8, 8, 8, 8, 8, 8, 8, 8, 8, 8, 8, 8, 8, 8, 8, 8, 8, 8, 8, 8, 8, 8, 8, 8, 8, 8, 8, 8, 8, 8, 8, 8, 8, 8, 8, 8, 8, 8, 8, 8, 8, 8, 8, 8, 8, 8, 8, 8, 8, 8, 8, 8, 8, 8, 8, 8, 8, 8, 8, 8, 8, 8, 8, 8, 8, 8, 8, 8, 8, 8, 8, 8, 8, 8, 8, 8, 8, 8, 8, 8, 8, 8, 8, 8, 8, 8, 8, 8, 8, 8, 8, 8, 8, 8, 8, 8, 8, 8, 8, 8, 8, 8, 8, 8, 8, 8, 8, 8, 8, 8, 8, 8, 8, 8, 8, 8, 8, 8, 8, 8, 8, 8, 8, 8])) (.t 21)), .o 23 (.conv .i64 (.t 22)), .o 24 (.bin .add .num (.t 19) (.t 23)), .o 2 (.mv (.t 24))] [0, 14, 19, 20, 21, 22, 23, 24]) .ret)))))
def d207 : Fn := { real := 207, np := 1, nt := 25, res := [.t 2], body := c207 }

/-- cmp.isNaN[int64] -/
def c214 : C :=
  (.seq (.reg [.o 2 (.mv (.c (.b false)))] [2]) (.seq (.reg [.o 3 (.mv (.t 0)), .o 4 (.mv (.t 0)), .o 5 (.bin .neq .num (.t 3) (.t 4)), .o 2 (.mv (.t 5))] [0, 3, 4, 5]) .ret))
def d214 : Fn := { real := 214, np := 1, nt := 6, res := [.t 2], body := c214 }

/-- internal/bytealg.CompareString -/
def c215 : C :=
  (.seq (.reg [.o 4 (.mv (.c (.i .i64 0)))] [4]) (.seq (.reg [.o 5 (.mv (.t 0)), .o 6 (.mv (.t 1)), .o 7 (.cmps (.t 5) (.t 6)), .o 4 (.mv (.t 7))] [0, 1, 5, 6, 7]) .ret))
def d215 : Fn := { real := 215, np := 2, nt := 8, res := [.t 4], body := c215 }

/-- slices.siftDownCmpFunc[lineage/api.RowID] -/
def c216_0 : C :=
  .blk 1 (.seq (.reg [.o 13 (.mv (.t 10)), .o 14 (.bin .mul .num (.c (.i .i64 2)) (.t 13)), .o 15 (.bin .add .num (.t 14) (.c (.i .i64 1))), .o 11 (.mv (.t 15))] [13, 14, 15]) (.seq (.seq (.reg [.o 16 (.mv (.t 11)), .o 17 (.mv (.t 2)), .o 18 (.bin .geq .num (.t 16) (.t 17))] [16, 17]) (.cond (.t 18) (.exit 0) .skip)) (.seq (.seq (.dreg [(0, .o 19 (.mv (.t 11))), (1, .o 20 (.bin .add .num (.t 19) (.c (.i .i64 1)))), (2, .o 21 (.mv (.t 2))), (3, .o 22 (.bin .lss .num (.t 20) (.t 21))), (4, .o 23 (.mv (.t 22))), (5, .op (some 24) (some (23, true)) (.mv (.t 4))), (6, .op (some 25) (some (23, true)) (.mv (.t 0))), (7, .op (some 26) (some (23, true)) (.mv (.t 3))), (8, .op (some 27) (some (23, true)) (.mv (.t 11))), (9, .op (some 28) (some (23, true)) (.bin .add .num (.t 26) (.t 27))), (10, .op (some 29) (some (23, true)) (.ia 2 (.t 25) (.t 28))), (11, .op (some 30) (some (23, true)) (.ld 2 true (.t 29))), (12, .op (some 31) (some (23, true)) (.mv (.t 0))), (13, .op (some 32) (some (23, true)) (.mv (.t 3))), (14, .op (some 33) (some (23, true)) (.mv (.t 11))), (15, .op (some 34) (some (23, true)) (.bin .add .num (.t 32) (.t 33))), (16, .op (some 35) (some (23, true)) (.bin .add .num (.t 34) (.c (.i .i64 1)))), (17, .op (some 36) (some (23, true)) (.ia 2 (.t 31) (.t 35))), (18, .op (some 37) (some (23, true)) (.ld 2 true (.t 36))), (19, .op (some 38) (some (23, true)) (.calld (.t 24) true [.t 30, .t 37])), (20, .op (some 39) (some (23, true)) (.bin .lss .num (.t 38) (.c (.i .i64 0)))), (21, .o 40 (.pick (.t 23) (.t 39) (.c (.b false))))] [18, 19, 20, 21, 22, 23, 24, 25, 26, 27, 28, 29, 30, 31, 32, 33, 34, 35, 36, 37, 38, 39]) (.cond (.t 40) (.reg [.o 41 (.mv (.t 11)), .o 42 (.bin .add .num (.t 41) (.c (.i .i64 1))), .o 11 (.mv (.t 42))] [40, 41, 42]) .skip)) (.seq (.seq (.dreg [(0, .o 43 (.mv (.t 4))), (1, .o 44 (.mv (.t 0))), (2, .o 45 (.mv (.t 3))), (3, .o 46 (.mv (.t 10))), (4, .o 47 (.bin .add .num (.t 45) (.t 46))), (5, .o 48 (.ia 2 (.t 44) (.t 47))), (6, .o 49 (.ld 2 true (.t 48))), (7, .o 50 (.mv (.t 0))), (8, .o 51 (.mv (.t 3))), (9, .o 52 (.mv (.t 11))), (10, .o 53 (.bin .add .num (.t 51) (.t 52))), (11, .o 54 (.ia 2 (.t 50) (.t 53))), (12, .o 55 (.ld 2 true (.t 54))), (13, .o 56 (.calld (.t 43) true [.t 49, .t 55])), (14, .o 57 (.bin .lss .num (.t 56) (.c (.i .i64 0)))), (15, .o 58 (.un .not (.t 57)))] [40, 43, 44, 45, 46, 47, 48, 49, 50, 51, 52, 53, 54, 55, 56, 57]) (.cond (.t 58) .ret .skip)) (.seq (.dreg [(0, .o 59 (.mv (.t 0))), (1, .o 60 (.mv (.t 3))), (2, .o 61 (.mv (.t 10))), (3, .o 62 (.bin .add .num (.t 60) (.t 61))), (4, .o 63 (.mv (.t 0))), (5, .o 64 (.mv (.t 3))), (6, .o 65 (.mv (.t 11))), (7, .o 66 (.bin .add .num (.t 64) (.t 65))), (8, .o 67 (.mv (.t 0))), (9, .o 68 (.mv (.t 3))), (10, .o 69 (.mv (.t 11))), (11, .o 70 (.bin .add .num (.t 68) (.t 69))), (12, .o 71 (.ia 2 (.t 67) (.t 70))), (13, .o 72 (.ld 2 true (.t 71))), (14, .o 73 (.mv (.t 0))), (15, .o 74 (.mv (.t 3))), (16, .o 75 (.mv (.t 10))), (17, .o 76 (.bin .add .num (.t 74) (.t 75))), (18, .o 77 (.ia 2 (.t 73) (.t 76))), (19, .o 78 (.ld 2 true (.t 77))), (20, .o 79 (.ia 2 (.t 59) (.t 62))), (21, .op none none (.st 2 true (.t 79) (.t 72))), (22, .o 80 (.ia 2 (.t 63) (.t 66))), (23, .op none none (.st 2 true (.t 80) (.t 78)))] [10, 58, 59, 60, 61, 62, 63, 64, 65, 66, 67, 68, 69, 70, 71, 72, 73, 74, 75, 76, 77, 78, 79, 80]) (.reg [.o 81 (.mv (.t 11)), .o 10 (.mv (.t 81))] [11, 81]))))))
def c216 : C :=
  (.seq (.reg [.o 12 (.mv (.t 1)), .o 10 (.mv (.t 12))] [1, 12]) (.blk 0 (.loop [] c216_0)))
def d216 : Fn := { real := 216, np := 5, nt := 82, res := [], body := c216 }

/-- slices.nextPowerOfTwo -/
def c217 : C :=
  (.seq (.reg [.o 2 (.mv (.c (.i .u64 0)))] [2]) (.seq (.reg [.o 3 (.mv (.t 0)), .o 4 (.conv .u64 (.t 3)), .o 5 (.call 175 true [.t 4]), .o 6 (.bin .shl .num (.c (.i .u64 1)) (.t 5)), .o 2 (.mv (.t 6))] [0, 3, 4, 5, 6]) .ret))
def d217 : Fn := { real := 217, np := 1, nt := 7, res := [.t 2], body := c217 }

/-- (*slices.xorshift).Next -/
def c218 : C :=
  (.seq (.reg [.o 2 (.mv (.c (.i .u64 0)))] [2]) (.seq (.dreg [(0, .o 3 (.mv (.t 0))), (1, .o 4 (.nilck (.t 3))), (2, .o 5 (.ld 1 false (.t 4))), (3, .o 6 (.mv (.t 0))), (4, .o 7 (.nilck (.t 6))), (5, .o 8 (.ld 1 false (.t 7))), (6, .o 9 (.bin .shl .num (.t 8) (.c (.i .u64 13)))), (7, .o 10 (.bin .xor .num (.t 5) (.t 9))), (8, .o 11 (.nilck (.t 3))), (9, .op none none (.st 1 false (.t 11) (.t 10)))] [3, 4, 5, 6, 7, 8, 9, 10, 11]) (.seq (.dreg [(0, .o 12 (.mv (.t 0))), (1, .o 13 (.nilck (.t 12))), (2, .o 14 (.ld 1 false (.t 13))), (3, .o 15 (.mv (.t 0))), (4, .o 16 (.nilck (.t 15))), (5, .o 17 (.ld 1 false (.t 16))), (6, .o 18 (.bin .shr .num (.t 17) (.c (.i .u64 7)))), (7, .o 19 (.bin .xor .num (.t 14) (.t 18))), (8, .o 20 (.nilck (.t 12))), (9, .op none none (.st 1 false (.t 20) (.t 19)))] [12, 13, 14, 15, 16, 17, 18, 19, 20]) (.seq (.dreg [(0, .o 21 (.mv (.t 0))), (1, .o 22 (.nilck (.t 21))), (2, .o 23 (.ld 1 false (.t 22))), (3, .o 24 (.mv (.t 0))), (4, .o 25 (.nilck (.t 24))), (5, .o 26 (.ld 1 false (.t 25))), (6, .o 27 (.bin .shl .num (.t 26) (.c (.i .u64 17)))), (7, .o 28 (.bin .xor .num (.t 23) (.t 27))), (8, .o 29 (.nilck (.t 21))), (9, .op none none (.st 1 false (.t 29) (.t 28)))] [21, 22, 23, 24, 25, 26, 27, 28, 29]) (.seq (.reg [.o 30 (.mv (.t 0)), .o 31 (.nilck (.t 30)), .o 32 (.ld 1 false (.t 31)), .o 2 (.mv (.t 32))] [0, 30, 31, 32]) .ret)))))
def d218 : Fn := { real := 218, np := 1, nt := 33, res := [.t 2], body := c218 }

/-- slices.medianAdjacentCmpFunc[lineage/api.RowID] -/
def c219 : C :=
  (.seq (.reg [.o 8 (.mv (.c (.i .i64 0)))] [8]) (.seq (.reg [.o 9 (.mv (.t 0)), .o 10 (.mv (.t 1)), .o 11 (.bin .sub .num (.t 10) (.c (.i .i64 1))), .o 12 (.mv (.t 1)), .o 13 (.mv (.t 1)), .o 14 (.bin .add .num (.t 13) (.c (.i .i64 1))), .o 15 (.mv (.t 2)), .o 16 (.mv (.t 3)), .o 17 (.call 220 false [.t 9, .t 11, .t 12, .t 14, .t 15, .t 16]), .o 8 (.mv (.t 17))] [0, 1, 2, 3, 9, 10, 11, 12, 13, 14, 15, 16, 17]) .ret))
def d219 : Fn := { real := 219, np := 4, nt := 18, res := [.t 8], body := c219 }

/-- slices.medianCmpFunc[lineage/api.RowID] -/
def c220 : C :=
  (.seq (.reg [.o 12 (.mv (.c (.i .i64 0)))] [12]) (.seq (.reg [.o 14 (.mv (.t 0)), .o 15 (.mv (.t 1)), .o 16 (.mv (.t 2)), .o 17 (.mv (.t 4)), .o 18 (.mv (.t 5)), .o 19 (.call 224 false [.t 14, .t 15, .t 16, .t 17, .t 18]), .o 13 (.mv (.t 19)), .o 20 (.ext (.t 13) 0), .o 21 (.ext (.t 13) 1), .o 1 (.mv (.t 20)), .o 2 (.mv (.t 21))] [13, 14, 15, 16, 17, 18, 19, 20, 21]) (.seq (.reg [.o 23 (.mv (.t 0)), .o 24 (.mv (.t 2)), .o 25 (.mv (.t 3)), .o 26 (.mv (.t 4)), .o 27 (.mv (.t 5)), .o 28 (.call 224 false [.t 23, .t 24, .t 25, .t 26, .t 27]), .o 22 (.mv (.t 28)), .o 29 (.ext (.t 22) 0), .o 30 (.ext (.t 22) 1), .o 2 (.mv (.t 29)), .o 3 (.mv (.t 30))] [3, 22, 23, 24, 25, 26, 27, 28, 29, 30]) (.seq (.reg [.o 32 (.mv (.t 0)), .o 33 (.mv (.t 1)), .o 34 (.mv (.t 2)), .o 35 (.mv (.t 4)), .o 36 (.mv (.t 5)), .o 37 (.call 224 false [.t 32, .t 33, .t 34, .t 35, .t 36]), .o 31 (.mv (.t 37)), .o 38 (.ext (.t 31) 0), .o 39 (.ext (.t 31) 1), .o 1 (.mv (.t 38)), .o 2 (.mv (.t 39))] [0, 1, 4, 5, 31, 32, 33, 34, 35, 36, 37, 38, 39]) (.seq (.reg [.o 40 (.mv (.t 2)), .o 12 (.mv (.t 40))] [2, 40]) .ret)))))
def d220 : Fn := { real := 220, np := 6, nt := 41, res := [.t 12], body := c220 }

/-- slices.order2CmpFunc[lineage/api.RowID] -/
def c224 : C :=
  (.seq (.reg [.o 10 (.mv (.c (.i .i64 0))), .o 11 (.mv (.c (.i .i64 0)))] [10, 11]) (.seq (.seq (.dreg [(0, .o 12 (.mv (.t 4))), (1, .o 13 (.mv (.t 0))), (2, .o 14 (.mv (.t 2))), (3, .o 15 (.ia 2 (.t 13) (.t 14))), (4, .o 16 (.ld 2 true (.t 15))), (5, .o 17 (.mv (.t 0))), (6, .o 18 (.mv (.t 1))), (7, .o 19 (.ia 2 (.t 17) (.t 18))), (8, .o 20 (.ld 2 true (.t 19))), (9, .o 21 (.calld (.t 12) true [.t 16, .t 20])), (10, .o 22 (.bin .lss .num (.t 21) (.c (.i .i64 0))))] [0, 4, 12, 13, 14, 15, 16, 17, 18, 19, 20, 21]) (.cond (.t 22) (.seq (.reg [.o 23 (.mv (.t 3)), .o 24 (.nilck (.t 23)), .o 25 (.ld 1 false (.t 24)), .o 26 (.bin .add .num (.t 25) (.c (.i .i64 1))), .o 27 (.nilck (.t 23)), .op none none (.st 1 false (.t 27) (.t 26))] [3, 22, 23, 24, 25, 26, 27]) (.seq (.reg [.o 28 (.mv (.t 2)), .o 29 (.mv (.t 1)), .o 10 (.mv (.t 28)), .o 11 (.mv (.t 29))] [1, 2, 28, 29]) .ret)) .skip)) (.seq (.reg [.o 30 (.mv (.t 1)), .o 31 (.mv (.t 2)), .o 10 (.mv (.t 30)), .o 11 (.mv (.t 31))] [1, 2, 3, 22, 30, 31]) .ret)))
def d224 : Fn := { real := 224, np := 5, nt := 32, res := [.t 10, .t 11], body := c224 }

/-- slices.Clone[[]lineage/api.RowID,lineage/api.RowID] (a) -/
def c1049 : C :=
  (.seq (.reg [.o 2 (.mv (.c (.sl 2 true [] .ro)))] [2]) (.seq (.seq (.reg [.o 3 (.mv (.t 0)), .o 4 (.bin .eql .sl (.t 3) (.c (.sl 2 true [] .ro)))] [3]) (.cond (.t 4) (.seq (.reg [.o 2 (.mv (.c (.sl 2 true [] .ro)))] [0, 4]) .ret) .skip)) (.seq (.reg [.o 5 (.bsl 2 true true []), .o 6 (.mv (.t 0)), .o 7 (.app 2 true (.t 5) (.t 6)), .o 2 (.mv (.t 7))] [0, 4, 5, 6, 7]) .ret)))
def d1049 : Fn := { real := 49, np := 1, nt := 8, res := [.t 2], body := c1049 }

/-- slices.ContainsFunc[[]lineage/api.Weighted,lineage/api.Weighted] (s) -/
def c2155 : C :=
  (.seq (.reg [.o 4 (.mv (.c (.b false)))] [4]) (.seq (.reg [.o 5 (.mv (.t 0)), .o 6 (.mv (.t 1)), .o 7 (.call 2193 false [.t 5, .t 6]), .o 8 (.bin .geq .num (.t 7) (.c (.i .i64 0))), .o 4 (.mv (.t 8))] [0, 1, 5, 6, 7, 8]) .ret))
def d2155 : Fn := { real := 155, np := 2, nt := 9, res := [.t 4], body := c2155 }

/-- slices.IndexFunc[[]lineage/api.Weighted,lineage/api.Weighted] (s) -/
def c2193_0 : C :=
  .seq (.reg [.o 9 (.bin .lss .num (.t 8) (.t 7))] []) (.seq (.cond (.t 9) .skip (.exit 0)) (.seq (.blk 1 (.seq (.reg [.o 10 (.mv (.t 8)), .o 5 (.mv (.t 10))] [9, 10]) (.seq (.reg [.o 11 (.mv (.t 1)), .o 12 (.mv (.t 0)), .o 13 (.mv (.t 5)), .o 14 (.ia 4 (.t 12) (.t 13)), .o 15 (.ld 4 true (.t 14)), .o 16 (.calld (.t 11) false [.t 15])] [11, 12, 13, 14, 15]) (.cond (.t 16) (.seq (.reg [.o 17 (.mv (.t 5)), .o 4 (.mv (.t 17))] [0, 1, 5, 7, 8, 16, 17]) .ret) .skip)))) (.reg [.o 18 (.bin .add .num (.t 8) (.c (.i .i64 1))), .o 8 (.mv (.t 18))] [5, 16, 18])))
def c2193_r0 : C :=
  .seq (.reg [.o 4 (.mv (.c (.i .i64 (-1))))] [0, 1, 7, 8, 9]) .ret
def c2193 : C :=
  (.seq (.reg [.o 4 (.mv (.c (.i .i64 0)))] [4]) (.seq (.seq (.reg [.o 6 (.mv (.t 0)), .o 7 (.len false (.t 6)), .o 8 (.mv (.c (.i .i64 0)))] [6]) (.blk 0 (.loop [] c2193_0))) c2193_r0))
def d2193 : Fn := { real := 193, np := 2, nt := 19, res := [.t 4], body := c2193 }

end Go.Proofs.YtjlmeikcfdanmaaGreatDoor.DE

namespace Go.Proofs.YtjlmeikcfdanmaaGreatDoor.DE

def dpL : List (Nat × Fn) := [(7, d7), (10, d10), (12, d12), (13, d13), (14, d14), (17, d17), (21, d21), (22, d22), (23, d23), (30, d30), (31, d31), (33, d33), (34, d34), (35, d35), (37, d37), (44, d44), (45, d45), (46, d46), (47, d47), (48, d48), (49, d49), (50, d50), (52, d52), (54, d54), (55, d55), (59, d59), (60, d60), (61, d61), (62, d62), (63, d63), (64, d64), (65, d65), (66, d66), (71, d71), (72, d72), (73, d73), (74, d74), (75, d75), (76, d76), (77, d77), (78, d78), (79, d79), (80, d80), (81, d81), (83, d83), (84, d84), (85, d85), (86, d86), (87, d87), (88, d88), (89, d89), (90, d90), (91, d91), (92, d92), (94, d94), (95, d95), (96, d96), (97, d97), (98, d98), (99, d99), (100, d100), (101, d101), (102, d102), (103, d103), (104, d104), (105, d105), (106, d106), (108, d108), (110, d110), (115, d115), (116, d116), (117, d117), (118, d118), (119, d119), (120, d120), (121, d121), (122, d122), (123, d123), (124, d124), (127, d127), (128, d128), (135, d135), (136, d136), (137, d137), (138, d138), (139, d139), (140, d140), (141, d141), (142, d142), (143, d143), (144, d144), (145, d145), (146, d146), (147, d147), (148, d148), (149, d149), (150, d150), (151, d151), (152, d152), (153, d153), (154, d154), (155, d155), (156, d156), (157, d157), (158, d158), (159, d159), (160, d160), (163, d163), (169, d169), (170, d170), (171, d171), (172, d172), (173, d173), (174, d174), (175, d175), (176, d176), (177, d177), (179, d179), (185, d185), (186, d186), (187, d187), (188, d188), (189, d189), (190, d190), (191, d191), (192, d192), (193, d193), (194, d194), (195, d195), (197, d197), (198, d198), (199, d199), (200, d200), (201, d201), (202, d202), (203, d203), (204, d204), (205, d205), (206, d206), (207, d207), (214, d214), (215, d215), (216, d216), (217, d217), (218, d218), (219, d219), (220, d220), (224, d224), (1049, d1049), (2155, d2155), (2193, d2193)]

def dp (g : Nat) : Option Fn := dpL.lookup g

end Go.Proofs.YtjlmeikcfdanmaaGreatDoor.DE

namespace Go.Proofs.YtjlmeikcfdanmaaGreatDoor.DE
open Go

theorem all_match : dpL.all (fun p => mFn Tryz.prog dp p.2) = true := by kernel_rfl

theorem mixed : (Tryz.prog).follows .mixedOrders = true := by kernel_rfl

theorem lookup_mem {α : Type} : ∀ {l : List (Nat × α)} {g : Nat} {f : α}, l.lookup g = some f → ∃ p ∈ l, p.2 = f
  | [], _, _, h => by simp at h
  | (k, x) :: l, g, f, h => by
    simp only [List.lookup_cons] at h
    split at h
    · injection h with h
      exact ⟨(k, x), by simp, h⟩
    · obtain ⟨p, h1, h2⟩ := lookup_mem h
      exact ⟨p, by simp [h1], h2⟩

theorem good : Good Tryz.prog dp := by
  intro g f h
  obtain ⟨p, h1, rfl⟩ := lookup_mem h
  exact List.all_eq_true.1 all_match p h1

/-- What the evaluator says of a call, the program does. -/
theorem sound : CallOk Tryz.prog dp (call dp) := call_sound mixed good

end Go.Proofs.YtjlmeikcfdanmaaGreatDoor.DE

namespace Go.Proofs.YtjlmeikcfdanmaaGreatDoor.DE
open Go

section
variable {cf : CallF} {fr fr' : List D} {S S' : Store}

/-- The code ends, and so that Q holds. -/
def W (cf : CallF) (c : C) (fr : List D) (S : Store) (Q : Ex → List D → Store → Prop) : Prop := match execL cf c fr S with
  | some (ex, fr', S') => Q ex fr' S'
  | none => False

theorem W_ex {c : C} {Q : Ex → List D → Store → Prop} : W cf c fr S Q ↔ ∃ ex fr' S', execL cf c fr S = some (ex, fr', S') ∧ Q ex fr' S' := by
  unfold W
  cases h : execL cf c fr S with
  | none => simp
  | some p =>
    obtain ⟨ex, f1, S1⟩ := p
    constructor
    · exact fun h => ⟨ex, f1, S1, rfl, h⟩
    · rintro ⟨ex', f2, S2, h1, h2⟩
      injection h1 with h1
      injection h1 with h1 h3
      injection h3 with h3 h4
      subst h1 h3 h4
      exact h2

def Qseq (K : List D → Store → Prop) (Q : Ex → List D → Store → Prop) : Ex → List D → Store → Prop
  | .normal, fr, S => K fr S
  | ex, fr, S => Q ex fr S

def Qblk (id : Nat) (Q : Ex → List D → Store → Prop) : Ex → List D → Store → Prop
  | .exit j, fr, S => if j = id then Q .normal fr S else Q (.exit j) fr S
  | ex, fr, S => Q ex fr S

def WB (d : D) (X Y : Prop) : Prop := match d with
  | .b true => X
  | .b false => Y
  | _ => False

def WG (d : D) (w : Bool) (X Y : Prop) : Prop := match d with
  | .b x => if x = w then X else Y
  | .tup [] => Y
  | _ => False

def WR (r : Option (D × Store)) (K : D → Store → Prop) : Prop := match r with
  | some (d, S) => K d S
  | none => False

def WI (cf : CallF) : List I → List D → Store → (List D → Store → Prop) → Prop
  | [], fr, S, Q => Q fr S
  | i :: is, fr, S, Q => match evI cf fr S i with
    | some (fr', S') => WI cf is fr' S' Q
    | none => False

def WD (cf : CallF) : List (Nat × I) → List D → Store → (List D → Store → Prop) → Prop
  | [], fr, S, Q => Q fr S
  | (_, i) :: is, fr, S, Q => match evI cf fr S i with
    | some (fr', S') => WD cf is fr' S' Q
    | none => False

@[congr] theorem W_congr {c : C} {Q : Ex → List D → Store → Prop} (h : fr = fr') (k : S = S') : W cf c fr S Q = W cf c fr' S' Q := by rw [h, k]
@[congr] theorem WI_congr {c : List I} {Q : List D → Store → Prop} (h : fr = fr') (k : S = S') : WI cf c fr S Q = WI cf c fr' S' Q := by rw [h, k]
@[congr] theorem WD_congr {c : List (Nat × I)} {Q : List D → Store → Prop} (h : fr = fr') (k : S = S') : WD cf c fr S Q = WD cf c fr' S' Q := by rw [h, k]
@[congr] theorem WB_congr {d d' : D} {X Y : Prop} (h : d = d') : WB d X Y = WB d' X Y := by rw [h]
@[congr] theorem WG_congr {d d' : D} {w : Bool} {X Y : Prop} (h : d = d') : WG d w X Y = WG d' w X Y := by rw [h]
@[congr] theorem WR_congr {r r' : Option (D × Store)} {K : D → Store → Prop} (h : r = r') : WR r K = WR r' K := by rw [h]
@[congr] theorem Qseq_congr {K : List D → Store → Prop} {Q : Ex → List D → Store → Prop} {ex ex' : Ex} (e : ex = ex') (h : fr = fr') (k : S = S') : Qseq K Q ex fr S = Qseq K Q ex' fr' S' := by rw [e, h, k]
@[congr] theorem Qblk_congr {id : Nat} {Q : Ex → List D → Store → Prop} {ex ex' : Ex} (e : ex = ex') (h : fr = fr') (k : S = S') : Qblk id Q ex fr S = Qblk id Q ex' fr' S' := by rw [e, h, k]

theorem Qseq_normal (K : List D → Store → Prop) (Q : Ex → List D → Store → Prop) (fr : List D) (S : Store) : Qseq K Q .normal fr S = K fr S := (rfl)
theorem Qseq_exit (K : List D → Store → Prop) (Q : Ex → List D → Store → Prop) (id : Nat) (fr : List D) (S : Store) : Qseq K Q (.exit id) fr S = Q (.exit id) fr S := (rfl)
theorem Qseq_ret (K : List D → Store → Prop) (Q : Ex → List D → Store → Prop) (fr : List D) (S : Store) : Qseq K Q .ret fr S = Q .ret fr S := (rfl)
theorem Qblk_normal (id : Nat) (Q : Ex → List D → Store → Prop) (fr : List D) (S : Store) : Qblk id Q .normal fr S = Q .normal fr S := (rfl)
theorem Qblk_ret (id : Nat) (Q : Ex → List D → Store → Prop) (fr : List D) (S : Store) : Qblk id Q .ret fr S = Q .ret fr S := (rfl)
theorem Qblk_same (id : Nat) (Q : Ex → List D → Store → Prop) (fr : List D) (S : Store) : Qblk id Q (.exit id) fr S = Q .normal fr S := by simp [Qblk]
theorem Qblk_other (id j : Nat) (h : (j == id) = false) (Q : Ex → List D → Store → Prop) (fr : List D) (S : Store) : Qblk id Q (.exit j) fr S = Q (.exit j) fr S := by
  have : ¬ j = id := by simpa using h
  simp [Qblk, this]

theorem WB_true (X Y : Prop) : WB (.b true) X Y = X := rfl
theorem WB_false (X Y : Prop) : WB (.b false) X Y = Y := rfl
theorem WG_skip (w : Bool) (X Y : Prop) : WG (.tup []) w X Y = Y := rfl
theorem WG_tt (X Y : Prop) : WG (.b true) true X Y = X := rfl
theorem WG_ff (X Y : Prop) : WG (.b false) false X Y = X := rfl
theorem WG_tf (X Y : Prop) : WG (.b true) false X Y = Y := rfl
theorem WG_ft (X Y : Prop) : WG (.b false) true X Y = Y := rfl
theorem WR_some (d : D) (S : Store) (K : D → Store → Prop) : WR (some (d, S)) K = K d S := rfl

theorem W_skip (Q : Ex → List D → Store → Prop) : W cf .skip fr S Q = Q .normal fr S := by simp [W, execL]
theorem W_exit (id : Nat) (Q : Ex → List D → Store → Prop) : W cf (.exit id) fr S Q = Q (.exit id) fr S := by simp [W, execL]
theorem W_ret (Q : Ex → List D → Store → Prop) : W cf .ret fr S Q = Q .ret fr S := by simp [W, execL]

theorem WI_iff (Q : List D → Store → Prop) : ∀ (is : List I) (fr : List D) (S : Store), WI cf is fr S Q = match evIs cf fr S is with | some (fr', S') => Q fr' S' | none => False
  | [], fr, S => rfl
  | i :: is, fr, S => by
    simp only [WI, evIs]
    cases evI cf fr S i with
    | none => rfl
    | some p => exact WI_iff Q is p.1 p.2

theorem WD_WI (Q : List D → Store → Prop) : ∀ (is : List (Nat × I)) (fr : List D) (S : Store), WD cf is fr S Q ↔ WI cf (snds is) fr S Q
  | [], fr, S => Iff.rfl
  | (j, i) :: is, fr, S => by
    simp only [WD, snds, WI]
    cases evI cf fr S i with
    | none => exact Iff.rfl
    | some p => exact WD_WI Q is p.1 p.2

theorem W_reg (is : List I) (kl : List Nat) (Q : Ex → List D → Store → Prop) : W cf (.reg is kl) fr S Q = WI cf is fr S (fun fr S => Q .normal (fkill fr kl) S) := by
  rw [WI_iff]
  simp only [W, execL]
  cases h : evIs cf fr S is <;> rfl

theorem W_dreg (is : List (Nat × I)) (kl : List Nat) (Q : Ex → List D → Store → Prop) : W cf (.dreg is kl) fr S Q = WD cf is fr S (fun fr S => Q .normal (fkill fr kl) S) := by
  rw [propext (WD_WI _ is fr S), WI_iff]
  simp only [W, execL]
  cases h : evIs cf fr S (snds is) <;> rfl

theorem W_seq (x y : C) (Q : Ex → List D → Store → Prop) : W cf (.seq x y) fr S Q = W cf x fr S (Qseq (fun fr S => W cf y fr S Q) Q) := by
  simp only [W, execL]
  cases h : execL cf x fr S with
  | none => rfl
  | some p =>
    obtain ⟨ex, f1, S1⟩ := p
    cases ex <;> rfl

theorem W_blk (id : Nat) (x : C) (Q : Ex → List D → Store → Prop) : W cf (.blk id x) fr S Q = W cf x fr S (Qblk id Q) := by
  simp only [W, execL]
  cases h : execL cf x fr S with
  | none => rfl
  | some p =>
    obtain ⟨ex, f1, S1⟩ := p
    cases ex with
    | normal => rfl
    | exit j =>
      simp only [Qblk]
      split <;> rfl
    | ret => rfl

theorem W_cond (q : A) (x y : C) (Q : Ex → List D → Store → Prop) : W cf (.cond q x y) fr S Q = WB (av fr q) (W cf x fr S Q) (W cf y fr S Q) := by
  simp only [W, execL]
  cases av fr q <;> try rfl
  rename_i b
  cases b <;> rfl

theorem WI_nil (Q : List D → Store → Prop) : WI cf [] fr S Q = Q fr S := rfl
theorem WD_nil (Q : List D → Store → Prop) : WD cf [] fr S Q = Q fr S := rfl

theorem WI_op (dst : Option Nat) (r : R) (is : List I) (Q : List D → Store → Prop) : WI cf (.op dst none r :: is) fr S Q = WR (evR cf fr S r) (fun d S => WI cf is (fsetO fr dst d) S Q) := by
  simp only [WI, evI, DE.wanted]
  cases evR cf fr S r <;> rfl

theorem WI_gd (dst : Option Nat) (t : Nat) (w : Bool) (r : R) (is : List I) (Q : List D → Store → Prop) : WI cf (.op dst (some (t, w)) r :: is) fr S Q =
    WG (fget fr t) w (WR (evR cf fr S r) (fun d S => WI cf is (fsetO fr dst d) S Q)) (WI cf is (fsetO fr dst (.tup [])) S Q) := by
  simp only [WI, evI, DE.wanted]
  generalize fget fr t = d
  cases d <;> try rfl
  · rename_i x
    by_cases h : x = w
    · subst h
      simp only [beq_self_eq_true, WG, if_true]
      cases evR cf fr S r <;> rfl
    · have : (x == w) = false := by simpa using h
      simp [WG, h, this]
  · rename_i l
    cases l <;> rfl

theorem WI_fz (t : Nat) (is : List I) (Q : List D → Store → Prop) : WI cf (.fz t :: is) fr S Q = WR (fzD (fget fr t) S) (fun d S => WI cf is (fset fr t d) S Q) := by
  simp only [WI, evI]
  cases fzD (fget fr t) S <;> rfl

theorem WD_op (j : Nat) (dst : Option Nat) (r : R) (is : List (Nat × I)) (Q : List D → Store → Prop) : WD cf ((j, .op dst none r) :: is) fr S Q = WR (evR cf fr S r) (fun d S => WD cf is (fsetO fr dst d) S Q) := by
  simp only [WD, evI, DE.wanted]
  cases evR cf fr S r <;> rfl

theorem WD_gd (j : Nat) (dst : Option Nat) (t : Nat) (w : Bool) (r : R) (is : List (Nat × I)) (Q : List D → Store → Prop) : WD cf ((j, .op dst (some (t, w)) r) :: is) fr S Q =
    WG (fget fr t) w (WR (evR cf fr S r) (fun d S => WD cf is (fsetO fr dst d) S Q)) (WD cf is (fsetO fr dst (.tup [])) S Q) := by
  simp only [WD, evI, DE.wanted]
  generalize fget fr t = d
  cases d <;> try rfl
  · rename_i x
    by_cases h : x = w
    · subst h
      simp only [beq_self_eq_true, WG, if_true]
      cases evR cf fr S r <;> rfl
    · have : (x == w) = false := by simpa using h
      simp [WG, h, this]
  · rename_i l
    cases l <;> rfl

def WK (r : Option (D × Store)) (d : D) (K : Prop) : Prop := match r with
  | some (e, _) => deq e d = true ∧ K
  | none => False

@[congr] theorem WK_congr {r r' : Option (D × Store)} {d d' : D} {K : Prop} (h : r = r') (k : d = d') : WK r d K = WK r' d' K := by rw [h, k]
theorem WK_some (e d : D) (S : Store) (K : Prop) (h : deq e d = true) : WK (some (e, S)) d K = K := by simp [WK, h]

theorem WD_ck (j t : Nat) (r : R) (is : List (Nat × I)) (Q : List D → Store → Prop) : WD cf ((j, .ck t r) :: is) fr S Q = WK (evR cf fr S r) (fget fr t) (WD cf is fr S Q) := by
  simp only [WD, evI]
  cases evR cf fr S r with
  | none => rfl
  | some p =>
    obtain ⟨d, T⟩ := p
    simp only [WK]
    by_cases h : deq d (fget fr t) = true
    · simp [h]
    · have : deq d (fget fr t) = false := by simpa using h
      simp [this]

theorem W_loop {kl : List Nat} {c : C} {Q : Ex → List D → Store → Prop} (J : Nat → List D → Store → Prop)
    (h : ∀ m fr S, J m fr S → W cf c (fkill fr kl) S (Qseq (fun fr' S' => ∃ m', m' < m ∧ J m' fr' S') Q)) : ∀ m fr S, J m fr S → W cf (.loop kl c) fr S Q := by
  have key : ∀ m fr S, J m fr S → ∃ n ex fr' S', iter (fun fr S => execL cf c (fkill fr kl) S) n fr S = some (ex, fr', S') ∧ Q ex fr' S' := by
    intro m
    induction m using Nat.strongRecOn with
    | _ m ih =>
      intro fr S hJ
      obtain ⟨ex, f1, S1, he, hq⟩ := W_ex.1 (h m fr S hJ)
      cases ex with
      | normal =>
        obtain ⟨m', hlt, hJ'⟩ := hq
        obtain ⟨n, ex', f2, S2, he2, hq2⟩ := ih m' hlt f1 S1 hJ'
        exact ⟨n + 1, ex', f2, S2, by simp only [iter, he]; exact he2, hq2⟩
      | exit id => exact ⟨1, .exit id, f1, S1, by simp only [iter, he], hq⟩
      | ret => exact ⟨1, .ret, f1, S1, by simp only [iter, he], hq⟩
  intro m fr S hJ
  obtain ⟨n, ex, f1, S1, he, hq⟩ := key m fr S hJ
  refine W_ex.2 ⟨ex, f1, S1, ?_, hq⟩
  simp only [execL]
  exact (lim_iff (fun n m hm => iter_mono (fun _ _ => LeO.refl _) n m hm fr S) _).2 ⟨n, he⟩

theorem W_mono {c : C} {Q Q' : Ex → List D → Store → Prop} (h : W cf c fr S Q) (hq : ∀ ex fr S, Q ex fr S → Q' ex fr S) : W cf c fr S Q' := by
  obtain ⟨ex, f1, S1, he, h⟩ := W_ex.1 h
  exact W_ex.2 ⟨ex, f1, S1, he, hq _ _ _ h⟩

/-- What a function's body is to end with. -/
def Fin (f : Fn) (Post : D → Store → Prop) : Ex → List D → Store → Prop
  | .exit _, _, _ => False
  | _, fr, S => match resL fr S f.res with
    | some l => Post (resD l) S
    | none => False

end

section
variable {dp : Nat → Option Fn} {S S' : Store}

theorem call_W {g : Nat} {f : Fn} {args : List D} {Post : D → Store → Prop} (hg : dp g = some f) (hn : args.length = f.np ∧ f.np ≤ f.nt)
    (h : W (call dp) f.body (frame0 f args) S (Fin f Post)) : ∃ r S', call dp g args S = some (r, S') ∧ Post r S' := by
  obtain ⟨ex, f1, S1, he, hq⟩ := W_ex.1 h
  rw [call_eq]
  simp only [hg, hn, and_self, if_true, he]
  cases ex with
  | exit id => exact hq.elim
  | normal =>
    simp only [Fin] at hq
    simp only [finish]
    cases hr : resL f1 S1 f.res with
    | none => simp [hr] at hq
    | some l => rw [hr] at hq; exact ⟨_, _, rfl, hq⟩
  | ret =>
    simp only [Fin] at hq
    simp only [finish]
    cases hr : resL f1 S1 f.res with
    | none => simp [hr] at hq
    | some l => rw [hr] at hq; exact ⟨_, _, rfl, hq⟩

/-- A call with its own store. -/
theorem iso_W {g : Nat} {f : Fn} {args : List D} {r : D} (hg : dp g = some f) (hn : args.length = f.np ∧ f.np ≤ f.nt) (ha : noRefL (stripL args) = true) (hr : noRef r = true)
    (h : W (call dp) f.body (frame0 f (stripL args)) [] (Fin f fun d _ => stripT d = r)) : isoCall (call dp) g args = some r := by
  obtain ⟨d, S', h1, h2⟩ := call_W (args := stripL args) hg (by
    refine ⟨?_, hn.2⟩
    rw [← hn.1]
    clear hn ha h
    induction args with
    | nil => rfl
    | cons x l ih => simp [stripL, ih]) h
  simp only [isoCall, ha, if_true, h1, h2, hr]

theorem evR_call_iso {g : Nat} {args : List A} {fr : List D} {r : D} (h : isoCall (call dp) g (avs fr args) = some r) : evR (call dp) fr S (.call g true args) = some (r, S) := by
  simp [evR, callR, h]

end

end Go.Proofs.YtjlmeikcfdanmaaGreatDoor.DE

namespace Go.Proofs.YtjlmeikcfdanmaaGreatDoor.DE
open Go

/-- A value that is there is handed on. -/
def OX {α : Type} (o : Option α) (K : α → Prop) : Prop := match o with
  | some x => K x
  | none => False

@[congr] theorem OX_congr {α : Type} {o o' : Option α} {K : α → Prop} (h : o = o') : OX o K = OX o' K := by rw [h]
@[simp] theorem OX_some {α : Type} (x : α) (K : α → Prop) : OX (some x) K = K x := (rfl)

/-! Operations on values. -/

def nilckD : D → Option D
  | .bx i o => some (.bx i o)
  | .el c o => some (.el c o)
  | .fn g c => some (.fn g c)
  | _ => none

def pickD (c a b : D) : Option D := match c with
  | .b x => some (if x then a else b)
  | _ => none

def convD (k : IntKind) : D → Option D
  | .i _ n => some (.i k (k.wrap n))
  | _ => none

def faD (o : Nat) : D → Option D
  | .bx id p => some (.bx id (p + o))
  | .el cs p => some (.el cs (p + o))
  | _ => none

def fldD (o k : Nat) (g : Bool) : D → Option D
  | .agg cs => rdK cs o k g
  | _ => none

def iaaD (n k : Nat) (x i : D) : Option D := match x, i with
  | .bx id o, .i _ m => if 0 ≤ m ∧ m < n then some (.bx id (o + m.toNat * k)) else none
  | _, _ => none

def ixsD (x i : D) : Option D := match x, i with
  | .s l, .i _ m => if 0 ≤ m then (l[m.toNat]?).map fun c => .i .u8 c.toNat else none
  | _, _ => none

def okD (ok : Bool) (z : D) : Option D → D
  | some v => if ok then .tup [v, .b true] else v
  | none => if ok then .tup [z, .b false] else z

def lkD' (kk : KK) (ok : Bool) (z : D) (S : Store) (m key : D) : Option D := if isKey kk key then
    (match m with
    | .nilm => some (okD ok z none)
    | .mp id => match sget S id with
      | some (.map es) => (lkD kk key es).map (okD ok z)
      | _ => none
    | _ => none) else none

def extD (x : D) (j : Nat) : Option D := match x with
  | .tup cs => cs[j]?
  | _ => none

def lenD (str : Bool) (x : D) : Option D := match str, x with
  | false, .sl _ _ xs _ => some (.i .i64 xs.length)
  | false, .ar _ _ _ n => some (.i .i64 n)
  | true, .s l => some (.i .i64 l.length)
  | _, _ => none

def mxD (x y : D) : Option D := match x, y with
  | .i k a, .i k' b => if k = k' then some (.i k (if b > a then b else a)) else none
  | _, _ => none

def mnD (x y : D) : Option D := match x, y with
  | .i k a, .i k' b => if k = k' then some (.i k (if b < a then b else a)) else none
  | _, _ => none

def cmpsD (x y : D) : Option D := match x, y with
  | .s a, .s b => some (.i .i64 (if Op.bytesLess a b then -1 else if a == b then 0 else 1))
  | _, _ => none

def avP (fr : List D) : List (Nat × Nat × Bool × A) → List (Nat × Nat × Bool × D)
  | [] => []
  | (o, k, g, x) :: l => (o, k, g, av fr x) :: avP fr l

def bldV (z : List D) : List (Nat × Nat × Bool × D) → Option (List D)
  | [] => some z
  | (o, k, g, x) :: ps => match cellsK k g x with
    | some cs => if o + k ≤ z.length then bldV (splice z o cs) ps else none
    | none => none

def cellsV (k : Nat) (g : Bool) : List D → Option (List (List D))
  | [] => some []
  | x :: l => match cellsK k g x, cellsV k g l with
    | some cs, some r => some (cs :: r)
    | _, _ => none

def muD' (kk : KK) (S : Store) (m key v : D) : Option Store := if isKey kk key then
    (match m with
    | .mp id => match sget S id with
      | some (.map es) => (muD kk key v es).map fun es' => sset S id (.map es')
      | _ => none
    | _ => none) else none

def clrD (k : Nat) (z : List D) (S : Store) (x : D) : Option Store := match x with
  | .ar k' id o n => if k' = k ∧ z.length = k then (match sget S id with
    | some (.box cs) => if o + n * k ≤ cs.length then some (sset S id (.box (splice cs o (List.replicate n z).flatten))) else none
    | _ => none) else none
  | .sl _ _ [] _ => some S
  | _ => none

def fnD : D → Option (Nat × List D)
  | .fn g cs => some (g, cs)
  | _ => none

def mkslV (k : Nat) (arr : Bool) (z : List D) (S : Store) (n : D) : Option (D × Store) := match n with
  | .i _ m => if 0 ≤ m ∧ m ≤ maxLenD then
      (if arr then some (.ar k S.length 0 m.toNat, .box (List.replicate m.toNat z).flatten :: S)
      else (if m = 0 then some (.sl k false [] .cap0, S) else some (.sl k false (List.replicate m.toNat z) (.tok S.length), .tok true :: S))) else none
  | _ => none

def bslO (k : Nat) (l : List (List D)) (S : Store) : D × Store := if l.isEmpty then (.sl k false [] .cap0, S) else (.sl k false l (.tok S.length), .tok true :: S)

def mentV (kk : KK) (z : D) (S : Store) (m key : D) : Option (D × Store) := if isKey kk key then
    (match m with
    | .mp id => match sget S id with
      | some (.map es) => match posD kk key es 0 with
        | some (some j) => match es[j]? with
          | some e => some (.tup [e.2, .i .i64 j], sset S id (.map (putD key j es)))
          | none => none
        | some none => some (.tup [z, .i .i64 es.length], sset S id (.map (es ++ [(key, z)])))
        | none => none
      | _ => none
    | _ => none) else none

def estV (S : Store) (m j v : D) : Option Store := match m, j with
  | .mp id, .i _ n => match sget S id with
    | some (.map es) => if 0 ≤ n ∧ n < es.length then some (sset S id (.map (valD v n.toNat es))) else none
    | _ => none
  | _, _ => none

/-- Is the operation's outcome a value alone? -/
def isV : R → Bool
  | .alloc _ => false
  | .box _ _ _ => false
  | .bsl _ _ own _ => !own
  | .st _ _ _ _ => false
  | .mkmap => false
  | .mksl _ _ _ _ => false
  | .mu _ _ _ _ => false
  | .ment _ _ _ _ => false
  | .est _ _ _ => false
  | .app _ _ _ _ => false
  | .clr _ _ _ => false
  | .call _ iso _ => iso
  | .calld _ iso _ => iso
  | _ => true

section
variable (cf : CallF) (fr : List D) (S : Store)

def rV : R → Option D
  | .mv x => some (av fr x)
  | .nilck x => nilckD (av fr x)
  | .pick c a b => pickD (av fr c) (av fr a) (av fr b)
  | .bld z ps => (bldV z (avP fr ps)).map .agg
  | .bsl k g _ xs => (cellsV k g (avs fr xs)).map fun l => .sl k false l .ro
  | .ld k g a => ldD S k g (av fr a)
  | .bin op q x y => binD op q (av fr x) (av fr y)
  | .un op x => unD op (av fr x)
  | .conv k x => convD k (av fr x)
  | .mkfn g cs => some (.fn g (avs fr cs))
  | .slc k x lo hi => slcD k (av fr x) (avo fr lo) (avo fr hi)
  | .slcs x lo hi => slcsD (av fr x) (avo fr lo) (avo fr hi)
  | .fa o x => faD o (av fr x)
  | .fld o k g x => fldD o k g (av fr x)
  | .ia k x i => iaD k (av fr x) (av fr i)
  | .iaa n k x i => iaaD n k (av fr x) (av fr i)
  | .ixs x i => ixsD (av fr x) (av fr i)
  | .lk kk ok z m key => lkD' kk ok z S (av fr m) (av fr key)
  | .ext x j => extD (av fr x) j
  | .len str x => lenD str (av fr x)
  | .mx x y => mxD (av fr x) (av fr y)
  | .mn x y => mnD (av fr x) (av fr y)
  | .cmps x y => cmpsD (av fr x) (av fr y)
  | .call g _ args => isoCall cf g (avs fr args)
  | .calld f _ args => match fnD (av fr f) with
    | some p => isoCall cf p.1 (avs fr args ++ p.2)
    | none => none
  | _ => none

def wpR : R → (D → Store → Prop) → Prop
  | .mv x, K => K (av fr x) S
  | .mkfn g cs, K => K (.fn g (avs fr cs)) S
  | .alloc z, K => K (.bx S.length 0) (.box z :: S)
  | .mkmap, K => K (.mp S.length) (.map [] :: S)
  | .box k g x, K => OX (cellsK k g (av fr x)) fun cs => K (.bx S.length 0) (.box cs :: S)
  | .bld z ps, K => OX (bldV z (avP fr ps)) fun cs => K (.agg cs) S
  | .bsl k g own xs, K => match own with
    | false => OX (cellsV k g (avs fr xs)) fun l => K (.sl k false l .ro) S
    | true => OX (cellsV k g (avs fr xs)) fun l => K (bslO k l S).1 (bslO k l S).2
  | .st k g a v, K => OX (stD S k g (av fr a) (av fr v)) fun S' => K (.tup []) S'
  | .mksl k arr z n, K => OX (mkslV k arr z S (av fr n)) fun p => K p.1 p.2
  | .mu kk m key v, K => OX (muD' kk S (av fr m) (av fr key) (av fr v)) fun S' => K (.tup []) S'
  | .app k arr x y, K => OX (appD k arr (av fr x) (av fr y) S) fun p => K p.1 p.2
  | .clr k z x, K => OX (clrD k z S (av fr x)) fun S' => K (.tup []) S'
  | .call g iso args, K => match iso with
    | true => OX (isoCall cf g (avs fr args)) fun d => K d S
    | false => OX (cf g (avs fr args) S) fun p => K p.1 p.2
  | .calld f iso args, K => match iso with
    | true => OX (fnD (av fr f)) fun q => OX (isoCall cf q.1 (avs fr args ++ q.2)) fun d => K d S
    | false => OX (fnD (av fr f)) fun q => OX (cf q.1 (avs fr args ++ q.2) S) fun p => K p.1 p.2
  | .ment kk z m key, K => OX (mentV kk z S (av fr m) (av fr key)) fun p => K p.1 p.2
  | .est m j v, K => OX (estV S (av fr m) (av fr j) (av fr v)) fun S' => K (.tup []) S'
  | r, K => OX (rV cf fr S r) fun d => K d S

end

def al (z : List D) (S : Store) (K : D → Store → Prop) : Prop := K (.bx S.length 0) (.box z :: S)
def mm (S : Store) (K : D → Store → Prop) : Prop := K (.mp S.length) (.map [] :: S)
def jn {α : Type} (K : α) (X : α → Prop) : Prop := X K

/-- A frame: what is not named is empty. -/
def mkf (n : Nat) : List (Nat × D) → List D
  | [] => List.replicate n .top
  | (i, v) :: l => fset (mkf n l) i v

/-- Under a guard: the value, or nothing. -/
def gsel (d : D) (w : Bool) (o : Option D) : Option D := match d with
  | .b x => if x = w then o else some (.tup [])
  | .tup [] => some (.tup [])
  | _ => none

def gselS (d : D) (w : Bool) (S : Store) (o : Option (D × Store)) : Option (D × Store) := match d with
  | .b x => if x = w then o else some (.tup [], S)
  | .tup [] => some (.tup [], S)
  | _ => none

@[simp] theorem gsel_tt (o : Option D) : gsel (.b true) true o = o := (rfl)
@[simp] theorem gsel_ff (o : Option D) : gsel (.b false) false o = o := (rfl)
@[simp] theorem gsel_tf (o : Option D) : gsel (.b true) false o = some (.tup []) := (rfl)
@[simp] theorem gsel_ft (o : Option D) : gsel (.b false) true o = some (.tup []) := (rfl)
@[simp] theorem gsel_skip (w : Bool) (o : Option D) : gsel (.tup []) w o = some (.tup []) := (rfl)
@[simp] theorem gselS_tt (S : Store) (o : Option (D × Store)) : gselS (.b true) true S o = o := (rfl)
@[simp] theorem gselS_ff (S : Store) (o : Option (D × Store)) : gselS (.b false) false S o = o := (rfl)
@[simp] theorem gselS_tf (S : Store) (o : Option (D × Store)) : gselS (.b true) false S o = some (.tup [], S) := (rfl)
@[simp] theorem gselS_ft (S : Store) (o : Option (D × Store)) : gselS (.b false) true S o = some (.tup [], S) := (rfl)
@[simp] theorem gselS_skip (w : Bool) (S : Store) (o : Option (D × Store)) : gselS (.tup []) w S o = some (.tup [], S) := (rfl)

/-! The frame is kept as a list that stands there. -/
def setF : List D → Nat → D → (List D → Prop) → Prop
  | [], _, _, K => K []
  | _ :: l, 0, v, K => K (v :: l)
  | d :: l, n + 1, v, K => setF l n v fun l' => K (d :: l')
def setO (fr : List D) (dst : Option Nat) (d : D) (K : List D → Prop) : Prop := match dst with
  | none => K fr
  | some t => setF fr t d K
def killF : List D → List Nat → (List D → Prop) → Prop
  | fr, [], K => K fr
  | fr, t :: l, K => setF fr t .top fun fr' => killF fr' l K
def frc : List D → (List D → Prop) → Prop
  | [], K => K []
  | d :: l, K => frc l fun l' => K (d :: l')

theorem setF_eq : ∀ (fr : List D) (t : Nat) (d : D) (K : List D → Prop), setF fr t d K = K (fset fr t d)
  | [], _, _, _ => rfl
  | _ :: _, 0, _, _ => rfl
  | _ :: l, n + 1, v, K => by simp only [setF, fset]; exact setF_eq l n v _
theorem setO_eq (fr : List D) (dst : Option Nat) (d : D) (K : List D → Prop) : setO fr dst d K = K (fsetO fr dst d) := by
  cases dst with
  | none => rfl
  | some t => exact setF_eq fr t d K
theorem killF_eq : ∀ (l : List Nat) (fr : List D) (K : List D → Prop), killF fr l K = K (fkill fr l)
  | [], _, _ => rfl
  | t :: l, fr, K => by simp only [killF, setF_eq, fkill]; exact killF_eq l _ K
theorem frc_eq : ∀ (fr : List D) (K : List D → Prop), frc fr K = K fr
  | [], _ => rfl
  | d :: l, K => by simp only [frc]; exact frc_eq l _

def wpI (cf : CallF) : List I → List D → Store → (List D → Store → Prop) → Prop
  | [], fr, S, Q => Q fr S
  | .op dst none r :: is, fr, S, Q => wpR cf fr S r fun d S' => setO fr dst d fun fr' => wpI cf is fr' S' Q
  | .op dst (some (t, w)) r :: is, fr, S, Q => match isV r with
    | true => OX (gsel (fget fr t) w (rV cf fr S r)) fun d => setO fr dst d fun fr' => wpI cf is fr' S Q
    | false => OX (gselS (fget fr t) w S (evR cf fr S r)) fun p => setO fr dst p.1 fun fr' => wpI cf is fr' p.2 Q
  | .fz t :: is, fr, S, Q => OX (fzD (fget fr t) S) fun p => setF fr t p.1 fun fr' => wpI cf is fr' p.2 Q
  | .ck t r :: is, fr, S, Q => match isV r with
    | true => OX (rV cf fr S r) fun d => deq d (fget fr t) = true ∧ wpI cf is fr S Q
    | false => OX (evR cf fr S r) fun p => deq p.1 (fget fr t) = true ∧ wpI cf is fr S Q

def wp (cf : CallF) : C → List D → Store → (Ex → List D → Store → Prop) → Prop
  | .skip, fr, S, Q => Q .normal fr S
  | .reg is kl, fr, S, Q => wpI cf is fr S fun fr' S' => killF fr' kl fun fr2 => Q .normal fr2 S'
  | .dreg is kl, fr, S, Q => wpI cf (snds is) fr S fun fr' S' => killF fr' kl fun fr2 => Q .normal fr2 S'
  | .seq a b, fr, S, Q => wp cf a fr S (Qseq (fun fr' S' => wp cf b fr' S' Q) Q)
  | .cond c a b, fr, S, Q => WB (av fr c) (wp cf a fr S Q) (wp cf b fr S Q)
  | .blk id a, fr, S, Q => wp cf a fr S (Qblk id Q)
  | .loop kl a, fr, S, Q => W cf (.loop kl a) fr S Q
  | .exit id, fr, S, Q => Q (.exit id) fr S
  | .ret, fr, S, Q => Q .ret fr S
  | .bad, _, _, _ => False

section
variable {cf : CallF} {fr fr' : List D} {S S' : Store}

theorem bldV_eq : ∀ (ps : List (Nat × Nat × Bool × A)) (z : List D), bldV z (avP fr ps) = bldD fr z ps
  | [], _ => rfl
  | (o, k, g, x) :: ps, z => by
    simp only [avP, bldV, bldD]
    cases cellsK k g (av fr x) with
    | none => rfl
    | some cs =>
      simp only
      split
      · exact bldV_eq ps _
      · rfl

theorem cellsV_eq (k : Nat) (g : Bool) : ∀ (xs : List A), cellsV k g (avs fr xs) = cellsAll fr k g xs
  | [] => rfl
  | x :: xs => by
    simp only [avs, cellsV, cellsAll, cellsV_eq k g xs]
    cases cellsK k g (av fr x) <;> cases cellsAll fr k g xs <;> rfl

theorem rV_eq {r : R} (h : isV r = true) : evR cf fr S r = (rV cf fr S r).map fun d => (d, S) := by
  cases r <;> simp only [isV] at h <;> (try (cases h; done)) <;> simp only [evR, rV]
  case mv x => rfl
  case nilck x => cases av fr x <;> rfl
  case pick c a b =>
    cases av fr c <;> rfl
  case bld z ps => rw [bldV_eq]; cases bldD fr z ps <;> rfl
  case bsl k g own xs =>
    rw [cellsV_eq]
    have : own = false := by simpa using h
    subst this
    cases cellsAll fr k g xs <;> rfl
  case conv k x => cases av fr x <;> rfl
  case mkfn g cs => rfl
  case fa o x => cases av fr x <;> rfl
  case fld o k g x => cases av fr x <;> rfl
  case iaa n k x i =>
    cases av fr x <;> try rfl
    cases av fr i <;> try rfl
    simp only [iaaD]
    split <;> rfl
  case ixs x i =>
    cases av fr x <;> try rfl
    cases av fr i <;> try rfl
    rename_i l k m
    simp only [ixsD]
    split
    · cases l[m.toNat]? <;> rfl
    · rfl
  case lk kk ok z m key =>
    simp only [lkD']
    split
    · cases av fr m <;> try rfl
      rename_i id
      simp only
      cases sget S id with
      | none => rfl
      | some e =>
        cases e <;> try rfl
        rename_i es
        simp only
        cases lkD kk (av fr key) es with
        | none => rfl
        | some r => cases r <;> rfl
    · rfl
  case ext x j => cases av fr x <;> rfl
  case len str x => cases str <;> cases av fr x <;> rfl
  case mx x y =>
    cases av fr x <;> try rfl
    cases av fr y <;> try rfl
    simp only [mxD]
    split <;> rfl
  case mn x y =>
    cases av fr x <;> try rfl
    cases av fr y <;> try rfl
    simp only [mnD]
    split <;> rfl
  case call g iso args => subst h; rfl
  case calld f iso args => subst h; cases av fr f <;> rfl
  case cmps x y =>
    cases av fr x <;> try rfl
    cases av fr y <;> rfl

theorem OX_map {α β : Type} (o : Option α) (f : α → β) (K : β → Prop) : OX (o.map f) K = OX o fun x => K (f x) := by cases o <;> rfl

theorem wpR_eq (r : R) (K : D → Store → Prop) : wpR cf fr S r K = OX (evR cf fr S r) fun p => K p.1 p.2 := by
  have v : ∀ r, isV r = true → (OX (rV cf fr S r) fun d => K d S) = OX (evR cf fr S r) fun p => K p.1 p.2 := by
    intro r h
    rw [rV_eq h, OX_map]
  cases r <;> try exact v _ rfl
  case mv x => rfl
  case mkfn g cs => rfl
  case alloc z => rfl
  case mkmap => rfl
  case box k g x => simp only [wpR, evR, OX_map]
  case bld z ps => rw [← v _ rfl]; simp only [wpR, rV, OX_map]
  case bsl k g own xs =>
    cases own with
    | false => rw [← v _ rfl]; simp only [wpR, rV, OX_map]
    | true =>
      simp only [wpR, evR, cellsV_eq, OX_map, if_true]
      rfl
  case st k g a x => simp only [wpR, evR, OX_map]
  case mksl k arr z n =>
    simp only [wpR, evR]
    cases av fr n <;> rfl
  case mu kk m key x =>
    simp only [wpR, evR, muD']
    split
    · cases av fr m <;> try rfl
      rename_i id
      simp only
      cases sget S id with
      | none => rfl
      | some e =>
        cases e <;> try rfl
        simp only [OX_map]
    · rfl
  case ment kk z m key => rfl
  case est m j x =>
    simp only [wpR, evR, estV]
    cases av fr m <;> try rfl
    cases av fr j <;> try rfl
    rename_i id k n
    simp only
    cases sget S id with
    | none => rfl
    | some e =>
      cases e <;> try rfl
      simp only
      split <;> rfl
  case app k arr x y => rfl
  case clr k z x =>
    simp only [wpR, evR, clrD]
    cases av fr x <;> try rfl
    · rename_i k' nl xs ow
      cases xs <;> rfl
    · rename_i k' id o n
      simp only
      split
      · cases sget S id with
        | none => rfl
        | some e =>
          cases e <;> try rfl
          simp only
          split <;> rfl
      · rfl
  case call g iso args =>
    cases iso with
    | true => rw [← v _ rfl]; rfl
    | false => rfl
  case calld f iso args =>
    cases iso with
    | true =>
      rw [← v _ rfl]
      simp only [wpR, rV]
      cases fnD (av fr f) <;> rfl
    | false =>
      simp only [wpR, evR, callR]
      cases av fr f <;> rfl

theorem wpI_eq (Q : List D → Store → Prop) : ∀ (is : List I) (fr : List D) (S : Store), wpI cf is fr S Q = WI cf is fr S Q
  | [], _, _ => rfl
  | .op dst none r :: is, fr, S => by
    rw [WI_op]
    simp only [wpI, wpR_eq, setO_eq]
    cases evR cf fr S r with
    | none => rfl
    | some p => exact wpI_eq Q is _ _
  | .op dst (some (t, w)) r :: is, fr, S => by
    have e : wpI cf (.op dst (some (t, w)) r :: is) fr S Q = OX (gselS (fget fr t) w S (evR cf fr S r)) fun p => wpI cf is (fsetO fr dst p.1) p.2 Q := by
      simp only [wpI, setO_eq]
      split
      · rename_i h
        rw [rV_eq h]
        cases hd : fget fr t <;> try rfl
        · simp only [gsel, gselS]
          split
          · rw [OX_map]
          · rfl
        · rename_i l
          cases l <;> rfl
      · rfl
    rw [e, WI_gd]
    generalize fget fr t = d
    cases d <;> try rfl
    · rename_i x
      simp only [gselS, WG]
      split
      · cases evR cf fr S r with
        | none => rfl
        | some p => exact wpI_eq Q is _ _
      · exact wpI_eq Q is _ _
    · rename_i l
      cases l with
      | nil => exact wpI_eq Q is _ _
      | cons _ _ => rfl
  | .fz t :: is, fr, S => by
    rw [WI_fz]
    simp only [wpI, setF_eq]
    cases fzD (fget fr t) S with
    | none => rfl
    | some p => exact wpI_eq Q is _ _
  | .ck t r :: is, fr, S => by
    have e : wpI cf (.ck t r :: is) fr S Q = OX (evR cf fr S r) fun p => deq p.1 (fget fr t) = true ∧ wpI cf is fr S Q := by
      simp only [wpI]
      split
      · rename_i h
        rw [rV_eq h, OX_map]
      · rfl
    rw [e]
    simp only [WI, evI]
    cases evR cf fr S r with
    | none => rfl
    | some p =>
      simp only [OX]
      rw [wpI_eq Q is]
      by_cases h : deq p.1 (fget fr t) = true
      · simp [h]
      · have : deq p.1 (fget fr t) = false := by simpa using h
        simp [this]

theorem wp_W : ∀ (c : C) (fr : List D) (S : Store) (Q : Ex → List D → Store → Prop), wp cf c fr S Q = W cf c fr S Q
  | .skip, fr, S, Q => by rw [W_skip]; rfl
  | .reg is kl, fr, S, Q => by rw [W_reg, ← wpI_eq]; simp only [wp, killF_eq]
  | .dreg is kl, fr, S, Q => by rw [W_dreg, propext (WD_WI _ is fr S), ← wpI_eq]; simp only [wp, killF_eq]
  | .seq a b, fr, S, Q => by
    rw [W_seq, ← wp_W a]
    have : (fun fr S => W cf b fr S Q) = fun fr S => wp cf b fr S Q := by funext fr S; rw [wp_W b]
    rw [this]; rfl
  | .cond c a b, fr, S, Q => by rw [W_cond, ← wp_W a, ← wp_W b]; rfl
  | .blk id a, fr, S, Q => by rw [W_blk, ← wp_W a]; rfl
  | .loop kl a, fr, S, Q => rfl
  | .exit id, fr, S, Q => by rw [W_exit]; rfl
  | .ret, fr, S, Q => by rw [W_ret]; rfl
  | .bad, fr, S, Q => by simp [wp, W, execL]

end

end Go.Proofs.YtjlmeikcfdanmaaGreatDoor.DE

namespace Go.Proofs.YtjlmeikcfdanmaaGreatDoor.DE
open Go

/-- Behind a loop: what stands there next. -/
def QS (cf : CallF) (b : C) (Q : Ex → List D → Store → Prop) : Ex → List D → Store → Prop := Qseq (fun fr S => wp cf b fr S Q) Q

@[congr] theorem QS_congr {cf : CallF} {b : C} {Q : Ex → List D → Store → Prop} {ex ex' : Ex} {fr fr' : List D} {S S' : Store} (e : ex = ex') (h : fr = fr') (k : S = S') : QS cf b Q ex fr S = QS cf b Q ex' fr' S' := by rw [e, h, k]
@[simp] theorem QS_normal (cf : CallF) (b : C) (Q : Ex → List D → Store → Prop) (fr : List D) (S : Store) : QS cf b Q .normal fr S = wp cf b fr S Q := (rfl)
@[simp] theorem QS_exit (cf : CallF) (b : C) (Q : Ex → List D → Store → Prop) (id : Nat) (fr : List D) (S : Store) : QS cf b Q (.exit id) fr S = Q (.exit id) fr S := (rfl)
@[simp] theorem QS_ret (cf : CallF) (b : C) (Q : Ex → List D → Store → Prop) (fr : List D) (S : Store) : QS cf b Q .ret fr S = Q .ret fr S := (rfl)
/-- The code, its frame as a list that stands there. -/
def wpS (cf : CallF) (c : C) (fr : List D) (S : Store) (Q : Ex → List D → Store → Prop) : Prop := frc fr fun fr' => wp cf c fr' S Q
theorem wpS_eq (cf : CallF) (c : C) (fr : List D) (S : Store) (Q : Ex → List D → Store → Prop) : wpS cf c fr S Q = wp cf c fr S Q := frc_eq fr _
theorem wpS_of {cf : CallF} {c : C} {fr : List D} {S : Store} {Q : Ex → List D → Store → Prop} {X : Prop} (h : wpS cf c fr S Q = X) : wp cf c fr S Q = X := (wpS_eq cf c fr S Q).symm.trans h
@[congr] theorem wp_congr {cf : CallF} {c : C} {Q : Ex → List D → Store → Prop} {fr fr' : List D} {S S' : Store} (h : fr = fr') (k : S = S') : wp cf c fr S Q = wp cf c fr' S' Q := by rw [h, k]
@[simp] theorem wp_skip (cf : CallF) (Q : Ex → List D → Store → Prop) (fr : List D) (S : Store) : wp cf .skip fr S Q = Q .normal fr S := (rfl)
@[simp] theorem wp_ret (cf : CallF) (Q : Ex → List D → Store → Prop) (fr : List D) (S : Store) : wp cf .ret fr S Q = Q .ret fr S := (rfl)
@[simp] theorem wp_exit (cf : CallF) (Q : Ex → List D → Store → Prop) (id : Nat) (fr : List D) (S : Store) : wp cf (.exit id) fr S Q = Q (.exit id) fr S := (rfl)
attribute [simp] Qseq_normal Qseq_exit Qseq_ret Qblk_normal Qblk_ret Qblk_same Qblk_other

/-- The cell of a result. -/
def ldc (S : Store) (k : Nat) (g : Bool) : D → Option D
  | .bx id o => ldD S k g (.bx id o)
  | _ => none

def finR (fr : List D) (S : Store) : List Res → (List D → Prop) → Prop
  | [], K => K []
  | .t n :: l, K => finR fr S l fun m => K (fget fr n :: m)
  | .cell n k g :: l, K => OX (ldc S k g (fget fr n)) fun d => finR fr S l fun m => K (d :: m)

theorem finR_eq (fr : List D) (S : Store) : ∀ (l : List Res) (K : List D → Prop), finR fr S l K = match resL fr S l with | some m => K m | none => False
  | [], K => rfl
  | .t n :: l, K => by
    simp only [finR, resL, res1, finR_eq fr S l]
    cases resL fr S l <;> rfl
  | .cell n k g :: l, K => by
    have e : res1 fr S (.cell n k g) = ldc S k g (fget fr n) := by
      simp only [res1]
      cases fget fr n <;> rfl
    simp only [finR, resL, e, finR_eq fr S l]
    cases ldc S k g (fget fr n) <;> cases resL fr S l <;> rfl

def FinK (res : List Res) (Post : D → Store → Prop) : Ex → List D → Store → Prop
  | .exit _, _, _ => False
  | _, fr, S => finR fr S res fun l => Post (resD l) S

@[congr] theorem FinK_congr {res : List Res} {Post : D → Store → Prop} {ex ex' : Ex} {fr fr' : List D} {S S' : Store} (e : ex = ex') (h : fr = fr') (k : S = S') : FinK res Post ex fr S = FinK res Post ex' fr' S' := by rw [e, h, k]
@[simp] theorem FinK_ret1 (n : Nat) (Post : D → Store → Prop) (fr : List D) (S : Store) : FinK [.t n] Post .ret fr S = Post (fget fr n) S := (rfl)
@[simp] theorem FinK_ret2 (n m : Nat) (Post : D → Store → Prop) (fr : List D) (S : Store) : FinK [.t n, .t m] Post .ret fr S = Post (.tup [fget fr n, fget fr m]) S := (rfl)
@[simp] theorem FinK_normal (res : List Res) (Post : D → Store → Prop) (fr : List D) (S : Store) : FinK res Post .normal fr S = FinK res Post .ret fr S := (rfl)
@[simp] theorem FinK_cell1 (n k : Nat) (g : Bool) (Post : D → Store → Prop) (fr : List D) (S : Store) : FinK [.cell n k g] Post .ret fr S = OX (ldc S k g (fget fr n)) fun d => Post d S := (rfl)

theorem FinK_Fin (f : Fn) (Post : D → Store → Prop) (ex : Ex) (fr : List D) (S : Store) (h : FinK f.res Post ex fr S) : Fin f Post ex fr S := by
  cases ex with
  | exit id => exact h
  | normal => simp only [FinK, finR_eq] at h; exact h
  | ret => simp only [FinK, finR_eq] at h; exact h

def bxx (k : Nat) (g : Bool) (x : D) (S : Store) (K : D → Store → Prop) : Prop := OX (cellsK k g x) fun cs => K (.bx S.length 0) (.box cs :: S)

theorem stripL_len : ∀ l : List D, (stripL l).length = l.length
  | [] => rfl
  | _ :: l => by simp [stripL, stripL_len l]

section
variable {dp : Nat → Option Fn}
theorem call_s {g : Nat} {f : Fn} {args : List D} {S : Store} {Post : D → Store → Prop} (hg : dp g = some f) (hn : args.length = f.np ∧ f.np ≤ f.nt)
    (h : wp (call dp) f.body (frame0 f args) S (FinK f.res Post)) : ∃ r S', call dp g args S = some (r, S') ∧ Post r S' := by
  rw [wp_W] at h
  exact call_W hg hn (W_mono h (FinK_Fin f Post))

theorem iso_s {g : Nat} {f : Fn} {args : List D} {r : D} (hg : dp g = some f) (hn : args.length = f.np ∧ f.np ≤ f.nt) (ha : noRefL (stripL args) = true) (hr : noRef r = true)
    (h : wp (call dp) f.body (frame0 f (stripL args)) [] (FinK f.res fun d _ => stripT d = r)) : isoCall (call dp) g args = some r := by
  rw [wp_W] at h
  exact iso_W hg hn ha hr (W_mono h (FinK_Fin f _))

theorem iso_x {g : Nat} {f : Fn} {args : List D} {Post : D → Prop} (hg : dp g = some f) (hn : args.length = f.np ∧ f.np ≤ f.nt) (ha : noRefL (stripL args) = true) (hr : ∀ r, Post r → noRef r = true)
    (h : wp (call dp) f.body (frame0 f (stripL args)) [] (FinK f.res fun d _ => Post (stripT d))) : ∃ r, isoCall (call dp) g args = some r ∧ Post r := by
  obtain ⟨d, S', e, hp⟩ := call_s (Post := fun d _ => Post (stripT d)) hg (by rw [stripL_len]; exact hn) h
  exact ⟨_, by simp only [isoCall, ha, if_true, e, hr _ hp], hp⟩
end

/-! Frames. -/
theorem fset_len : ∀ (l : List D) (i : Nat) (v : D), (fset l i v).length = l.length
  | [], _, _ => rfl
  | _ :: _, 0, _ => rfl
  | _ :: l, i + 1, v => by simp [fset, fset_len l i v]
theorem mkf_len (n : Nat) : ∀ l, (mkf n l).length = n
  | [] => by simp [mkf]
  | (i, v) :: l => by rw [mkf, fset_len, mkf_len n l]
theorem fget_fset_same : ∀ (l : List D) (i : Nat) (v : D), i < l.length → fget (fset l i v) i = v
  | [], _, _, h => by simp at h
  | _ :: _, 0, _, _ => rfl
  | _ :: l, i + 1, v, h => by simp only [fset, fget]; exact fget_fset_same l i v (by simpa using h)
theorem fget_fset_ne : ∀ (l : List D) (i j : Nat) (v : D), i ≠ j → fget (fset l i v) j = fget l j
  | [], _, _, _, _ => rfl
  | _ :: _, 0, 0, _, h => absurd rfl h
  | _ :: _, 0, _ + 1, _, _ => rfl
  | _ :: _, _ + 1, 0, _, _ => rfl
  | _ :: l, i + 1, j + 1, v, h => by simp only [fset, fget]; exact fget_fset_ne l i j v (by omega)
@[simp] theorem fget_mkf_hit (n i : Nat) (v : D) (l : List (Nat × D)) (h : i < n) : fget (mkf n ((i, v) :: l)) i = v := by
  rw [mkf]; exact fget_fset_same _ _ _ (by rw [mkf_len]; exact h)
@[simp] theorem fget_mkf_miss (n i j : Nat) (v : D) (l : List (Nat × D)) (h : (i == j) = false) : fget (mkf n ((i, v) :: l)) j = fget (mkf n l) j := by
  rw [mkf]; exact fget_fset_ne _ _ _ _ (by simpa using h)

@[simp] theorem WB_b (c : Bool) (X Y : Prop) : WB (.b c) X Y = if c = true then X else Y := by cases c <;> rfl
@[congr] theorem jn_congr {α : Type} {K : α} {X : α → Prop} : jn K X = jn K X := rfl

end Go.Proofs.YtjlmeikcfdanmaaGreatDoor.DE

namespace Go.Proofs.YtjlmeikcfdanmaaGreatDoor.DE.V
open Go

/-! The store. -/
theorem sget_lt {α : Type} {e : α} : ∀ {S : List α} {id : Nat}, sget S id = some e → id < S.length
  | [], _, h => by simp [sget] at h
  | x :: S, id, h => by
    simp only [sget] at h
    split at h
    · rename_i q; simp [q]
    · have := sget_lt h; simp; omega

@[simp] theorem sget_top {α : Type} (e : α) (S : List α) : sget (e :: S) S.length = some e := by simp [sget]
theorem sget_push {α : Type} {e x : α} {S : List α} {id : Nat} (h : sget S id = some x) : sget (e :: S) id = some x := by
  have := sget_lt h
  simp only [sget]
  rw [if_neg (by omega)]; exact h
@[simp] theorem sset_top {α : Type} (e x : α) (S : List α) : sset (e :: S) S.length x = x :: S := by simp [sset]
theorem sset_len {α : Type} (x : α) : ∀ (S : List α) (id : Nat), (sset S id x).length = S.length
  | [], _ => rfl
  | e :: S, id => by
    simp only [sset]
    split
    · rfl
    · simp [sset_len x S id]
theorem sget_sset {α : Type} (x : α) : ∀ {S : List α} {id : Nat}, id < S.length → sget (sset S id x) id = some x
  | [], _, h => by simp at h
  | e :: S, id, h => by
    simp only [sset]
    split
    · rename_i q; simp [sget, q]
    · rename_i q
      simp only [sget, sset_len]
      rw [if_neg q]
      exact sget_sset x (by simp at h; omega)
theorem sget_sset_ne {α : Type} (x : α) : ∀ {S : List α} {id j : Nat}, j ≠ id → sget (sset S id x) j = sget S j
  | [], _, _, _ => rfl
  | e :: S, id, j, h => by
    simp only [sset]
    split
    · rename_i q
      subst q
      simp [sget, h]
    · simp only [sget, sset_len]
      rw [sget_sset_ne x h]

/-! A truth value is split where it comes up. -/
@[simp high] theorem OX_b (c : Bool) (K : D → Prop) : OX (some (.b c)) K = if c = true then K (.b true) else K (.b false) := by cases c <;> rfl
theorem OX_none {α : Type} (K : α → Prop) : OX none K = False := rfl

/-! Integers of the machine. -/
def in64 (n : Int) : Prop := -9223372036854775808 ≤ n ∧ n ≤ 9223372036854775807
/-! Values. -/
abbrev Row := Int × Int
abbrev Nd := Int × Int × Int

def eRow (r : Row) : List D := [.i .i64 r.1, .i .i64 r.2]
def eNd (x : Nd) : List D := [.i .i64 x.1, .i .i64 x.2.1, .i .i64 x.2.2]
def eRows (nl : Bool) (l : List Row) : D := .sl 2 nl (l.map eRow) .ro
def eNds (nl : Bool) (l : List Nd) : D := .sl 3 nl (l.map eNd) .ro
def eB (nl nl' : Bool) (ord : List Row) (ns : List Nd) (root : Int) : D := .agg [eRows nl ord, eNds nl' ns, .i .i64 root]

def okRow (r : Row) : Prop := in64 r.1 ∧ in64 r.2
def okNd64 (r : Nd) : Prop := in64 r.1 ∧ in64 r.2.1 ∧ in64 r.2.2
def rowOk (r : Row) : Bool := decide (1 ≤ r.1) && decide (1 ≤ r.2)

theorem noRefL_eRow (r : Row) : noRefL (eRow r) = true := rfl
theorem noRefL_eNd (r : Nd) : noRefL (eNd r) = true := rfl
theorem noRefLL_map {α : Type} (f : α → List D) (h : ∀ x, noRefL (f x) = true) : ∀ l : List α, noRefLL (l.map f) = true
  | [] => rfl
  | x :: l => by simp [noRefLL, h x, noRefLL_map f h l]
@[simp] theorem noRef_eRows (nl : Bool) (l : List Row) : noRef (eRows nl l) = true := by simp [eRows, noRef, noRefLL_map eRow noRefL_eRow l]
@[simp] theorem noRef_eNds (nl : Bool) (l : List Nd) : noRef (eNds nl l) = true := by simp [eNds, noRef, noRefLL_map eNd noRefL_eNd l]
@[simp] theorem noRef_eB (nl nl' : Bool) (ord : List Row) (ns : List Nd) (root : Int) : noRef (eB nl nl' ord ns root) = true := by simp [eB, noRef, noRefL]
@[simp] theorem noRef_row (r : Row) : noRef (.agg (eRow r)) = true := (rfl)
@[simp] theorem noRef_nd (r : Nd) : noRef (.agg (eNd r)) = true := (rfl)
@[simp] theorem strip_eRows (nl : Bool) (l : List Row) : strip (eRows nl l) = eRows nl l := (rfl)
@[simp] theorem strip_eNds (nl : Bool) (l : List Nd) : strip (eNds nl l) = eNds nl l := (rfl)
@[simp] theorem strip_eB (nl nl' : Bool) (ord : List Row) (ns : List Nd) (root : Int) : strip (eB nl nl' ord ns root) = eB nl nl' ord ns root := (rfl)
@[simp] theorem strip_row (r : Row) : strip (.agg (eRow r)) = .agg (eRow r) := (rfl)
@[simp] theorem strip_nd (r : Nd) : strip (.agg (eNd r)) = .agg (eNd r) := (rfl)
@[simp] theorem strip_i (k : IntKind) (n : Int) : strip (.i k n) = .i k n := (rfl)
@[simp] theorem strip_b (n : Bool) : strip (.b n) = .b n := (rfl)
@[simp] theorem stripT_eRows (nl : Bool) (l : List Row) : stripT (eRows nl l) = eRows nl l := (rfl)
@[simp] theorem stripT_eNds (nl : Bool) (l : List Nd) : stripT (eNds nl l) = eNds nl l := (rfl)
@[simp] theorem stripT_eB (nl nl' : Bool) (ord : List Row) (ns : List Nd) (root : Int) : stripT (eB nl nl' ord ns root) = eB nl nl' ord ns root := (rfl)
@[simp] theorem stripT_i (k : IntKind) (n : Int) : stripT (.i k n) = .i k n := (rfl)
@[simp] theorem stripT_b (n : Bool) : stripT (.b n) = .b n := (rfl)
@[simp] theorem noRef_i (k : IntKind) (n : Int) : noRef (.i k n) = true := (rfl)
@[simp] theorem noRef_b (n : Bool) : noRef (.b n) = true := (rfl)

theorem wrap64 {n : Int} (h : in64 n) : IntKind.wrap .i64 n = n := by
  obtain ⟨h1, h2⟩ := h
  rcases Int.lt_or_le n 0 with h | h
  · have e : n % 18446744073709551616 = n + 18446744073709551616 := by omega
    simp [IntKind.wrap, IntKind.signed, IntKind.bits, e]
    omega
  · have e : n % 18446744073709551616 = n := by omega
    simp [IntKind.wrap, IntKind.signed, IntKind.bits, e]
    omega

/-! Slices of structs. -/
theorem lenD_rows (nl : Bool) (l : List Row) : lenD false (eRows nl l) = some (.i .i64 l.length) := by simp [eRows, lenD]
theorem lenD_nds (nl : Bool) (l : List Nd) : lenD false (eNds nl l) = some (.i .i64 l.length) := by simp [eNds, lenD]
theorem iaD_rows {nl : Bool} {l : List Row} {n : Nat} {r : Row} (k : IntKind) (h : l[n]? = some r) : iaD 2 (eRows nl l) (.i k n) = some (.el (eRow r) 0) := by simp [eRows, iaD, h]
theorem iaD_nds {nl : Bool} {l : List Nd} {n : Nat} {r : Nd} (k : IntKind) (h : l[n]? = some r) : iaD 3 (eNds nl l) (.i k n) = some (.el (eNd r) 0) := by simp [eNds, iaD, h]
theorem iaD_nds' {nl : Bool} {l : List Nd} {n : Int} {r : Nd} (k : IntKind) (h0 : 0 ≤ n) (h : l[n.toNat]? = some r) : iaD 3 (eNds nl l) (.i k n) = some (.el (eNd r) 0) := by simp [eNds, iaD, h, h0]
@[simp] theorem ldD_el_row (S : Store) (r : Row) : ldD S 2 true (.el (eRow r) 0) = some (.agg (eRow r)) := by simp [ldD, rdK, eRow]
@[simp] theorem ldD_el_nd (S : Store) (r : Nd) : ldD S 3 true (.el (eNd r) 0) = some (.agg (eNd r)) := by simp [ldD, rdK, eNd]

theorem seqL_row (r s : Row) : seqL [.i, .i] (eRow r) (eRow s) = some (decide (r = s)) := by
  have : decide (r = s) = (r.1 == s.1 && r.2 == s.2) := by
    rw [Bool.eq_iff_iff]; simp [Prod.ext_iff]
  simp [eRow, seqL, isSK, seq1, this]
theorem seqL_nd (r s : Nd) : seqL [.i, .i, .i] (eNd r) (eNd s) = some (decide (r = s)) := by
  have : decide (r = s) = (r.1 == s.1 && (r.2.1 == s.2.1 && r.2.2 == s.2.2)) := by
    rw [Bool.eq_iff_iff]; simp [Prod.ext_iff]
  simp [eNd, seqL, isSK, seq1, this]

theorem isKey_row (r : Row) : isKey (.agg [.i, .i]) (.agg (eRow r)) = true := rfl
theorem isKey_nd (r : Nd) : isKey (.agg [.i, .i, .i]) (.agg (eNd r)) = true := rfl
theorem isKey_i (k : IntKind) (r : Int) : isKey (.one .i) (.i k r) = true := rfl

/-! The operations where the values' shapes are seen. -/
section
variable (k : IntKind) (a b : Int) (S : Store) (cs : List D) (id o p : Nat) (K : D → Store → Prop)
def ldE : Option Ent → Nat → Bool → Nat → Option D
  | some (.box cs), k, g, o => rdK cs o k g
  | _, _, _, _ => none
@[simp] theorem ldD_bx (k : Nat) (g : Bool) : ldD S k g (.bx id o) = ldE (sget S id) k g o := by
  simp only [ldD, ldE]
  cases sget S id with
  | none => rfl
  | some e => cases e <;> rfl
@[simp] theorem ldE_box (k : Nat) (g : Bool) : ldE (some (.box cs)) k g o = rdK cs o k g := (rfl)
@[simp] theorem ldD_el (k : Nat) (g : Bool) : ldD S k g (.el cs o) = rdK cs o k g := (rfl)
@[simp] theorem rdK_one (k : Nat) : rdK cs o k false = cs[o]? := (rfl)
theorem rdK_all {cs : List D} {k : Nat} (h : cs.length = k) : rdK cs 0 k true = some (.agg cs) := by
  subst h; simp [rdK]
@[simp] theorem rdK_row (r : Row) : rdK (eRow r) 0 2 true = some (.agg (eRow r)) := rdK_all rfl
@[simp] theorem rdK_nd (r : Nd) : rdK (eNd r) 0 3 true = some (.agg (eNd r)) := rdK_all rfl
@[simp] theorem rdK_lit1 (x : D) : rdK [x] 0 1 true = some (.agg [x]) := (rfl)
@[simp] theorem rdK_lit2 (x y : D) : rdK [x, y] 0 2 true = some (.agg [x, y]) := (rfl)
@[simp] theorem rdK_lit3 (x y z : D) : rdK [x, y, z] 0 3 true = some (.agg [x, y, z]) := (rfl)
@[simp high] theorem row_0 (r : Row) : (eRow r)[0]? = some (.i .i64 r.1) := (rfl)
@[simp high] theorem row_1 (r : Row) : (eRow r)[1]? = some (.i .i64 r.2) := (rfl)
@[simp high] theorem nd_0 (r : Nd) : (eNd r)[0]? = some (.i .i64 r.1) := (rfl)
@[simp high] theorem nd_1 (r : Nd) : (eNd r)[1]? = some (.i .i64 r.2.1) := (rfl)
@[simp high] theorem nd_2 (r : Nd) : (eNd r)[2]? = some (.i .i64 r.2.2) := (rfl)
@[simp] theorem row_len (r : Row) : (eRow r).length = 2 := (rfl)
@[simp] theorem nd_len (r : Nd) : (eNd r).length = 3 := (rfl)
@[simp] theorem allCell_row (r : Row) : allCell (eRow r) = true := (rfl)
@[simp] theorem allCell_nd (r : Nd) : allCell (eNd r) = true := (rfl)
@[simp] theorem isCell_rows (nl : Bool) (l : List Row) : isCell (eRows nl l) = true := (rfl)
@[simp] theorem isCell_nds (nl : Bool) (l : List Nd) : isCell (eNds nl l) = true := (rfl)
@[simp] theorem isCell_i : isCell (.i k a) = true := (rfl)
@[simp] theorem isCell_b (c : Bool) : isCell (.b c) = true := (rfl)
@[simp] theorem isCell_bx : isCell (.bx id o) = true := (rfl)
@[simp] theorem isCell_mp : isCell (.mp id) = true := (rfl)
@[simp] theorem isCell_fn : isCell (.fn id cs) = true := (rfl)
@[simp] theorem isCell_nilm : isCell .nilm = true := (rfl)
@[simp] theorem isCell_sl (k : Nat) (n : Bool) (xs : List (List D)) (o : Own) : isCell (.sl k n xs o) = true := (rfl)
@[simp] theorem allCell_nil : allCell [] = true := (rfl)
@[simp] theorem allCell_cons (x : D) : allCell (x :: cs) = (isCell x && allCell cs) := (rfl)
@[simp] theorem faD_bx : faD o (.bx id p) = some (.bx id (p + o)) := (rfl)
@[simp] theorem faD_el : faD o (.el cs p) = some (.el cs (p + o)) := (rfl)
theorem cellsK_agg {cs : List D} {k : Nat} (h : cs.length = k) (h' : allCell cs = true) : cellsK k true (.agg cs) = some cs := by simp [cellsK, h, h']
@[simp] theorem cellsK_row (r : Row) : cellsK 2 true (.agg (eRow r)) = some (eRow r) := (rfl)
@[simp] theorem cellsK_nd (r : Nd) : cellsK 3 true (.agg (eNd r)) = some (eNd r) := (rfl)
@[simp] theorem cellsK_eB (nl nl' : Bool) (ord : List Row) (ns : List Nd) (root : Int) : cellsK 3 true (eB nl nl' ord ns root) = some [eRows nl ord, eNds nl' ns, .i .i64 root] := (rfl)
@[simp] theorem cellsK_i (m : Nat) : cellsK m false (.i k a) = some [.i k a] := (rfl)
@[simp] theorem cellsK_b (m : Nat) (c : Bool) : cellsK m false (.b c) = some [.b c] := (rfl)
@[simp] theorem cellsK_bx (m : Nat) : cellsK m false (.bx id o) = some [.bx id o] := (rfl)
@[simp] theorem cellsK_mp (m : Nat) : cellsK m false (.mp id) = some [.mp id] := (rfl)
@[simp] theorem cellsK_fn (m : Nat) : cellsK m false (.fn id cs) = some [.fn id cs] := (rfl)
@[simp] theorem cellsK_rows (m : Nat) (nl : Bool) (l : List Row) : cellsK m false (eRows nl l) = some [eRows nl l] := (rfl)
@[simp] theorem cellsK_nds (m : Nat) (nl : Bool) (l : List Nd) : cellsK m false (eNds nl l) = some [eNds nl l] := (rfl)
@[simp] theorem cellsK_sl (m k : Nat) (n : Bool) (xs : List (List D)) (o : Own) : cellsK m false (.sl k n xs o) = some [.sl k n xs o] := (rfl)
@[simp] theorem cellsK_lit3 (x y z : D) (hx : isCell x = true) (hy : isCell y = true) (hz : isCell z = true) : cellsK 3 true (.agg [x, y, z]) = some [x, y, z] := cellsK_agg rfl (by simp [hx, hy, hz])
@[simp] theorem cellsK_lit2 (x y : D) (hx : isCell x = true) (hy : isCell y = true) : cellsK 2 true (.agg [x, y]) = some [x, y] := cellsK_agg rfl (by simp [hx, hy])
@[simp] theorem bxx_eq (k : Nat) (g : Bool) (x : D) : bxx k g x S K = OX (cellsK k g x) fun cs => K (.bx S.length 0) (.box cs :: S) := (rfl)
@[simp] theorem al_eq (z : List D) : al z S K = K (.bx S.length 0) (.box z :: S) := (rfl)
@[simp] theorem mm_eq : mm S K = K (.mp S.length) (.map [] :: S) := (rfl)
@[simp] theorem bin_geq : binD .geq .num (.i k a) (.i k b) = some (.b (decide (b ≤ a))) := by simp [binD, intOp]
@[simp] theorem bin_leq : binD .leq .num (.i k a) (.i k b) = some (.b (decide (a ≤ b))) := by simp [binD, intOp]
@[simp] theorem bin_lss : binD .lss .num (.i k a) (.i k b) = some (.b (decide (a < b))) := by simp [binD, intOp]
@[simp] theorem bin_gtr : binD .gtr .num (.i k a) (.i k b) = some (.b (decide (b < a))) := by simp [binD, intOp]
@[simp] theorem bin_eql : binD .eql .num (.i k a) (.i k b) = some (.b (decide (a = b))) := by
  simp only [binD, intOp, if_true]; congr 2
@[simp] theorem bin_neq : binD .neq .num (.i k a) (.i k b) = some (.b (!decide (a = b))) := by
  simp only [binD, intOp, if_true]; congr 2
@[simp] theorem bin_add : binD .add .num (.i k a) (.i k b) = some (.i k (k.wrap (a + b))) := by simp [binD, intOp]
@[simp] theorem bin_sub : binD .sub .num (.i k a) (.i k b) = some (.i k (k.wrap (a - b))) := by simp [binD, intOp]
@[simp] theorem bin_beql (c d : Bool) : binD .eql .bool (.b c) (.b d) = some (.b (c == d)) := (rfl)
@[simp] theorem bin_bneq (c d : Bool) : binD .neq .bool (.b c) (.b d) = some (.b (!(c == d))) := (rfl)
@[simp] theorem bin_eql_row (r s : Row) : binD .eql (.agg [.i, .i]) (.agg (eRow r)) (.agg (eRow s)) = some (.b (decide (r = s))) := by simp only [binD, seqL_row, eqD]
@[simp] theorem bin_neq_row (r s : Row) : binD .neq (.agg [.i, .i]) (.agg (eRow r)) (.agg (eRow s)) = some (.b (!decide (r = s))) := by simp only [binD, seqL_row, eqD]
@[simp] theorem bin_eql_nd (r s : Nd) : binD .eql (.agg [.i, .i, .i]) (.agg (eNd r)) (.agg (eNd s)) = some (.b (decide (r = s))) := by simp only [binD, seqL_nd, eqD]
@[simp] theorem bin_neq_nd (r s : Nd) : binD .neq (.agg [.i, .i, .i]) (.agg (eNd r)) (.agg (eNd s)) = some (.b (!decide (r = s))) := by simp only [binD, seqL_nd, eqD]
@[simp] theorem bin_nil_rows (nl : Bool) (l : List Row) (m : Nat) (o : Own) : binD .eql .sl (eRows nl l) (.sl m true [] o) = some (.b nl) := (rfl)
@[simp] theorem bin_nil_nds (nl : Bool) (l : List Nd) (m : Nat) (o : Own) : binD .eql .sl (eNds nl l) (.sl m true [] o) = some (.b nl) := (rfl)
@[simp] theorem bin_mapnil : binD .eql .map (.mp id) .nilm = some (.b false) := (rfl)
@[simp] theorem bin_nilmap : binD .eql .map .nilm .nilm = some (.b true) := (rfl)
@[simp] theorem un_not (c : Bool) : unD .not (.b c) = some (.b (!c)) := (rfl)
@[simp] theorem pick_t (x y : D) : pickD (.b true) x y = some x := (rfl)
@[simp] theorem pick_f (x y : D) : pickD (.b false) x y = some y := (rfl)
@[simp] theorem ext_eq (j : Nat) : extD (.tup cs) j = cs[j]? := (rfl)
@[simp] theorem fnD_fn : fnD (.fn id cs) = some (id, cs) := (rfl)
@[simp] theorem lenD_rows' (nl : Bool) (l : List Row) : lenD false (eRows nl l) = some (.i .i64 l.length) := lenD_rows nl l
@[simp] theorem lenD_nds' (nl : Bool) (l : List Nd) : lenD false (eNds nl l) = some (.i .i64 l.length) := lenD_nds nl l
@[simp] theorem lenD_sl (k : Nat) (n : Bool) (xs : List (List D)) (o : Own) : lenD false (.sl k n xs o) = some (.i .i64 xs.length) := (rfl)
@[simp] theorem cellsV_nil (k : Nat) (g : Bool) : cellsV k g [] = some [] := (rfl)
@[simp] theorem cellsV_nd (r : Nd) : cellsV 3 true [.agg (eNd r)] = some [eNd r] := (rfl)
@[simp] theorem cellsV_row (r : Row) : cellsV 2 true [.agg (eRow r)] = some [eRow r] := (rfl)
@[simp] theorem cellsV_i : cellsV 1 false [.i k a] = some [[.i k a]] := (rfl)
@[simp] theorem cellsV_b (c : Bool) : cellsV 1 false [.b c] = some [[.b c]] := (rfl)
@[simp] theorem bslO_nil (k : Nat) : bslO k [] S = (.sl k false [] .cap0, S) := (rfl)
theorem app_cap0 {k : Nat} {n n' : Bool} {ys : List (List D)} {o : Own} (h : ys.length ≤ maxLenD) : appD k false (.sl k n [] .cap0) (.sl k n' ys o) S = some (if ys = [] then (.sl k n [] .cap0, S) else (.sl k false ys (.tok S.length), .tok true :: S)) := by
  simp only [appD, List.length_nil, Nat.zero_add, h, and_self, true_or, if_true]
  cases ys <;> rfl
theorem app_nil {k : Nat} {n' : Bool} {ys : List (List D)} {o o' : Own} (h : ys.length ≤ maxLenD) (ho : ∀ t, o ≠ .tok t) : appD k false (.sl k true [] o) (.sl k n' ys o') S = some (if ys = [] then (.sl k true [] o, S) else (.sl k false ys (.tok S.length), .tok true :: S)) := by
  simp only [appD, List.length_nil, Nat.zero_add, h, and_self, true_or, if_true]
  cases o with
  | tok t => exact absurd rfl (ho t)
  | ro => cases ys <;> rfl
  | cap0 => cases ys <;> rfl
theorem app_tok {k : Nat} {n' : Bool} {xs ys : List (List D)} {o' : Own} {t : Nat} (h : xs.length + ys.length ≤ maxLenD) (hs : sget S t = some (.tok true)) : appD k false (.sl k false xs (.tok t)) (.sl k n' ys o') S = some (.sl k false (xs ++ ys) (.tok S.length), .tok true :: sset S t (.tok false)) := by
  simp only [appD, h, and_self, true_or, if_true, hs]
  rfl
def stE : Option Ent → Store → Nat → Nat → Bool → Nat → D → Option Store
  | some (.box cs), S, id, k, g, o, v => match cellsK k g v with
    | some l => if o + k ≤ cs.length then some (sset S id (.box (splice cs o l))) else none
    | none => none
  | _, _, _, _, _, _, _ => none
@[simp] theorem stD_bx (k : Nat) (g : Bool) (v : D) : stD S k g (.bx id o) v = stE (sget S id) S id k g o v := by
  simp only [stD, stE]
  cases sget S id with
  | none => rfl
  | some e => cases e <;> rfl
theorem stE_box {k : Nat} {g : Bool} {v : D} {l : List D} (h : cellsK k g v = some l) (h' : o + k ≤ cs.length) : stE (some (.box cs)) S id k g o v = some (sset S id (.box (splice cs o l))) := by
  simp only [stE, h, if_pos h']
@[simp] theorem stE_box' (k : Nat) (g : Bool) (v : D) : stE (some (.box cs)) S id k g o v = (cellsK k g v).bind fun l => if o + k ≤ cs.length then some (sset S id (.box (splice cs o l))) else none := by
  simp only [stE]
  cases cellsK k g v <;> rfl
@[simp] theorem splice_nil : splice cs o [] = cs := (rfl)
@[simp] theorem splice_cons (x : D) (l : List D) : splice cs o (x :: l) = splice (fset cs o x) (o + 1) l := (rfl)
@[simp] theorem fset_zero (x y : D) : fset (x :: cs) 0 y = y :: cs := (rfl)
@[simp] theorem fset_succ (x y : D) (n : Nat) : fset (x :: cs) (n + 1) y = x :: fset cs n y := (rfl)
@[simp] theorem splice_row (x y : D) (r : Row) : splice [x, y] 0 (eRow r) = eRow r := (rfl)
@[simp] theorem splice_nd (x y z : D) (r : Nd) : splice [x, y, z] 0 (eNd r) = eNd r := (rfl)
theorem cellsK_cell {v : D} (h : isCell v = true) (k : Nat) : cellsK k false v = some [v] := by simp [cellsK, h]
@[simp high] theorem stE1_0 (x v : D) (h : isCell v = true) : stE (some (.box [x])) S id 1 false 0 v = some (sset S id (.box [v])) := by simp [cellsK_cell h]
@[simp high] theorem stE2_0 (x y v : D) (h : isCell v = true) : stE (some (.box [x, y])) S id 1 false 0 v = some (sset S id (.box [v, y])) := by simp [cellsK_cell h]
@[simp high] theorem stE2_1 (x y v : D) (h : isCell v = true) : stE (some (.box [x, y])) S id 1 false 1 v = some (sset S id (.box [x, v])) := by simp [cellsK_cell h]
@[simp high] theorem stE3_0 (x y z v : D) (h : isCell v = true) : stE (some (.box [x, y, z])) S id 1 false 0 v = some (sset S id (.box [v, y, z])) := by simp [cellsK_cell h]
@[simp high] theorem stE3_1 (x y z v : D) (h : isCell v = true) : stE (some (.box [x, y, z])) S id 1 false 1 v = some (sset S id (.box [x, v, z])) := by simp [cellsK_cell h]
@[simp high] theorem stE3_2 (x y z v : D) (h : isCell v = true) : stE (some (.box [x, y, z])) S id 1 false 2 v = some (sset S id (.box [x, y, v])) := by simp [cellsK_cell h]
@[simp] theorem stripL_nil : stripL [] = [] := (rfl)
@[simp] theorem stripL_cons (x : D) : stripL (x :: cs) = strip x :: stripL cs := (rfl)
@[simp] theorem stripT_tup : stripT (.tup cs) = .tup (stripL cs) := (rfl)
@[simp] theorem sget_cons (e : Ent) : sget (e :: S) id = if id = S.length then some e else sget S id := (rfl)
@[simp] theorem sset_cons (e x : Ent) : sset (e :: S) id x = if id = S.length then x :: S else e :: sset S id x := (rfl)
end

/-! Equality of values: each is equal to itself. -/
theorem oeq_self (o : Own) : oeq o o = true := by cases o <;> simp [oeq]
mutual
theorem deq_self : ∀ d : D, deq d d = true
  | .top => rfl
  | .b x => by simp [deq]
  | .i k n => by simp [deq]
  | .s l => by simp [deq]
  | .sl k n xs o => by simp [deq, oeq_self, deqLL_self xs]
  | .agg cs => by simp [deq, deqL_self cs]
  | .tup cs => by simp [deq, deqL_self cs]
  | .bx a b => by simp [deq]
  | .el cs o => by simp [deq, deqL_self cs]
  | .ar a b c d => by simp [deq]
  | .nilp => rfl
  | .nilm => rfl
  | .mp a => by simp [deq]
  | .fn g cs => by simp [deq, deqL_self cs]
theorem deqL_self : ∀ l : List D, deqL l l = true
  | [] => rfl
  | x :: l => by simp [deqL, deq_self x, deqL_self l]
theorem deqLL_self : ∀ l : List (List D), deqLL l l = true
  | [] => rfl
  | x :: l => by simp [deqLL, deqL_self x, deqLL_self l]
end
attribute [simp] deq_self

/-! A map whose values stand in a list of pairs, by the texts of the keys. -/
def assoc {α β : Type} [DecidableEq α] (a : α) : List (α × β) → Option β
  | [] => none
  | (k, v) :: es => if a = k then some v else assoc a es

theorem assoc_none {α β : Type} [DecidableEq α] {a : α} : ∀ {es : List (α × β)}, assoc a es = none ↔ ∀ p, p ∈ es → p.1 ≠ a
  | [] => by simp [assoc]
  | (k, v) :: es => by
    simp only [assoc]
    split
    · rename_i h
      simp only [List.mem_cons, reduceCtorEq, false_iff]
      intro q
      exact q (k, v) (Or.inl rfl) h.symm
    · rename_i h
      rw [assoc_none]
      constructor
      · intro q p hp
        rcases List.mem_cons.1 hp with hp | hp
        · subst hp; exact fun e => h e.symm
        · exact q p hp
      · exact fun q p hp => q p (List.mem_cons_of_mem _ hp)

theorem assoc_app {α β : Type} [DecidableEq α] (a : α) (fs : List (α × β)) : ∀ es : List (α × β), assoc a (es ++ fs) = match assoc a es with | some v => some v | none => assoc a fs
  | [] => rfl
  | (k, v) :: es => by
    simp only [List.cons_append, assoc]
    split
    · rfl
    · exact assoc_app a fs es

/-- The kind of key by which a map is read: ek is injective to the eyes of 'keq'. -/
def KeyE {α : Type} [DecidableEq α] (kk : KK) (ek : α → D) : Prop := ∀ a b, keq kk (ek a) (ek b) = some (decide (a = b))

theorem keyE_row : KeyE (.agg [.i, .i]) (fun r : Row => .agg (eRow r)) := fun a b => by simp only [keq]; exact seqL_row a b
theorem keyE_nd : KeyE (.agg [.i, .i, .i]) (fun r : Nd => .agg (eNd r)) := fun a b => by simp only [keq]; exact seqL_nd a b
theorem keyE_i : KeyE (.one .i) (fun r : Int => .i .i64 r) := fun a b => by
  simp only [keq, isSK, seq1, Bool.and_self, if_true]
  congr 1

section
variable {α β : Type} [DecidableEq α] {kk : KK} {ek : α → D} {ev : β → D}
def eMap (ek : α → D) (ev : β → D) (es : List (α × β)) : List (D × D) := es.map fun p => (ek p.1, ev p.2)

theorem lkD_map (h : KeyE kk ek) (a : α) : ∀ es : List (α × β), lkD kk (ek a) (eMap ek ev es) = some ((assoc a es).map ev)
  | [] => rfl
  | (k, v) :: es => by
    simp only [eMap, List.map_cons, lkD, h a k, assoc]
    by_cases e : a = k
    · simp [e]
    · simp only [e, decide_false, if_false]
      exact lkD_map h a es

theorem muD_new (h : KeyE kk ek) (a : α) (b : β) : ∀ es : List (α × β), assoc a es = none → muD kk (ek a) (ev b) (eMap ek ev es) = some (eMap ek ev (es ++ [(a, b)]))
  | [], _ => rfl
  | (k, v) :: es, q => by
    simp only [assoc] at q
    split at q
    · cases q
    · rename_i e
      have := muD_new h a b es q
      simp only [eMap] at this
      simp only [eMap, List.map_cons, muD, h a k, e, decide_false, this, List.cons_append, Option.map_some]

theorem lkD'_mp (h : KeyE kk ek) {a : α} (hk : isKey kk (ek a) = true) {S : Store} {id : Nat} {es : List (α × β)} (hS : sget S id = some (.map (eMap ek ev es))) (ok : Bool) (z : D) :
    lkD' kk ok z S (.mp id) (ek a) = some (okD ok z ((assoc a es).map ev)) := by
  simp only [lkD', hk, if_true, hS, lkD_map h, Option.map_some]

theorem muD'_new (h : KeyE kk ek) {a : α} {b : β} (hk : isKey kk (ek a) = true) {S : Store} {id : Nat} {es : List (α × β)} (hS : sget S id = some (.map (eMap ek ev es))) (ha : assoc a es = none) :
    muD' kk S (.mp id) (ek a) (ev b) = some (sset S id (.map (eMap ek ev (es ++ [(a, b)])))) := by
  simp only [muD', hk, if_true, hS, muD_new h a b es ha, Option.map_some]
end

@[simp] theorem okD_tn (z : D) : okD true z none = .tup [z, .b false] := (rfl)
@[simp] theorem okD_ts (z v : D) : okD true z (some v) = .tup [v, .b true] := (rfl)
@[simp] theorem okD_fn (z : D) : okD false z none = z := (rfl)
@[simp] theorem okD_fs (z v : D) : okD false z (some v) = v := (rfl)

end Go.Proofs.YtjlmeikcfdanmaaGreatDoor.DE.V

namespace Go.Proofs.YtjlmeikcfdanmaaGreatDoor.DE.V
open Go Go.ChangeShapes Go.WideShapes Go.RowKit
set_option maxRecDepth 100000

/-- Each cell that is there. -/
def there (w : World) : Fix := fun b o => ∃ v, w.cell? ⟨b, o, none⟩ = some v

theorem sim0 {dp : Nat → Option Fn} (w : World) : Sim dp (there w) [] w [] :=
  ⟨rfl, fun _ _ h => h, fun _ _ _ h => by (cases h), fun _ _ _ _ _ _ _ h => by (cases h)⟩

section
variable {H : Type} {enc : TypeId × Value → H} {w : World} {base : Nat} {spare : Nat → Bool} {held : Bool} {fuel : Nat} {cs : List Value} {x : DataW H × List MemPlace}

theorem wf64 {n : Int} (h : (Lit.int .i64 n).wf = true) : in64 n := by
  simp only [Lit.wf, Bool.and_eq_true, decide_eq_true_eq] at h
  exact h

theorem rd_int (h : DataW.trod enc Tryz.prog w base spare held fuel 3 cs = some x) : ∃ n, cs = [.int .i64 n] ∧ in64 n := by
  obtain ⟨n, h1, _, h2⟩ := DataW.trod_int Tryz.underlying3 h
  exact ⟨n, h1, wf64 h2⟩

theorem cells27 : Tryz.prog.cellsOf 27 = 2 := by kernel_rfl
theorem cells3 : Tryz.prog.cellsOf 3 = 1 := by kernel_rfl
def vRow (r : Row) : List Value := [.int .i64 r.1, .int .i64 r.2]
theorem rd_row (h : DataW.trod enc Tryz.prog w base spare held fuel 27 cs = some x) : ∃ r : Row, cs = vRow r ∧ okRow r := by
  obtain ⟨y0, y1, n, _, hl, h0, h1⟩ := trod_struct2 Tryz.underlying27 h
  rw [cells27] at hl
  simp only [cells3] at h0 h1
  match cs, hl with
  | [a, b], _ =>
    obtain ⟨n0, e0, w0⟩ := rd_int h0
    obtain ⟨n1, e1, w1⟩ := rd_int h1
    simp at e0 e1
    subst e0 e1
    exact ⟨(n0, n1), rfl, w0, w1⟩

theorem rd_slice {t e k : Nat} {α : Type} [Inhabited α] {dp : Nat → Option Fn} (en : α → List D) (vals : α → List Value) (P : α → Prop) (ht : Tryz.prog.underlying t = some (.slice e)) (hk : Tryz.prog.cellsOf e = k)
    (hen : ∀ a, (en a).length = k) (hvl : ∀ a, (vals a).length = k)
    (helem : ∀ (n : Nat) (sp : Nat → Bool) (cs : List Value) (x : DataW H × List MemPlace), DataW.trod enc Tryz.prog w base sp held n e cs = some x → ∃ a, cs = vals a ∧ P a)
    (hrel : ∀ (a : α) (m : Nat) (v : Value) (d : D), (vals a)[m]? = some v → (en a)[m]? = some d → v.oneCell' = true ∧ Rel dp (there w) [] w v d)
    (h : DataW.trod enc Tryz.prog w base spare held fuel t cs = some x) (hsp : ∀ a l c, cs = [.slice (some a) l c] → a.spot = none) :
    ∃ nl l v, (nl = true → l = []) ∧ (∀ a ∈ l, P a) ∧ l.length ≤ maxLen ∧ cs = [v] ∧ v.oneCell' = true ∧ Rel dp (there w) [] w v (.sl k nl (l.map en) .ro) := by
  rcases Go.Deep.open_slice ht h with ⟨rfl, _⟩ | ⟨a, len, cap, m, n, D', Pl, rfl, hb, hl, hm, hmm, _, hx⟩
  · exact ⟨true, [], _, fun _ => rfl, fun _ h => by (cases h), Nat.zero_le _, rfl, rfl, .nil k .ro⟩
  · have hspot := hsp a len cap rfl
    have hlm : len ≤ m := by rw [hmm]; split <;> omega
    obtain ⟨f, hf⟩ := Go.Deep.choose_lt (α := α) (n := len) (p := fun i y => w.cells? base (a.add (i * Tryz.prog.cellsOf e)) (Tryz.prog.cellsOf e) = some (vals y) ∧ P y) (fun i hi => by
      obtain ⟨cs', h1, h2⟩ := hx i (by omega)
      obtain ⟨y, e1, e2⟩ := helem _ _ _ _ h2
      exact ⟨y, e1 ▸ h1, e2⟩)
    obtain ⟨blk, off, spot⟩ := a
    simp only at hspot
    subst hspot
    have hadd : ∀ i j, ((Addr.mk blk off none).add i).add j = ⟨blk, off + i + j, none⟩ := by
      intro i j
      unfold Addr.add
      by_cases hi : i = 0 <;> by_cases hj : j = 0 <;> simp [hi, hj, Nat.add_assoc]
    have hcell : ∀ i, i < len → ∀ j, j < k → w.cell? ⟨blk, off + i * k + j, none⟩ = (vals (f i))[j]? := by
      intro i hi j hj
      obtain ⟨h1, _⟩ := hf i hi
      rw [hk] at h1
      obtain ⟨_, _, h3⟩ := World.cells?_some h1
      have := h3 j hj
      rwa [hadd] at this
    refine ⟨false, (List.range len).map f, _, fun h => by (cases h), ?_, by simp; omega, rfl, rfl, ?_⟩
    · intro y hy
      obtain ⟨i, hi, rfl⟩ := List.mem_map.1 hy
      exact (hf i (List.mem_range.1 hi)).2
    · have hlen : ((List.range len).map f).map en = (List.range len).map fun i => en (f i) := by rw [List.map_map]; rfl
      rw [hlen]
      have hget : ∀ (j : Nat) (y : List D), ((List.range len).map fun i => en (f i))[j]? = some y → j < len ∧ y = en (f j) := by
        intro j y hj
        rw [List.getElem?_map] at hj
        by_cases hjl : j < len
        · rw [List.getElem?_range hjl] at hj
          simp at hj
          exact ⟨hjl, hj.symm⟩
        · rw [List.getElem?_eq_none (by simp; omega)] at hj
          cases hj
      have key := Rel.sl (dp := dp) (F := there w) (G := []) (w := w) k ((List.range len).map fun i => en (f i)) .ro blk off cap (fun j m => ((vals (f j))[m]?).getD .nilIface)
        (by intro y hy; obtain ⟨i, _, rfl⟩ := List.mem_map.1 hy; exact hen _) (by simpa using hl)
        (by
          intro j y m d hj hd
          obtain ⟨hjl, rfl⟩ := hget j y hj
          have hmk : m < k := by
            rcases Nat.lt_or_ge m k with q | q
            · exact q
            · rw [List.getElem?_eq_none (by rw [hen]; exact q)] at hd; cases hd
          obtain ⟨v, hv⟩ : ∃ v, (vals (f j))[m]? = some v := ⟨_, List.getElem?_eq_getElem (by rw [hvl]; exact hmk)⟩
          have hc := hcell j hjl m hmk
          rw [hv] at hc ⊢
          exact ⟨⟨v, hc⟩, hc, (hrel _ _ _ _ hv hd).1⟩)
        (by
          intro j y m d hj hd
          obtain ⟨hjl, rfl⟩ := hget j y hj
          have hmk : m < k := by
            rcases Nat.lt_or_ge m k with q | q
            · exact q
            · rw [List.getElem?_eq_none (by rw [hen]; exact q)] at hd; cases hd
          obtain ⟨v, hv⟩ : ∃ v, (vals (f j))[m]? = some v := ⟨_, List.getElem?_eq_getElem (by rw [hvl]; exact hmk)⟩
          simp only [hv, Option.getD_some]
          exact (hrel _ _ _ _ hv hd).2)
        trivial
      simpa using key

theorem rel_row {dp : Nat → Option Fn} (a : Row) (m : Nat) (v : Value) (d : D) (h1 : (vRow a)[m]? = some v) (h2 : (eRow a)[m]? = some d) : v.oneCell' = true ∧ Rel dp (there w) [] w v d := by
  match m with
  | 0 => simp [vRow] at h1; simp at h2; subst h1 h2; exact ⟨rfl, .i _ _⟩
  | 1 => simp [vRow] at h1; simp at h2; subst h1 h2; exact ⟨rfl, .i _ _⟩
  | m + 2 => simp [vRow] at h1

theorem rd_rows {dp : Nat → Option Fn} (h : DataW.trod enc Tryz.prog w base spare held fuel 22 cs = some x) (hsp : ∀ a l c, cs = [.slice (some a) l c] → a.spot = none) :
    ∃ nl l v, (nl = true → l = []) ∧ (∀ a ∈ l, okRow a) ∧ l.length ≤ maxLen ∧ cs = [v] ∧ v.oneCell' = true ∧ Rel dp (there w) [] w v (eRows nl l) :=
  rd_slice eRow vRow okRow Tryz.underlying22 cells27 (fun _ => rfl) (fun _ => rfl) (fun _ _ _ _ h => rd_row h) (fun a m v d => rel_row a m v d) h hsp

theorem spot_of {r : Reach} {b0 : Nat} {t e : TypeId} {v : Value} (ht : Tryz.prog.underlying t = some (.slice e)) (h : Cell.okWide Tryz.prog w r b0 t v) : ∀ a l c, v = .slice (some a) l c → a.spot = none := by
  rintro a l c rfl
  simp only [Cell.okWide, ht, Cell.ok] at h
  exact h.2.2.2.1

theorem rd_rowsArg {dp : Nat → Option Fn} {r : Reach} {b0 : Nat} {v : Value} {d : DataW H} {ps : List MemPlace} (hv : Value.okWide Tryz.prog w r b0 22 v) (h : DataW.Trod enc Tryz.prog w base spare held 22 v d ps) :
    ∃ nl ord, (nl = true → ord = []) ∧ (∀ a ∈ ord, okRow a) ∧ ord.length ≤ maxLen ∧ Rel dp (there w) [] w v (eRows nl ord) := by
  obtain ⟨fuel, h⟩ := h
  simp only [Value.okWide, Tryz.underlying22] at hv
  have hs := spot_of Tryz.underlying22 hv
  have hc : v.cells.toList = [v] := by
    cases v <;> first | rfl | (simp only [Cell.okWide, Tryz.underlying22, Cell.ok] at hv)
  rw [hc] at h
  obtain ⟨nl, ord, va, g1, g2, g3, e1, _, r1⟩ := rd_rows (dp := dp) h (fun a l c e => hs a l c (by injection e))
  injection e1 with e1
  subst e1
  exact ⟨nl, ord, g1, g2, g3, r1⟩

end

end Go.Proofs.YtjlmeikcfdanmaaGreatDoor.DE.V

namespace Go.Proofs.YtjlmeikcfdanmaaGreatDoor.DE.V
open Go

structure Vl where
  kind : Int
  int : Int
  text : List UInt8

/-- A factor (an atom and its exponent) over the nested annotations α. -/
structure Fc (α : Type) where
  kind : Int
  row : Row
  anl : Bool
  args : List α
  fn : Int
  inl : Bool
  items : List (Vl × α)
  op : Int
  bound : Vl
  exp : Int

structure Tm (α : Type) where
  c : Int
  nl : Bool
  fs : List (Fc α)

structure An (α : Type) where
  nl : Bool
  ts : List (Tm α)

def Ann : Nat → Type
  | 0 => Empty
  | n + 1 => An (Ann n)

section
variable {α : Type} (e : α → D)
def eVl (v : Vl) : List D := [.i .i64 v.kind, .i .i64 v.int, .s v.text]
def eIt (p : Vl × α) : List D := [.i .i64 p.1.kind, .i .i64 p.1.int, .s p.1.text, e p.2]
def eArgs (nl : Bool) (l : List α) : D := .sl 1 nl (l.map fun a => [e a]) .ro
def eItems (nl : Bool) (l : List (Vl × α)) : D := .sl 4 nl (l.map (eIt e)) .ro
def eAt (f : Fc α) : List D := [.i .i64 f.kind, .i .i64 f.row.1, .i .i64 f.row.2, eArgs e f.anl f.args, .i .i64 f.fn, eItems e f.inl f.items, .i .i64 f.op, .i .i64 f.bound.kind, .i .i64 f.bound.int, .s f.bound.text]
def eFc (f : Fc α) : List D := [.i .i64 f.kind, .i .i64 f.row.1, .i .i64 f.row.2, eArgs e f.anl f.args, .i .i64 f.fn, eItems e f.inl f.items, .i .i64 f.op, .i .i64 f.bound.kind, .i .i64 f.bound.int, .s f.bound.text, .i .i64 f.exp]
def eFcs (nl : Bool) (l : List (Fc α)) : D := .sl 11 nl (l.map (eFc e)) .ro
def eTm (t : Tm α) : List D := [.i .i64 t.c, eFcs e t.nl t.fs]
def eTms (nl : Bool) (l : List (Tm α)) : D := .sl 2 nl (l.map (eTm e)) .ro
def eAn (x : An α) : D := eTms e x.nl x.ts
end

def eAnn : (n : Nat) → Ann n → D
  | 0, x => nomatch x
  | n + 1, x => eAn (eAnn n) x

/-- A slice of terms without the right to append. -/
def GE {α : Type} (e : α → D) : Prop := ∀ a, ∃ nl xs, e a = .sl 2 nl xs .ro ∧ noRefLL xs = true

section
variable {α : Type} {e : α → D}
theorem GE.cell (h : GE e) (a : α) : isCell (e a) = true := by obtain ⟨nl, xs, q, _⟩ := h a; rw [q]; rfl
theorem GE.noRef (h : GE e) (a : α) : noRef (e a) = true := by obtain ⟨nl, xs, q, k⟩ := h a; rw [q]; simpa [DE.noRef] using k
theorem GE.strip (h : GE e) (a : α) : strip (e a) = e a := by obtain ⟨nl, xs, q, k⟩ := h a; rw [q]; rfl

theorem noRefLL_all {α : Type} (f : α → List D) (l : List α) (h : ∀ x, x ∈ l → noRefL (f x) = true) : noRefLL (l.map f) = true := by
  induction l with
  | nil => rfl
  | cons x l ih => simp [noRefLL, h x (by simp), ih fun y hy => h y (by simp [hy])]
theorem noRefL_eIt (h : GE e) (p : Vl × α) : noRefL (eIt e p) = true := by simp [eIt, noRefL, DE.noRef, h.noRef]
theorem noRef_eArgs (h : GE e) (nl : Bool) (l : List α) : noRef (eArgs e nl l) = true := by
  simp only [eArgs, DE.noRef, Bool.true_and]
  exact noRefLL_all _ _ fun x _ => by simp [noRefL, h.noRef]
theorem noRef_eItems (h : GE e) (nl : Bool) (l : List (Vl × α)) : noRef (eItems e nl l) = true := by
  simp only [eItems, DE.noRef, Bool.true_and]
  exact noRefLL_all _ _ fun x _ => noRefL_eIt h x
theorem noRefL_eAt (h : GE e) (f : Fc α) : noRefL (eAt e f) = true := by simp [eAt, noRefL, noRef_eArgs h, noRef_eItems h, DE.noRef]
theorem noRefL_eFc (h : GE e) (f : Fc α) : noRefL (eFc e f) = true := by simp [eFc, noRefL, noRef_eArgs h, noRef_eItems h, DE.noRef]
theorem noRef_eFcs (h : GE e) (nl : Bool) (l : List (Fc α)) : noRef (eFcs e nl l) = true := by
  simp only [eFcs, DE.noRef, Bool.true_and]
  exact noRefLL_all _ _ fun x _ => noRefL_eFc h x
theorem noRefL_eTm (h : GE e) (t : Tm α) : noRefL (eTm e t) = true := by simp [eTm, noRefL, noRef_eFcs h]
theorem noRef_eTms (h : GE e) (nl : Bool) (l : List (Tm α)) : noRef (eTms e nl l) = true := by
  simp only [eTms, DE.noRef, Bool.true_and]
  exact noRefLL_all _ _ fun x _ => noRefL_eTm h x
theorem noRef_eAn (h : GE e) (x : An α) : noRef (eAn e x) = true := noRef_eTms h _ _
theorem GE_eAn (h : GE e) : GE (eAn e) := fun x => ⟨x.nl, _, rfl, noRefLL_all _ _ fun t _ => noRefL_eTm h t⟩
end

theorem GE_eAnn : ∀ n, GE (eAnn n)
  | 0 => fun x => nomatch x
  | n + 1 => GE_eAn (GE_eAnn n)

section
variable {α : Type} (e : α → D) (k : IntKind) (S : Store)
@[simp] theorem strip_eArgs (nl : Bool) (l : List α) : strip (eArgs e nl l) = eArgs e nl l := (rfl)
@[simp] theorem strip_eItems (nl : Bool) (l : List (Vl × α)) : strip (eItems e nl l) = eItems e nl l := (rfl)
@[simp] theorem strip_eFcs (nl : Bool) (l : List (Fc α)) : strip (eFcs e nl l) = eFcs e nl l := (rfl)
@[simp] theorem strip_eTms (nl : Bool) (l : List (Tm α)) : strip (eTms e nl l) = eTms e nl l := (rfl)
@[simp] theorem strip_eAn (x : An α) : strip (eAn e x) = eAn e x := (rfl)
@[simp] theorem strip_agAt (f : Fc α) : strip (.agg (eAt e f)) = .agg (eAt e f) := (rfl)
@[simp] theorem strip_agFc (f : Fc α) : strip (.agg (eFc e f)) = .agg (eFc e f) := (rfl)
@[simp] theorem strip_agTm (f : Tm α) : strip (.agg (eTm e f)) = .agg (eTm e f) := (rfl)
@[simp] theorem strip_agVl (f : Vl) : strip (.agg (eVl f)) = .agg (eVl f) := (rfl)
theorem strip_agIt (h : GE e) (p : Vl × α) : strip (.agg (eIt e p)) = .agg (eIt e p) := by
  obtain ⟨nl, xs, q, _⟩ := h p.2
  simp only [eIt, q]; rfl
@[simp] theorem isCell_eArgs (nl : Bool) (l : List α) : isCell (eArgs e nl l) = true := (rfl)
@[simp] theorem isCell_eItems (nl : Bool) (l : List (Vl × α)) : isCell (eItems e nl l) = true := (rfl)
@[simp] theorem isCell_eFcs (nl : Bool) (l : List (Fc α)) : isCell (eFcs e nl l) = true := (rfl)
@[simp] theorem isCell_eTms (nl : Bool) (l : List (Tm α)) : isCell (eTms e nl l) = true := (rfl)
@[simp] theorem isCell_eAn (x : An α) : isCell (eAn e x) = true := (rfl)
@[simp] theorem isCell_s (l : List UInt8) : isCell (.s l) = true := (rfl)
@[simp] theorem noRef_s (l : List UInt8) : noRef (.s l) = true := (rfl)
@[simp] theorem noRef_agVl (f : Vl) : noRef (.agg (eVl f)) = true := (rfl)
@[simp] theorem strip_s (l : List UInt8) : strip (.s l) = .s l := (rfl)
@[simp] theorem eVl_len (f : Vl) : (eVl f).length = 3 := (rfl)
@[simp] theorem eIt_len (f : Vl × α) : (eIt e f).length = 4 := (rfl)
@[simp] theorem eAt_len (f : Fc α) : (eAt e f).length = 10 := (rfl)
@[simp] theorem eFc_len (f : Fc α) : (eFc e f).length = 11 := (rfl)
@[simp] theorem eTm_len (f : Tm α) : (eTm e f).length = 2 := (rfl)
@[simp] theorem allCell_vl (f : Vl) : allCell (eVl f) = true := (rfl)
@[simp] theorem allCell_at (f : Fc α) : allCell (eAt e f) = true := (rfl)
@[simp] theorem allCell_fc (f : Fc α) : allCell (eFc e f) = true := (rfl)
@[simp] theorem allCell_tm (f : Tm α) : allCell (eTm e f) = true := (rfl)
theorem allCell_it (h : GE e) (p : Vl × α) : allCell (eIt e p) = true := by simp [eIt, h.cell]
@[simp] theorem cellsK_vl (f : Vl) : cellsK 3 true (.agg (eVl f)) = some (eVl f) := (rfl)
@[simp] theorem cellsK_at (f : Fc α) : cellsK 10 true (.agg (eAt e f)) = some (eAt e f) := (rfl)
@[simp] theorem cellsK_fc (f : Fc α) : cellsK 11 true (.agg (eFc e f)) = some (eFc e f) := (rfl)
@[simp] theorem cellsK_tm (f : Tm α) : cellsK 2 true (.agg (eTm e f)) = some (eTm e f) := (rfl)
theorem cellsK_it (h : GE e) (p : Vl × α) : cellsK 4 true (.agg (eIt e p)) = some (eIt e p) := cellsK_agg rfl (allCell_it e h p)
@[simp] theorem splice_vl (f : Vl) (z0 z1 z2 : D) : splice [z0, z1, z2] 0 (eVl f) = eVl f := (rfl)
@[simp] theorem splice_it (f : Vl × α) (z0 z1 z2 z3 : D) : splice [z0, z1, z2, z3] 0 (eIt e f) = eIt e f := (rfl)
@[simp] theorem splice_tm (f : Tm α) (z0 z1 : D) : splice [z0, z1] 0 (eTm e f) = eTm e f := (rfl)
@[simp] theorem splice_at (f : Fc α) (z0 z1 z2 z3 z4 z5 z6 z7 z8 z9 : D) : splice [z0, z1, z2, z3, z4, z5, z6, z7, z8, z9] 0 (eAt e f) = eAt e f := (rfl)
@[simp] theorem splice_fc (f : Fc α) (z0 z1 z2 z3 z4 z5 z6 z7 z8 z9 z10 : D) : splice [z0, z1, z2, z3, z4, z5, z6, z7, z8, z9, z10] 0 (eFc e f) = eFc e f := (rfl)
@[simp high] theorem vl_0 (f : Vl) : (eVl f)[0]? = some (.i .i64 f.kind) := (rfl)
@[simp high] theorem vl_1 (f : Vl) : (eVl f)[1]? = some (.i .i64 f.int) := (rfl)
@[simp high] theorem vl_2 (f : Vl) : (eVl f)[2]? = some (.s f.text) := (rfl)
@[simp high] theorem it_0 (f : Vl × α) : (eIt e f)[0]? = some (.i .i64 f.1.kind) := (rfl)
@[simp high] theorem it_1 (f : Vl × α) : (eIt e f)[1]? = some (.i .i64 f.1.int) := (rfl)
@[simp high] theorem it_2 (f : Vl × α) : (eIt e f)[2]? = some (.s f.1.text) := (rfl)
@[simp high] theorem it_3 (f : Vl × α) : (eIt e f)[3]? = some (e f.2) := (rfl)
@[simp high] theorem tm_0 (f : Tm α) : (eTm e f)[0]? = some (.i .i64 f.c) := (rfl)
@[simp high] theorem tm_1 (f : Tm α) : (eTm e f)[1]? = some (eFcs e f.nl f.fs) := (rfl)
@[simp high] theorem at_0 (f : Fc α) : (eAt e f)[0]? = some (.i .i64 f.kind) := (rfl)
@[simp high] theorem at_1 (f : Fc α) : (eAt e f)[1]? = some (.i .i64 f.row.1) := (rfl)
@[simp high] theorem at_2 (f : Fc α) : (eAt e f)[2]? = some (.i .i64 f.row.2) := (rfl)
@[simp high] theorem at_3 (f : Fc α) : (eAt e f)[3]? = some (eArgs e f.anl f.args) := (rfl)
@[simp high] theorem at_4 (f : Fc α) : (eAt e f)[4]? = some (.i .i64 f.fn) := (rfl)
@[simp high] theorem at_5 (f : Fc α) : (eAt e f)[5]? = some (eItems e f.inl f.items) := (rfl)
@[simp high] theorem at_6 (f : Fc α) : (eAt e f)[6]? = some (.i .i64 f.op) := (rfl)
@[simp high] theorem at_7 (f : Fc α) : (eAt e f)[7]? = some (.i .i64 f.bound.kind) := (rfl)
@[simp high] theorem at_8 (f : Fc α) : (eAt e f)[8]? = some (.i .i64 f.bound.int) := (rfl)
@[simp high] theorem at_9 (f : Fc α) : (eAt e f)[9]? = some (.s f.bound.text) := (rfl)
@[simp high] theorem fc_0 (f : Fc α) : (eFc e f)[0]? = some (.i .i64 f.kind) := (rfl)
@[simp high] theorem fc_1 (f : Fc α) : (eFc e f)[1]? = some (.i .i64 f.row.1) := (rfl)
@[simp high] theorem fc_2 (f : Fc α) : (eFc e f)[2]? = some (.i .i64 f.row.2) := (rfl)
@[simp high] theorem fc_3 (f : Fc α) : (eFc e f)[3]? = some (eArgs e f.anl f.args) := (rfl)
@[simp high] theorem fc_4 (f : Fc α) : (eFc e f)[4]? = some (.i .i64 f.fn) := (rfl)
@[simp high] theorem fc_5 (f : Fc α) : (eFc e f)[5]? = some (eItems e f.inl f.items) := (rfl)
@[simp high] theorem fc_6 (f : Fc α) : (eFc e f)[6]? = some (.i .i64 f.op) := (rfl)
@[simp high] theorem fc_7 (f : Fc α) : (eFc e f)[7]? = some (.i .i64 f.bound.kind) := (rfl)
@[simp high] theorem fc_8 (f : Fc α) : (eFc e f)[8]? = some (.i .i64 f.bound.int) := (rfl)
@[simp high] theorem fc_9 (f : Fc α) : (eFc e f)[9]? = some (.s f.bound.text) := (rfl)
@[simp high] theorem fc_10 (f : Fc α) : (eFc e f)[10]? = some (.i .i64 f.exp) := (rfl)
@[simp high] theorem rdK_fc_at (f : Fc α) : rdK (eFc e f) 0 10 true = some (.agg (eAt e f)) := (rfl)
@[simp high] theorem rdK_fc (f : Fc α) : rdK (eFc e f) 0 11 true = some (.agg (eFc e f)) := (rfl)
@[simp high] theorem rdK_fc_row (f : Fc α) : rdK (eFc e f) 1 2 true = some (.agg (eRow f.row)) := (rfl)
@[simp high] theorem rdK_fc_vl (f : Fc α) : rdK (eFc e f) 7 3 true = some (.agg (eVl f.bound)) := (rfl)
@[simp high] theorem rdK_at (f : Fc α) : rdK (eAt e f) 0 10 true = some (.agg (eAt e f)) := (rfl)
@[simp high] theorem rdK_at_row (f : Fc α) : rdK (eAt e f) 1 2 true = some (.agg (eRow f.row)) := (rfl)
@[simp high] theorem rdK_at_vl (f : Fc α) : rdK (eAt e f) 7 3 true = some (.agg (eVl f.bound)) := (rfl)
@[simp high] theorem rdK_tm (f : Tm α) : rdK (eTm e f) 0 2 true = some (.agg (eTm e f)) := (rfl)
@[simp high] theorem rdK_vl (f : Vl) : rdK (eVl f) 0 3 true = some (.agg (eVl f)) := (rfl)
@[simp high] theorem rdK_it (f : Vl × α) : rdK (eIt e f) 0 4 true = some (.agg (eIt e f)) := (rfl)
@[simp high] theorem rdK_it_vl (f : Vl × α) : rdK (eIt e f) 0 3 true = some (.agg (eVl f.1)) := (rfl)
@[simp] theorem lenD_eArgs (nl : Bool) (l : List α) : lenD false (eArgs e nl l) = some (.i .i64 l.length) := by simp [eArgs, lenD]
@[simp] theorem lenD_eItems (nl : Bool) (l : List (Vl × α)) : lenD false (eItems e nl l) = some (.i .i64 l.length) := by simp [eItems, lenD]
@[simp] theorem lenD_eFcs (nl : Bool) (l : List (Fc α)) : lenD false (eFcs e nl l) = some (.i .i64 l.length) := by simp [eFcs, lenD]
@[simp] theorem lenD_eTms (nl : Bool) (l : List (Tm α)) : lenD false (eTms e nl l) = some (.i .i64 l.length) := by simp [eTms, lenD]
@[simp] theorem lenD_eAn (x : An α) : lenD false (eAn e x) = some (.i .i64 x.ts.length) := by simp [eAn]
@[simp] theorem lenD_s (l : List UInt8) : lenD true (.s l) = some (.i .i64 l.length) := (rfl)
theorem iaD_eArgs {nl : Bool} {l : List α} {n : Nat} {r : α} (h : l[n]? = some r) : iaD 1 (eArgs e nl l) (.i k n) = some (.el [e r] 0) := by simp [eArgs, iaD, h]
theorem iaD_eItems {nl : Bool} {l : List (Vl × α)} {n : Nat} {r : Vl × α} (h : l[n]? = some r) : iaD 4 (eItems e nl l) (.i k n) = some (.el (eIt e r) 0) := by simp [eItems, iaD, h]
theorem iaD_eFcs {nl : Bool} {l : List (Fc α)} {n : Nat} {r : Fc α} (h : l[n]? = some r) : iaD 11 (eFcs e nl l) (.i k n) = some (.el (eFc e r) 0) := by simp [eFcs, iaD, h]
theorem iaD_eTms {nl : Bool} {l : List (Tm α)} {n : Nat} {r : Tm α} (h : l[n]? = some r) : iaD 2 (eTms e nl l) (.i k n) = some (.el (eTm e r) 0) := by simp [eTms, iaD, h]
theorem iaD_eAn {x : An α} {n : Nat} {r : Tm α} (h : x.ts[n]? = some r) : iaD 2 (eAn e x) (.i k n) = some (.el (eTm e r) 0) := iaD_eTms e k h
@[simp] theorem bin_s_eql (l m : List UInt8) : binD .eql .str (.s l) (.s m) = some (.b (l == m)) := (rfl)
@[simp] theorem bin_s_neq (l m : List UInt8) : binD .neq .str (.s l) (.s m) = some (.b (!(l == m))) := (rfl)
end

/-! What a loop has behind it. -/
theorem sum_take {α : Type} (f : α → Nat) {l : List α} {k : Nat} {x : α} (h : l[k]? = some x) : ((l.take (k + 1)).map f).sum = ((l.take k).map f).sum + f x := by
  rw [List.take_add_one, h]; simp
/-! Weight. -/
section
variable {α : Type} (w : α → Nat)
def wIt (p : Vl × α) : Nat := p.1.text.length + w p.2
def wFc (f : Fc α) : Nat := f.items.length + f.args.length + f.bound.text.length + (f.args.map w).sum + (f.items.map (wIt w)).sum
def wTm (t : Tm α) : Nat := 1 + t.fs.length + (t.fs.map (wFc w)).sum
def wAn (x : An α) : Nat := (x.ts.map (wTm w)).sum
end
def wAnn : (n : Nat) → Ann n → Nat
  | 0, x => nomatch x
  | n + 1, x => wAn (wAnn n) x

/-! What each annotation that is handed over keeps to. -/
/-- A length that a slice or a string may have. -/
abbrev Len63 (n : Nat) : Prop := n ≤ 9223372036854775807
theorem wrapL {k n : Nat} (h : k < n) (hn : Len63 n) : IntKind.wrap .i64 ((k : Int) + 1) = ((k + 1 : Nat) : Int) := by
  rw [wrap64 ⟨by omega, by unfold Len63 at hn; omega⟩]; omega
def okVl (v : Vl) : Prop := in64 v.kind ∧ in64 v.int ∧ Len63 v.text.length
section
variable {α : Type} (ok : α → Prop)
structure OkFc (f : Fc α) : Prop where
  kind : in64 f.kind
  row : okRow f.row
  anl : f.anl = true → f.args = []
  alen : Len63 f.args.length
  args : ∀ a, a ∈ f.args → ok a
  fn : in64 f.fn
  inl : f.inl = true → f.items = []
  ilen : Len63 f.items.length
  items : ∀ p, p ∈ f.items → okVl p.1 ∧ ok p.2
  op : in64 f.op
  bound : okVl f.bound
  exp : in64 f.exp
structure OkTm (t : Tm α) : Prop where
  c : in64 t.c
  nl : t.nl = true → t.fs = []
  len : Len63 t.fs.length
  fs : ∀ f, f ∈ t.fs → OkFc ok f
structure OkAn (x : An α) : Prop where
  nl : x.nl = true → x.ts = []
  len : Len63 x.ts.length
  ts : ∀ t, t ∈ x.ts → OkTm ok t
end

/-! Short lists, all the way down. -/
section
variable {α : Type} (sm : α → Prop)
structure SmFc (f : Fc α) : Prop where
  alen : f.args.length ≤ 1048576
  args : ∀ a, a ∈ f.args → sm a
  ilen : f.items.length ≤ 1048576
  items : ∀ p, p ∈ f.items → p.1.text.length ≤ 1048576 ∧ sm p.2
  bound : f.bound.text.length ≤ 1048576
structure SmTm (t : Tm α) : Prop where
  len : t.fs.length ≤ 1048576
  fs : ∀ f, f ∈ t.fs → SmFc sm f
structure SmAn (x : An α) : Prop where
  len : x.ts.length ≤ 1048576
  ts : ∀ t, t ∈ x.ts → SmTm sm t
end
def SmAnn : (n : Nat) → Ann n → Prop
  | 0, _ => True
  | n + 1, x => SmAn (SmAnn n) x
def OkAnn : (n : Nat) → Ann n → Prop
  | 0, _ => True
  | n + 1, x => OkAn (OkAnn n) x

end Go.Proofs.YtjlmeikcfdanmaaGreatDoor.DE.V
