/-
  SEVERAL TEXTS IN ONE (joined by tools/asm3.py of this repository): Ec2, Ep, Fa, Gb, Gc, Gd, Fb, Ge, Gf, Gg, Gh.
-/
import Derived.Test.YtjniafcnjbbomaaGreatDoorQw1
import Derived.Test.YtjniafcnjbbomaaGreatDoorQw2
import Derived.Test.YtjniafcnjbbomaaGreatDoorQw3
import Derived.KernelRfl
set_option linter.unusedVariables false
set_option linter.unusedSimpArgs false
namespace Go.Proofs.YtjniafcnjbbomaaGreatDoor.DE
/-- lineage/bdd.combined$1 -/
def c325 : C :=
  (.seq (.reg [.op (some 10) none (.mv (.c (.i .i64 0)))] [10]) (.seq (.seq (.reg [.op (some 20) none (.mv (.t 0)), .op (some 21) none (.ld 1 false (.t 2)), .op (some 22) none (.bin .eql .num (.t 20) (.t 21)), .op (some 23) none (.mv (.t 22)), .op (some 24) (some (23, false)) (.mv (.t 1)), .op (some 25) (some (23, false)) (.ld 1 false (.t 2)), .op (some 26) (some (23, false)) (.bin .eql .num (.t 24) (.t 25)), .op (some 27) none (.pick (.t 23) (.c (.b true)) (.t 26))] [20, 21, 22, 23, 24, 25, 26]) (.cond (.t 27) (.seq (.reg [.op (some 28) none (.ld 1 false (.t 2)), .op (some 10) none (.mv (.t 28))] [0, 1, 2, 3, 4, 5, 6, 7, 27, 28]) .ret) .skip)) (.seq (.seq (.reg [.op (some 29) none (.mv (.t 0)), .op (some 30) none (.bin .lss .num (.t 29) (.c (.i .i64 2))), .op (some 31) none (.mv (.t 30)), .op (some 32) (some (31, true)) (.mv (.t 1)), .op (some 33) (some (31, true)) (.bin .lss .num (.t 32) (.c (.i .i64 2))), .op (some 34) none (.pick (.t 31) (.t 33) (.c (.b false)))] [27, 29, 30, 31, 32, 33]) (.cond (.t 34) (.seq (.reg [.op (some 35) none (.ld 1 false (.t 2)), .op (some 36) none (.bin .sub .num (.c (.i .i64 1)) (.t 35)), .op (some 10) none (.mv (.t 36))] [0, 1, 2, 3, 4, 5, 6, 7, 34, 35, 36]) .ret) .skip)) (.seq (.seq (.reg [.op (some 38) none (.ld 1 false (.t 3)), .op (some 39) none (.mv (.t 0)), .op (some 40) none (.mv (.t 1)), .op (some 41) none (.bld [.i .i64 0, .i .i64 0] [(0, 1, false, .t 39), (1, 1, false, .t 40)]), .op (some 42) none (.lk (.agg [.i, .i]) true (.i .i64 0) (.t 38) (.t 41)), .op (some 37) none (.mv (.t 42)), .op (some 43) none (.ext (.t 37) 0), .op (some 44) none (.ext (.t 37) 1), .op (some 11) none (.mv (.t 43)), .op (some 12) none (.mv (.t 44))] [2, 34, 37, 38, 39, 40, 41, 42, 43, 44]) (.seq (.reg [.op (some 45) none (.mv (.t 12))] [12]) (.cond (.t 45) (.seq (.reg [.op (some 46) none (.mv (.t 11)), .op (some 10) none (.mv (.t 46))] [0, 1, 3, 4, 5, 6, 7, 11, 45, 46]) .ret) .skip))) (.seq (.dreg [(0, .op (some 47) none (.ld 3 true (.t 4))), (1, .op (some 48) none (.mv (.t 0))), (2, .op (some 49) none (.call 158 true [.t 47, .t 48])), (3, .op (some 50) none (.ld 3 true (.t 5))), (4, .op (some 51) none (.mv (.t 1))), (5, .op (some 52) none (.call 158 true [.t 50, .t 51])), (6, .op (some 53) none (.mn (.t 49) (.t 52))), (7, .op (some 13) none (.mv (.t 53)))] [11, 45, 47, 48, 49, 50, 51, 52, 53]) (.seq (.reg [.op (some 55) none (.ld 3 true (.t 4)), .op (some 56) none (.mv (.t 0)), .op (some 57) none (.mv (.t 13)), .op (some 58) none (.call 326 true [.t 55, .t 56, .t 57]), .op (some 54) none (.mv (.t 58)), .op (some 59) none (.ext (.t 54) 0), .op (some 60) none (.ext (.t 54) 1), .op (some 14) none (.mv (.t 59)), .op (some 15) none (.mv (.t 60))] [4, 54, 55, 56, 57, 58, 59, 60]) (.seq (.reg [.op (some 62) none (.ld 3 true (.t 5)), .op (some 63) none (.mv (.t 1)), .op (some 64) none (.mv (.t 13)), .op (some 65) none (.call 326 true [.t 62, .t 63, .t 64]), .op (some 61) none (.mv (.t 65)), .op (some 66) none (.ext (.t 61) 0), .op (some 67) none (.ext (.t 61) 1), .op (some 16) none (.mv (.t 66)), .op (some 17) none (.mv (.t 67))] [5, 61, 62, 63, 64, 65, 66, 67]) (.seq (.dreg [(0, .op (some 68) none (.ld 1 false (.t 6))), (1, .op (some 69) none (.mv (.t 14))), (2, .op (some 70) none (.mv (.t 16))), (4, .op (some 72) none (.ld 1 false (.t 6))), (5, .op (some 73) none (.mv (.t 15))), (6, .op (some 74) none (.mv (.t 17))), (3, .op (some 71) none (.calld (.t 68) false [.t 69, .t 70])), (4, .ck 72 (.ld 1 false (.t 6))), (7, .op (some 75) none (.calld (.t 72) false [.t 73, .t 74])), (8, .op (some 18) none (.mv (.t 71))), (9, .op (some 19) none (.mv (.t 75)))] [6, 14, 15, 16, 17, 68, 69, 70, 71, 72, 73, 74, 75]) (.seq (.dreg [(0, .op (some 76) none (.ld 1 false (.t 3))), (1, .op (some 77) none (.mv (.t 0))), (2, .op (some 78) none (.mv (.t 1))), (3, .op (some 79) none (.bld [.i .i64 0, .i .i64 0] [(0, 1, false, .t 77), (1, 1, false, .t 78)])), (4, .op (some 80) none (.mv (.t 13))), (5, .op (some 81) none (.mv (.t 18))), (6, .op (some 82) none (.mv (.t 19))), (7, .op (some 83) none (.call 327 false [.t 7, .t 80, .t 81, .t 82])), (0, .ck 76 (.ld 1 false (.t 3))), (8, .op none none (.mu (.agg [.i, .i]) (.t 76) (.t 79) (.t 83)))] [7, 13, 18, 19, 76, 77, 78, 79, 80, 81, 82, 83]) (.seq (.reg [.op (some 84) none (.ld 1 false (.t 3)), .op (some 85) none (.mv (.t 0)), .op (some 86) none (.mv (.t 1)), .op (some 87) none (.bld [.i .i64 0, .i .i64 0] [(0, 1, false, .t 85), (1, 1, false, .t 86)]), .op (some 88) none (.lk (.agg [.i, .i]) false (.i .i64 0) (.t 84) (.t 87)), .op (some 10) none (.mv (.t 88))] [0, 1, 3, 84, 85, 86, 87, 88]) .ret))))))))))
def d325 : Fn := { real := 325, np := 8, nt := 89, res := [.t 10], body := c325 }

/-- lineage/bdd.children -/
def c326 : C :=
  (.seq (.reg [.op (some 3) none (.box 3 true (.t 0)), .op (some 6) none (.mv (.c (.i .i64 0))), .op (some 7) none (.mv (.c (.i .i64 0)))] [0, 6, 7]) (.seq (.seq (.reg [.op (some 9) none (.ld 3 true (.t 3)), .op (some 10) none (.mv (.t 1)), .op (some 11) none (.call 158 true [.t 9, .t 10]), .op (some 12) none (.mv (.t 2)), .op (some 13) none (.bin .neq .num (.t 11) (.t 12))] [2, 9, 10, 11, 12]) (.cond (.t 13) (.seq (.reg [.op (some 14) none (.mv (.t 1)), .op (some 15) none (.mv (.t 1)), .op (some 6) none (.mv (.t 14)), .op (some 7) none (.mv (.t 15))] [1, 3, 13, 14, 15]) .ret) .skip)) (.seq (.reg [.op (some 16) none (.fa 1 (.t 3)), .op (some 17) none (.ld 1 false (.t 16)), .op (some 18) none (.mv (.t 1)), .op (some 19) none (.bin .sub .num (.t 18) (.c (.i .i64 2))), .op (some 20) none (.ia 3 (.t 17) (.t 19)), .op (some 21) none (.ld 3 true (.t 20)), .op (some 8) none (.alloc [.i .i64 0, .i .i64 0, .i .i64 0]), .op none none (.st 3 true (.t 8) (.t 21))] [1, 3, 13, 16, 17, 18, 19, 20, 21]) (.seq (.dreg [(0, .op (some 22) none (.fa 1 (.t 8))), (1, .op (some 23) none (.ld 1 false (.t 22))), (2, .op (some 24) none (.fa 2 (.t 8))), (3, .op (some 25) none (.ld 1 false (.t 24))), (4, .op (some 6) none (.mv (.t 23))), (5, .op (some 7) none (.mv (.t 25)))] [8, 22, 23, 24, 25]) .ret))))
def d326 : Fn := { real := 326, np := 3, nt := 26, res := [.t 6, .t 7], body := c326 }

/-- (*lineage/bdd.maker).node -/
def c327 : C :=
  (.seq (.reg [.op (some 8) none (.mv (.c (.i .i64 0)))] [8]) (.seq (.seq (.reg [.op (some 12) none (.mv (.t 2)), .op (some 13) none (.mv (.t 3)), .op (some 14) none (.bin .eql .num (.t 12) (.t 13))] [12, 13]) (.cond (.t 14) (.seq (.reg [.op (some 15) none (.mv (.t 2)), .op (some 8) none (.mv (.t 15))] [0, 1, 2, 3, 14, 15]) .ret) .skip)) (.seq (.reg [.op (some 16) none (.mv (.t 1)), .op (some 17) none (.mv (.t 2)), .op (some 18) none (.mv (.t 3)), .op (some 19) none (.bld [.i .i64 0, .i .i64 0, .i .i64 0] [(0, 1, false, .t 16), (1, 1, false, .t 17), (2, 1, false, .t 18)]), .op (some 9) none (.alloc [.i .i64 0, .i .i64 0, .i .i64 0]), .op none none (.st 3 true (.t 9) (.t 19))] [1, 2, 3, 14, 16, 17, 18, 19]) (.seq (.seq (.reg [.op (some 20) none (.mv (.t 0)), .op (some 21) none (.nilck (.t 20)), .op (some 22) none (.fa 1 (.t 21)), .op (some 23) none (.ld 1 false (.t 22)), .op (some 24) none (.bin .eql .map (.t 23) (.c (.nilm)))] [20, 21, 22, 23]) (.cond (.t 24) (.reg [.op (some 25) none (.mv (.t 0)), .op (some 26) none (.mkmap), .op (some 27) none (.nilck (.t 25)), .op (some 28) none (.fa 1 (.t 27)), .op none none (.st 1 false (.t 28) (.t 26))] [24, 25, 26, 27, 28]) .skip)) (.seq (.dreg [(0, .op (some 30) none (.mv (.t 0))), (1, .op (some 31) none (.nilck (.t 30))), (2, .op (some 32) none (.fa 1 (.t 31))), (3, .op (some 33) none (.ld 1 false (.t 32))), (4, .op (some 34) none (.ld 3 true (.t 9))), (5, .op (some 35) none (.lk (.agg [.i, .i, .i]) true (.i .i64 0) (.t 33) (.t 34))), (6, .op (some 29) none (.mv (.t 35))), (7, .op (some 36) none (.ext (.t 29) 0)), (8, .op (some 37) none (.ext (.t 29) 1)), (9, .op (some 10) none (.mv (.t 36))), (10, .op (some 11) none (.mv (.t 37)))] [24, 29, 30, 31, 32, 33, 34, 35, 36, 37]) (.seq (.seq (.reg [.op (some 38) none (.mv (.t 11)), .op (some 39) none (.un .not (.t 38))] [11, 38]) (.cond (.t 39) (.seq (.reg [.op (some 40) none (.mv (.t 0)), .op (some 41) none (.nilck (.t 40)), .op (some 42) none (.fa 0 (.t 41)), .op (some 43) none (.ld 1 false (.t 42)), .op (some 44) none (.len false (.t 43)), .op (some 45) none (.bin .add .num (.t 44) (.c (.i .i64 2))), .op (some 10) none (.mv (.t 45))] [39, 40, 41, 42, 43, 44, 45]) (.dreg [(0, .op (some 46) none (.mv (.t 0))), (1, .op (some 47) none (.mv (.t 0))), (2, .op (some 48) none (.nilck (.t 47))), (3, .op (some 49) none (.fa 1 (.t 48))), (4, .op (some 50) none (.ld 1 false (.t 49))), (5, .op (some 51) none (.ld 3 true (.t 9))), (6, .op (some 52) none (.mv (.t 0))), (7, .op (some 53) none (.nilck (.t 52))), (8, .op (some 54) none (.fa 0 (.t 53))), (9, .op (some 55) none (.ld 1 false (.t 54))), (10, .op (some 56) none (.ld 3 true (.t 9))), (11, .op (some 57) none (.bsl 3 true false [.t 56])), (13, .op (some 59) none (.mv (.t 10))), (12, .op (some 58) none (.app 3 false (.t 55) (.t 57))), (4, .ck 50 (.ld 1 false (.t 49))), (5, .ck 51 (.ld 3 true (.t 9))), (14, .op (some 60) none (.nilck (.t 46))), (15, .op (some 61) none (.fa 0 (.t 60))), (16, .op none none (.st 1 false (.t 61) (.t 58))), (5, .ck 51 (.ld 3 true (.t 9))), (17, .op (some 62) none (.ment (.agg [.i, .i, .i]) (.i .i64 0) (.t 50) (.t 51))), (18, .op (some 63) none (.ext (.t 62) 1)), (19, .op none none (.est (.t 50) (.t 63) (.t 59)))] [0, 9, 46, 47, 48, 49, 50, 51, 52, 53, 54, 55, 56, 57, 58, 59, 60, 61, 62, 63])) .skip)) (.seq (.reg [.op (some 64) none (.mv (.t 10)), .op (some 8) none (.mv (.t 64))] [0, 9, 10, 39, 64]) .ret)))))))
def d327 : Fn := { real := 327, np := 4, nt := 65, res := [.t 8], body := c327 }

/-- slices.insertionSortCmpFunc[lineage/api.RowID] -/
def c328_0 : C :=
  .seq (.seq (.dreg [(0, .op (some 18) none (.mv (.t 9))), (1, .op (some 19) none (.mv (.t 1))), (2, .op (some 20) none (.bin .gtr .num (.t 18) (.t 19))), (3, .op (some 21) none (.mv (.t 20))), (4, .op (some 22) (some (21, true)) (.mv (.t 3))), (5, .op (some 23) (some (21, true)) (.mv (.t 0))), (6, .op (some 24) (some (21, true)) (.mv (.t 9))), (7, .op (some 25) (some (21, true)) (.ia 2 (.t 23) (.t 24))), (8, .op (some 26) (some (21, true)) (.ld 2 true (.t 25))), (9, .op (some 27) (some (21, true)) (.mv (.t 0))), (10, .op (some 28) (some (21, true)) (.mv (.t 9))), (11, .op (some 29) (some (21, true)) (.bin .sub .num (.t 28) (.c (.i .i64 1)))), (12, .op (some 30) (some (21, true)) (.ia 2 (.t 27) (.t 29))), (13, .op (some 31) (some (21, true)) (.ld 2 true (.t 30))), (14, .op (some 32) (some (21, true)) (.calld (.t 22) true [.t 26, .t 31])), (15, .op (some 33) (some (21, true)) (.bin .lss .num (.t 32) (.c (.i .i64 0)))), (16, .op (some 34) none (.pick (.t 21) (.t 33) (.c (.b false))))] [18, 19, 20, 21, 22, 23, 24, 25, 26, 27, 28, 29, 30, 31, 32, 33]) (.cond (.t 34) .skip (.exit 2))) (.seq (.blk 3 (.dreg [(0, .op (some 37) none (.mv (.t 0))), (1, .op (some 38) none (.mv (.t 9))), (2, .op (some 39) none (.mv (.t 0))), (3, .op (some 40) none (.mv (.t 9))), (4, .op (some 41) none (.bin .sub .num (.t 40) (.c (.i .i64 1)))), (5, .op (some 42) none (.mv (.t 0))), (6, .op (some 43) none (.mv (.t 9))), (7, .op (some 44) none (.bin .sub .num (.t 43) (.c (.i .i64 1)))), (8, .op (some 45) none (.ia 2 (.t 42) (.t 44))), (9, .op (some 46) none (.ld 2 true (.t 45))), (10, .op (some 47) none (.mv (.t 0))), (11, .op (some 48) none (.mv (.t 9))), (12, .op (some 49) none (.ia 2 (.t 47) (.t 48))), (13, .op (some 50) none (.ld 2 true (.t 49))), (14, .op (some 51) none (.ia 2 (.t 37) (.t 38))), (15, .op none none (.st 2 true (.t 51) (.t 46))), (16, .op (some 52) none (.ia 2 (.t 39) (.t 41))), (17, .op none none (.st 2 true (.t 52) (.t 50)))] [34, 37, 38, 39, 40, 41, 42, 43, 44, 45, 46, 47, 48, 49, 50, 51, 52])) (.reg [.op (some 35) none (.mv (.t 9)), .op (some 36) none (.bin .sub .num (.t 35) (.c (.i .i64 1))), .op (some 9) none (.mv (.t 36))] [35, 36]))
def c328_r0 : C :=
  .reg [.op (some 15) none (.mv (.t 8)), .op (some 16) none (.bin .add .num (.t 15) (.c (.i .i64 1))), .op (some 8) none (.mv (.t 16))] [9, 15, 16, 34]
def c328_1 : C :=
  .seq (.seq (.reg [.op (some 12) none (.mv (.t 8)), .op (some 13) none (.mv (.t 2)), .op (some 14) none (.bin .lss .num (.t 12) (.t 13))] [12, 13]) (.cond (.t 14) .skip (.exit 0))) (.seq (.blk 1 (.seq (.reg [.op (some 17) none (.mv (.t 8)), .op (some 9) none (.mv (.t 17))] [14, 17]) (.blk 2 (.loop [] c328_0)))) c328_r0)
def c328 : C :=
  (.seq (.reg [.op (some 10) none (.mv (.t 1)), .op (some 11) none (.bin .add .num (.t 10) (.c (.i .i64 1))), .op (some 8) none (.mv (.t 11))] [10, 11]) (.blk 0 (.loop [] c328_1)))
def d328 : Fn := { real := 328, np := 4, nt := 53, res := [], body := c328 }

/-- slices.heapSortCmpFunc[lineage/api.RowID] -/
def c329 : C :=
  (.bad)
def d329 : Fn := { real := 329, np := 4, nt := 60, res := [], body := c329 }

/-- slices.breakPatternsCmpFunc[lineage/api.RowID] -/
def c330 : C :=
  (.bad)
def d330 : Fn := { real := 330, np := 4, nt := 67, res := [], body := c330 }

/-- slices.choosePivotCmpFunc[lineage/api.RowID] -/
def c331 : C :=
  (.bad)
def d331 : Fn := { real := 331, np := 4, nt := 63, res := [.t 8, .t 9], body := c331 }

/-- slices.reverseRangeCmpFunc[lineage/api.RowID] -/
def c332 : C :=
  (.bad)
def d332 : Fn := { real := 332, np := 4, nt := 34, res := [], body := c332 }

/-- slices.partialInsertionSortCmpFunc[lineage/api.RowID] -/
def c333 : C :=
  (.bad)
def d333 : Fn := { real := 333, np := 4, nt := 141, res := [.t 8], body := c333 }

/-- slices.partitionEqualCmpFunc[lineage/api.RowID] -/
def c334 : C :=
  (.bad)
def d334 : Fn := { real := 334, np := 5, nt := 90, res := [.t 10], body := c334 }

/-- slices.partitionCmpFunc[lineage/api.RowID] -/
def c335 : C :=
  (.bad)
def d335 : Fn := { real := 335, np := 5, nt := 178, res := [.t 10, .t 11], body := c335 }

/-- lineage/annotation.Monus -/
def c353 : C :=
  (.bad)
def d353 : Fn := { real := 353, np := 2, nt := 38, res := [.t 4, .t 5], body := c353 }

/-- lineage/annotation.Delta -/
def c354 : C :=
  (.bad)
def d354 : Fn := { real := 354, np := 1, nt := 29, res := [.t 2, .t 3], body := c354 }

/-- lineage/annotation.Test -/
def c355 : C :=
  (.bad)
def d355 : Fn := { real := 355, np := 4, nt := 45, res := [.t 8, .t 9], body := c355 }

/-- slices.Clone[[]lineage/api.RowID,lineage/api.RowID] (a) -/
def c1159 : C :=
  (.seq (.reg [.op (some 2) none (.mv (.c (.sl 2 true [] .ro)))] [2]) (.seq (.seq (.reg [.op (some 3) none (.mv (.t 0)), .op (some 4) none (.bin .eql .sl (.t 3) (.c (.sl 2 true [] .ro)))] [3]) (.cond (.t 4) (.seq (.reg [.op (some 2) none (.mv (.c (.sl 2 true [] .ro)))] [0, 4]) .ret) .skip)) (.seq (.reg [.op (some 5) none (.bsl 2 true true []), .op (some 6) none (.mv (.t 0)), .op (some 7) none (.app 2 true (.t 5) (.t 6)), .op (some 2) none (.mv (.t 7))] [0, 4, 5, 6, 7]) .ret)))
def d1159 : Fn := { real := 159, np := 1, nt := 8, res := [.t 2], body := c1159 }

/-- slices.Clone[[]lineage/api.Factor,lineage/api.Factor] (a) -/
def c1187 : C :=
  (.seq (.reg [.op (some 2) none (.mv (.c (.sl 11 true [] .ro)))] [2]) (.seq (.seq (.reg [.op (some 3) none (.mv (.t 0)), .op (some 4) none (.bin .eql .sl (.t 3) (.c (.sl 11 true [] .ro)))] [3]) (.cond (.t 4) (.seq (.reg [.op (some 2) none (.mv (.c (.sl 11 true [] .ro)))] [0, 4]) .ret) .skip)) (.seq (.reg [.op (some 5) none (.bsl 11 true true []), .op (some 6) none (.mv (.t 0)), .op (some 7) none (.app 11 true (.t 5) (.t 6)), .op (some 2) none (.mv (.t 7))] [0, 4, 5, 6, 7]) .ret)))
def d1187 : Fn := { real := 187, np := 1, nt := 8, res := [.t 2], body := c1187 }

/-- lineage/bignat.left (a) -/
def c1213_0 : C :=
  .seq (.reg [.op (some 15) none (.bin .lss .num (.t 14) (.t 13))] []) (.seq (.cond (.t 15) .skip (.exit 0)) (.seq (.blk 1 (.seq (.reg [.op (some 16) none (.mv (.t 14)), .op (some 6) none (.mv (.t 16))] [15, 16]) (.seq (.reg [.op (some 17) none (.mv (.t 0)), .op (some 18) none (.mv (.t 6)), .op (some 19) none (.ia 1 (.t 17) (.t 18)), .op (some 20) none (.ld 1 false (.t 19)), .op (some 21) none (.conv .u64 (.t 20)), .op (some 22) none (.mv (.t 1)), .op (some 23) none (.bin .shl .num (.t 21) (.t 22)), .op (some 7) none (.mv (.t 23))] [17, 18, 19, 20, 21, 22, 23]) (.seq (.reg [.op (some 24) none (.mv (.t 5)), .op (some 25) none (.mv (.t 6)), .op (some 26) none (.ia 1 (.t 24) (.t 25)), .op (some 27) none (.ld 1 false (.t 26)), .op (some 28) none (.mv (.t 7)), .op (some 29) none (.conv .u32 (.t 28)), .op (some 30) none (.bin .or .num (.t 27) (.t 29)), .op (some 31) none (.ia 1 (.t 24) (.t 25)), .op none none (.st 1 false (.t 31) (.t 30))] [24, 25, 26, 27, 28, 29, 30, 31]) (.reg [.op (some 32) none (.mv (.t 5)), .op (some 33) none (.mv (.t 6)), .op (some 34) none (.bin .add .num (.t 33) (.c (.i .i64 1))), .op (some 35) none (.mv (.t 7)), .op (some 36) none (.bin .shr .num (.t 35) (.c (.i .u64 32))), .op (some 37) none (.conv .u32 (.t 36)), .op (some 38) none (.ia 1 (.t 32) (.t 34)), .op none none (.st 1 false (.t 38) (.t 37))] [6, 7, 32, 33, 34, 35, 36, 37, 38]))))) (.reg [.op (some 39) none (.bin .add .num (.t 14) (.c (.i .i64 1))), .op (some 14) none (.mv (.t 39))] [39])))
def c1213_r0 : C :=
  .seq (.reg [.op (some 40) none (.mv (.t 5)), .op (some 4) none (.mv (.t 40))] [0, 1, 5, 13, 14, 15, 40]) .ret
def c1213 : C :=
  (.seq (.reg [.op (some 4) none (.mv (.c (.sl 1 true [] .ro)))] [4]) (.seq (.reg [.op (some 8) none (.mv (.t 0)), .op (some 9) none (.len false (.t 8)), .op (some 10) none (.bin .add .num (.t 9) (.c (.i .i64 1))), .op (some 11) none (.mksl 1 true [.i .u32 0] (.t 10)), .op (some 5) none (.mv (.t 11))] [8, 9, 10, 11]) (.seq (.seq (.reg [.op (some 12) none (.mv (.t 0)), .op (some 13) none (.len false (.t 12)), .op (some 14) none (.mv (.c (.i .i64 0)))] [12]) (.blk 0 (.loop [] c1213_0))) c1213_r0)))
def d1213 : Fn := { real := 213, np := 2, nt := 41, res := [.t 4], body := c1213 }

end Go.Proofs.YtjniafcnjbbomaaGreatDoor.DE

namespace Go.Proofs.YtjniafcnjbbomaaGreatDoor.DE

def dpL : List (Nat × Fn) := [(3, d3), (4, d4), (7, d7), (8, d8), (9, d9), (10, d10), (11, d11), (12, d12), (13, d13), (14, d14), (15, d15), (16, d16), (17, d17), (18, d18), (20, d20), (21, d21), (26, d26), (27, d27), (28, d28), (29, d29), (30, d30), (31, d31), (32, d32), (33, d33), (34, d34), (35, d35), (36, d36), (37, d37), (38, d38), (39, d39), (40, d40), (41, d41), (42, d42), (43, d43), (44, d44), (45, d45), (46, d46), (47, d47), (48, d48), (49, d49), (50, d50), (51, d51), (52, d52), (53, d53), (54, d54), (55, d55), (56, d56), (57, d57), (58, d58), (59, d59), (60, d60), (62, d62), (63, d63), (64, d64), (65, d65), (66, d66), (67, d67), (68, d68), (70, d70), (71, d71), (73, d73), (76, d76), (77, d77), (78, d78), (79, d79), (80, d80), (81, d81), (82, d82), (83, d83), (84, d84), (85, d85), (86, d86), (87, d87), (88, d88), (89, d89), (90, d90), (91, d91), (92, d92), (93, d93), (94, d94), (95, d95), (96, d96), (97, d97), (98, d98), (99, d99), (100, d100), (101, d101), (102, d102), (103, d103), (104, d104), (105, d105), (106, d106), (107, d107), (108, d108), (109, d109), (110, d110), (113, d113), (114, d114), (115, d115), (116, d116), (117, d117), (118, d118), (119, d119), (120, d120), (121, d121), (122, d122), (123, d123), (124, d124), (125, d125), (126, d126), (127, d127), (128, d128), (134, d134), (135, d135), (138, d138), (139, d139), (141, d141), (142, d142), (143, d143), (144, d144), (145, d145), (146, d146), (147, d147), (148, d148), (149, d149), (150, d150), (151, d151), (152, d152), (153, d153), (154, d154), (155, d155), (156, d156), (157, d157), (158, d158), (159, d159), (160, d160), (161, d161), (162, d162), (163, d163), (164, d164), (166, d166), (167, d167), (168, d168), (169, d169), (170, d170), (171, d171), (172, d172), (173, d173), (174, d174), (175, d175), (176, d176), (177, d177), (178, d178), (179, d179), (180, d180), (181, d181), (182, d182), (183, d183), (184, d184), (185, d185), (186, d186), (188, d188), (189, d189), (190, d190), (191, d191), (192, d192), (193, d193), (194, d194), (195, d195), (196, d196), (197, d197), (198, d198), (199, d199), (200, d200), (201, d201), (212, d212), (213, d213), (214, d214), (215, d215), (216, d216), (220, d220), (221, d221), (222, d222), (223, d223), (224, d224), (225, d225), (230, d230), (231, d231), (232, d232), (233, d233), (234, d234), (235, d235), (236, d236), (243, d243), (247, d247), (248, d248), (252, d252), (253, d253), (254, d254), (255, d255), (256, d256), (257, d257), (258, d258), (259, d259), (260, d260), (261, d261), (262, d262), (263, d263), (264, d264), (265, d265), (266, d266), (267, d267), (268, d268), (269, d269), (270, d270), (271, d271), (272, d272), (273, d273), (301, d301), (302, d302), (303, d303), (304, d304), (306, d306), (312, d312), (313, d313), (316, d316), (322, d322), (323, d323), (324, d324), (325, d325), (326, d326), (327, d327), (328, d328), (329, d329), (330, d330), (331, d331), (332, d332), (333, d333), (334, d334), (335, d335), (353, d353), (354, d354), (355, d355), (1159, d1159), (1187, d1187), (1213, d1213)]

def dp (g : Nat) : Option Fn := dpL.lookup g

end Go.Proofs.YtjniafcnjbbomaaGreatDoor.DE

namespace Go.Proofs.YtjniafcnjbbomaaGreatDoor.DE
open Go

/-! math/bits.Add32 -/
def s142 (cf : CallF) (a0 : D) (a1 : D) (a2 : D) (S : Store) (Post : D → Store → Prop) : Prop :=
  OX (convD .u64 a0) fun x1 =>
  OX (convD .u64 a1) fun x2 =>
  OX (binD .add .num x1 x2) fun x3 =>
  OX (convD .u64 a2) fun x4 =>
  OX (binD .add .num x3 x4) fun x5 =>
  OX (convD .u32 x5) fun x6 =>
  OX (binD .shr .num x5 (.i .u64 32)) fun x7 =>
  OX (convD .u32 x7) fun x8 =>
  Post (.tup [x6, x8]) S
theorem e142 (cf : CallF) (a0 : D) (a1 : D) (a2 : D) (S : Store) (Post : D → Store → Prop) : wp cf c142 (frame0 d142 [a0, a1, a2]) S (FinK d142.res Post) = s142 cf a0 a1 a2 S Post := wpS_of (by kernel_rfl)
theorem i142 (a0 : D) (a1 : D) (a2 : D) (r : D) (ha : noRefL (stripL [a0, a1, a2]) = true) (hr : noRef r = true) (h : s142 (call dp) (strip a0) (strip a1) (strip a2) [] fun d _ => stripT d = r) : isoCall (call dp) 142 [a0, a1, a2] = some r := iso_s (f := d142) rfl ⟨rfl, by decide⟩ ha hr (by rw [← e142] at h; exact h)
/-! math/bits.Sub32 -/
def s243 (cf : CallF) (a0 : D) (a1 : D) (a2 : D) (S : Store) (Post : D → Store → Prop) : Prop :=
  OX (binD .sub .num a0 a1) fun x1 =>
  OX (binD .sub .num x1 a2) fun x2 =>
  OX (unD .xor a0) fun x3 =>
  OX (binD .and .num x3 a1) fun x4 =>
  OX (binD .xor .num a0 a1) fun x5 =>
  OX (unD .xor x5) fun x6 =>
  OX (binD .and .num x6 x2) fun x7 =>
  OX (binD .or .num x4 x7) fun x8 =>
  OX (binD .shr .num x8 (.i .u64 31)) fun x9 =>
  Post (.tup [x2, x9]) S
theorem e243 (cf : CallF) (a0 : D) (a1 : D) (a2 : D) (S : Store) (Post : D → Store → Prop) : wp cf c243 (frame0 d243 [a0, a1, a2]) S (FinK d243.res Post) = s243 cf a0 a1 a2 S Post := wpS_of (by kernel_rfl)
theorem i243 (a0 : D) (a1 : D) (a2 : D) (r : D) (ha : noRefL (stripL [a0, a1, a2]) = true) (hr : noRef r = true) (h : s243 (call dp) (strip a0) (strip a1) (strip a2) [] fun d _ => stripT d = r) : isoCall (call dp) 243 [a0, a1, a2] = some r := iso_s (f := d243) rfl ⟨rfl, by decide⟩ ha hr (by rw [← e243] at h; exact h)
/-! math/bits.Len32 -/
def s268 (cf : CallF) (a0 : D) (S : Store) (Post : D → Store → Prop) : Prop :=
  OX (binD .geq .num a0 (.i .u32 65536)) fun x1 =>
  jn (fun (y3 : D) (y4 : D) (y5 : D) (S6 : Store) =>
  OX (binD .geq .num y3 (.i .u32 256)) fun x7 =>
  jn (fun (y9 : D) (y10 : D) (y11 : D) (S12 : Store) =>
  OX (convD .u8 y9) fun x13 =>
  OX (ixsD (.s [0, 1, 2, 2, 3, 3, 3, 3, 4, 4, 4, 4, 4, 4, 4, 4, 5, 5, 5, 5, 5, 5, 5, 5, 5, 5, 5, 5, 5, 5, 5, 5, 6, 6, 6, 6, 6, 6, 6, 6, 6, 6, 6, 6, 6, 6, 6, 6, 6, 6, 6, 6, 6, 6, 6, 6, 6, 6, 6, 6, 6, 6, 6, 6, 7, 7, 7, 7, 7, 7, 7, 7, 7, 7, 7, 7, 7, 7, 7, 7, 7, 7, 7, 7, 7, 7, 7, 7, 7, 7, 7, 7, 7, 7, 7, 7, 7, 7, 7, 7, 7, 7, 7, 7, 7, 7, 7, 7, 7, 7, 7, 7, 7, 7, 7, 7, 7, 7, 7, 7, 7, 7, 7, 7, 7, 7, 7, 7, 8, 8, 8, 8, 8, 8, 8, 8, 8, 8, 8, 8, 8, 8, 8, 8, 8, 8, 8, 8, 8, 8, 8, 8, 8, 8, 8, 8, 8, 8, 8, 8, 8, 8, 8, 8, 8, 8, 8, 8, 8, 8, 8, 8, 8, 8, 8, 8, 8, 8, 8, 8, 8, 8, 8, 8, 8, 8, 8, 8, 8, 8, 8, 8, 8, 8, 8, 8, 8, 8, 8, 8, 8, 8, 8, 8, 8, 8, 8, 8, 8, 8, 8, 8, 8, 8, 8, 8, 8, 8, 8, 8, 8, 8, 8, 8, 8, 8, 8, 8, 8, 8, 8, 8, 8, 8, 8, 8, 8, 8, 8, 8, 8, 8, 8, 8, 8, 8, 8, 8, 8, 8, 8, 8, 8, 8, 8, 8]) x13) fun x14 =>
  OX (convD .i64 x14) fun x15 =>
  OX (binD .add .num y10 x15) fun x16 =>
  Post x16 S12) fun k8 =>
  WB x7
  (OX (binD .shr .num y3 (.i .u64 8)) fun x17 =>
  OX (binD .add .num y4 (.i .i64 8)) fun x18 =>
  k8 x17 x18 D.top S6)
  (k8 y3 y4 x7 S6)) fun k2 =>
  WB x1
  (OX (binD .shr .num a0 (.i .u64 16)) fun x19 =>
  k2 x19 (.i .i64 16) D.top S)
  (k2 a0 (.i .i64 0) x1 S)
theorem e268 (cf : CallF) (a0 : D) (S : Store) (Post : D → Store → Prop) : wp cf c268 (frame0 d268 [a0]) S (FinK d268.res Post) = s268 cf a0 S Post := wpS_of (by kernel_rfl)
theorem i268 (a0 : D) (r : D) (ha : noRefL (stripL [a0]) = true) (hr : noRef r = true) (h : s268 (call dp) (strip a0) [] fun d _ => stripT d = r) : isoCall (call dp) 268 [a0] = some r := iso_s (f := d268) rfl ⟨rfl, by decide⟩ ha hr (by rw [← e268] at h; exact h)
/-! math/bits.LeadingZeros32 -/
def s212 (cf : CallF) (a0 : D) (S : Store) (Post : D → Store → Prop) : Prop :=
  OX (isoCall cf 268 [a0]) fun x1 =>
  OX (binD .sub .num (.i .i64 32) x1) fun x2 =>
  Post x2 S
theorem e212 (cf : CallF) (a0 : D) (S : Store) (Post : D → Store → Prop) : wp cf c212 (frame0 d212 [a0]) S (FinK d212.res Post) = s212 cf a0 S Post := wpS_of (by kernel_rfl)
theorem i212 (a0 : D) (r : D) (ha : noRefL (stripL [a0]) = true) (hr : noRef r = true) (h : s212 (call dp) (strip a0) [] fun d _ => stripT d = r) : isoCall (call dp) 212 [a0] = some r := iso_s (f := d212) rfl ⟨rfl, by decide⟩ ha hr (by rw [← e212] at h; exact h)
/-! lineage/bignat.trimmed -/
def s146_r0 (cf : CallF) (a0 : D) (a2 : D) (a3 : D) (a15 : D) (S : Store) (Q : Ex → List D → Store → Prop) : Prop :=
  OX (slcD 1 a0 none (some a3)) fun x1 =>
  Q .ret (mkf 21 [(0, .top), (2, x1), (3, .top), (15, .top)]) S
theorem e146_r0 (cf : CallF) (a0 : D) (a2 : D) (a3 : D) (a15 : D) (S : Store) (Q : Ex → List D → Store → Prop) : wp cf c146_r0 (mkf 21 [(0, a0), (2, a2), (3, a3), (15, a15)]) S Q = s146_r0 cf a0 a2 a3 a15 S Q := wpS_of (by kernel_rfl)
def s146_0 (cf : CallF) (a0 : D) (a2 : D) (a3 : D) (a15 : D) (S : Store) (Q : Ex → List D → Store → Prop) : Prop :=
  OX (binD .gtr .num a3 (.i .i64 0)) fun x2 =>
  OX (gsel x2 true (some a0)) fun x3 =>
  OX (gsel x2 true (some a3)) fun x4 =>
  OX (gsel x2 true (binD .sub .num x4 (.i .i64 1))) fun x5 =>
  OX (gsel x2 true (iaD 1 x3 x5)) fun x6 =>
  OX (gsel x2 true (ldD S 1 false x6)) fun x7 =>
  OX (gsel x2 true (binD .eql .num x7 (.i .u32 0))) fun x8 =>
  OX (pickD x2 x8 (.b false)) fun x9 =>
  WB x9
  (OX (binD .sub .num a3 (.i .i64 1)) fun x10 =>
  Q .normal (mkf 21 [(0, a0), (2, a2), (3, x10), (15, .top)]) S)
  (Q (.exit 0) (mkf 21 [(0, a0), (2, a2), (3, a3), (15, x9)]) S)
theorem e146_0 (cf : CallF) (a0 : D) (a2 : D) (a3 : D) (a15 : D) (S : Store) (Q : Ex → List D → Store → Prop) : wp cf c146_0 (fkill (mkf 21 [(0, a0), (2, a2), (3, a3), (15, a15)]) []) S Q = s146_0 cf a0 a2 a3 a15 S Q := wpS_of (by kernel_rfl)
def s146 (cf : CallF) (a0 : D) (S : Store) (Post : D → Store → Prop) : Prop :=
  OX (lenD false a0) fun x11 =>
  W cf (.loop [] c146_0) (mkf 21 [(0, a0), (2, .top), (3, x11), (15, .top)]) S (Qblk 0 (QS cf c146_r0 (FinK [.t 2] Post)))
theorem e146 (cf : CallF) (a0 : D) (S : Store) (Post : D → Store → Prop) : wp cf c146 (frame0 d146 [a0]) S (FinK d146.res Post) = s146 cf a0 S Post := wpS_of (by kernel_rfl)
theorem i146 (a0 : D) (r : D) (ha : noRefL (stripL [a0]) = true) (hr : noRef r = true) (h : s146 (call dp) (strip a0) [] fun d _ => stripT d = r) : isoCall (call dp) 146 [a0] = some r := iso_s (f := d146) rfl ⟨rfl, by decide⟩ ha hr (by rw [← e146] at h; exact h)
/-! lineage/bignat.Valid -/
def s105 (cf : CallF) (a0 : D) (S : Store) (Post : D → Store → Prop) : Prop :=
  OX (lenD false a0) fun x1 =>
  OX (binD .leq .num x1 (.i .i64 128)) fun x2 =>
  OX (gsel x2 true (some a0)) fun x3 =>
  OX (gsel x2 true (lenD false x3)) fun x4 =>
  OX (gsel x2 true (binD .eql .num x4 (.i .i64 0))) fun x5 =>
  OX (gsel x2 true (some x5)) fun x6 =>
  OX (gsel x6 false (some a0)) fun x7 =>
  OX (gsel x6 false (some a0)) fun x8 =>
  OX (gsel x6 false (lenD false x8)) fun x9 =>
  OX (gsel x6 false (binD .sub .num x9 (.i .i64 1))) fun x10 =>
  OX (gsel x6 false (iaD 1 x7 x10)) fun x11 =>
  OX (gsel x6 false (ldD S 1 false x11)) fun x12 =>
  OX (gsel x6 false (binD .neq .num x12 (.i .u32 0))) fun x13 =>
  OX (gsel x2 true (pickD x6 (.b true) x13)) fun x14 =>
  OX (pickD x2 x14 (.b false)) fun x15 =>
  Post x15 S
theorem e105 (cf : CallF) (a0 : D) (S : Store) (Post : D → Store → Prop) : wp cf c105 (frame0 d105 [a0]) S (FinK d105.res Post) = s105 cf a0 S Post := wpS_of (by kernel_rfl)
theorem i105 (a0 : D) (r : D) (ha : noRefL (stripL [a0]) = true) (hr : noRef r = true) (h : s105 (call dp) (strip a0) [] fun d _ => stripT d = r) : isoCall (call dp) 105 [a0] = some r := iso_s (f := d105) rfl ⟨rfl, by decide⟩ ha hr (by rw [← e105] at h; exact h)
/-! lineage/bignat.orZero -/
def s143 (cf : CallF) (a0 : D) (S : Store) (Post : D → Store → Prop) : Prop :=
  OX (isoCall cf 105 [a0]) fun x1 =>
  OX (unD .not x1) fun x2 =>
  WB x2
  (Post (.sl 1 true [] .ro) S)
  (Post a0 S)
theorem e143 (cf : CallF) (a0 : D) (S : Store) (Post : D → Store → Prop) : wp cf c143 (frame0 d143 [a0]) S (FinK d143.res Post) = s143 cf a0 S Post := wpS_of (by kernel_rfl)
theorem i143 (a0 : D) (r : D) (ha : noRefL (stripL [a0]) = true) (hr : noRef r = true) (h : s143 (call dp) (strip a0) [] fun d _ => stripT d = r) : isoCall (call dp) 143 [a0] = some r := iso_s (f := d143) rfl ⟨rfl, by decide⟩ ha hr (by rw [← e143] at h; exact h)
/-! lineage/bignat.fitting -/
def s134 (cf : CallF) (a0 : D) (S : Store) (Post : D → Store → Prop) : Prop :=
  OX (isoCall cf 146 [a0]) fun x1 =>
  OX (lenD false x1) fun x2 =>
  OX (binD .gtr .num x2 (.i .i64 128)) fun x3 =>
  WB x3
  (Post (.tup [(.sl 1 true [] .ro), (.i .i64 6)]) S)
  (Post (.tup [x1, (.i .i64 0)]) S)
theorem e134 (cf : CallF) (a0 : D) (S : Store) (Post : D → Store → Prop) : wp cf c134 (frame0 d134 [a0]) S (FinK d134.res Post) = s134 cf a0 S Post := wpS_of (by kernel_rfl)
theorem i134 (a0 : D) (r : D) (ha : noRefL (stripL [a0]) = true) (hr : noRef r = true) (h : s134 (call dp) (strip a0) [] fun d _ => stripT d = r) : isoCall (call dp) 134 [a0] = some r := iso_s (f := d134) rfl ⟨rfl, by decide⟩ ha hr (by rw [← e134] at h; exact h)
/-! lineage/bignat.FromUint -/
def s83 (cf : CallF) (a0 : D) (S : Store) (Post : D → Store → Prop) : Prop :=
  OX (convD .u32 a0) fun x1 =>
  OX (binD .shr .num a0 (.i .u64 32)) fun x2 =>
  OX (convD .u32 x2) fun x3 =>
  OX (cellsV 1 false [x1, x3]) fun x4 =>
  OX (isoCall cf 146 [(.sl 1 false x4 .ro)]) fun x5 =>
  Post x5 S
theorem e83 (cf : CallF) (a0 : D) (S : Store) (Post : D → Store → Prop) : wp cf c83 (frame0 d83 [a0]) S (FinK d83.res Post) = s83 cf a0 S Post := wpS_of (by kernel_rfl)
theorem i83 (a0 : D) (r : D) (ha : noRefL (stripL [a0]) = true) (hr : noRef r = true) (h : s83 (call dp) (strip a0) [] fun d _ => stripT d = r) : isoCall (call dp) 83 [a0] = some r := iso_s (f := d83) rfl ⟨rfl, by decide⟩ ha hr (by rw [← e83] at h; exact h)
/-! lineage/bignat.limbAt -/
def s141 (cf : CallF) (a0 : D) (S : Store) (Post : D → Store → Prop) : Prop :=
  bxx 1 false a0 S fun x1 S2 =>
  Post (.fn 221 [x1]) S2
theorem e141 (cf : CallF) (a0 : D) (S : Store) (Post : D → Store → Prop) : wp cf c141 (frame0 d141 [a0]) S (FinK d141.res Post) = s141 cf a0 S Post := wpS_of (by kernel_rfl)
theorem f141 (a0 : D) (S : Store) (Post : D → Store → Prop) (h : s141 (call dp) a0 S Post) : ∃ r S', call dp 141 [a0] S = some (r, S') ∧ Post r S' := call_s (f := d141) rfl ⟨rfl, by decide⟩ (by rw [← e141] at h; exact h)

/-! lineage/bignat.limbAt$1 -/
def s221 (cf : CallF) (a0 : D) (a1 : D) (S : Store) (Post : D → Store → Prop) : Prop :=
  OX (ldD S 1 false a1) fun x1 =>
  OX (lenD false x1) fun x2 =>
  OX (binD .geq .num a0 x2) fun x3 =>
  WB x3
  (Post (.i .u32 0) S)
  (OX (ldD S 1 false a1) fun x4 =>
  OX (iaD 1 x4 a0) fun x5 =>
  OX (ldD S 1 false x5) fun x6 =>
  Post x6 S)
theorem e221 (cf : CallF) (a0 : D) (a1 : D) (S : Store) (Post : D → Store → Prop) : wp cf c221 (frame0 d221 [a0, a1]) S (FinK d221.res Post) = s221 cf a0 a1 S Post := wpS_of (by kernel_rfl)
theorem f221 (a0 : D) (a1 : D) (S : Store) (Post : D → Store → Prop) (h : s221 (call dp) a0 a1 S Post) : ∃ r S', call dp 221 [a0, a1] S = some (r, S') ∧ Post r S' := call_s (f := d221) rfl ⟨rfl, by decide⟩ (by rw [← e221] at h; exact h)

/-! cmp.isNaN[int] -/
def s222 (cf : CallF) (a0 : D) (S : Store) (Post : D → Store → Prop) : Prop :=
  OX (binD .neq .num a0 a0) fun x1 =>
  Post x1 S
theorem e222 (cf : CallF) (a0 : D) (S : Store) (Post : D → Store → Prop) : wp cf c222 (frame0 d222 [a0]) S (FinK d222.res Post) = s222 cf a0 S Post := wpS_of (by kernel_rfl)
theorem i222 (a0 : D) (r : D) (ha : noRefL (stripL [a0]) = true) (hr : noRef r = true) (h : s222 (call dp) (strip a0) [] fun d _ => stripT d = r) : isoCall (call dp) 222 [a0] = some r := iso_s (f := d222) rfl ⟨rfl, by decide⟩ ha hr (by rw [← e222] at h; exact h)
/-! cmp.isNaN[uint32] -/
def s223 (cf : CallF) (a0 : D) (S : Store) (Post : D → Store → Prop) : Prop :=
  OX (binD .neq .num a0 a0) fun x1 =>
  Post x1 S
theorem e223 (cf : CallF) (a0 : D) (S : Store) (Post : D → Store → Prop) : wp cf c223 (frame0 d223 [a0]) S (FinK d223.res Post) = s223 cf a0 S Post := wpS_of (by kernel_rfl)
theorem i223 (a0 : D) (r : D) (ha : noRefL (stripL [a0]) = true) (hr : noRef r = true) (h : s223 (call dp) (strip a0) [] fun d _ => stripT d = r) : isoCall (call dp) 223 [a0] = some r := iso_s (f := d223) rfl ⟨rfl, by decide⟩ ha hr (by rw [← e223] at h; exact h)
/-! cmp.Compare[int] -/
def s144 (cf : CallF) (a0 : D) (a1 : D) (S : Store) (Post : D → Store → Prop) : Prop :=
  OX (isoCall cf 222 [a0]) fun x1 =>
  OX (isoCall cf 222 [a1]) fun x2 =>
  WB x1
  (WB x2
  (Post (.i .i64 0) S)
  (Post (.i .i64 (-1)) S))
  (WB x2
  (Post (.i .i64 1) S)
  (OX (binD .lss .num a0 a1) fun x3 =>
  WB x3
  (Post (.i .i64 (-1)) S)
  (OX (binD .gtr .num a0 a1) fun x4 =>
  WB x4
  (Post (.i .i64 1) S)
  (Post (.i .i64 0) S))))
theorem e144 (cf : CallF) (a0 : D) (a1 : D) (S : Store) (Post : D → Store → Prop) : wp cf c144 (frame0 d144 [a0, a1]) S (FinK d144.res Post) = s144 cf a0 a1 S Post := wpS_of (by kernel_rfl)
theorem i144 (a0 : D) (a1 : D) (r : D) (ha : noRefL (stripL [a0, a1]) = true) (hr : noRef r = true) (h : s144 (call dp) (strip a0) (strip a1) [] fun d _ => stripT d = r) : isoCall (call dp) 144 [a0, a1] = some r := iso_s (f := d144) rfl ⟨rfl, by decide⟩ ha hr (by rw [← e144] at h; exact h)
/-! cmp.Compare[uint32] -/
def s145 (cf : CallF) (a0 : D) (a1 : D) (S : Store) (Post : D → Store → Prop) : Prop :=
  OX (isoCall cf 223 [a0]) fun x1 =>
  OX (isoCall cf 223 [a1]) fun x2 =>
  WB x1
  (WB x2
  (Post (.i .i64 0) S)
  (Post (.i .i64 (-1)) S))
  (WB x2
  (Post (.i .i64 1) S)
  (OX (binD .lss .num a0 a1) fun x3 =>
  WB x3
  (Post (.i .i64 (-1)) S)
  (OX (binD .gtr .num a0 a1) fun x4 =>
  WB x4
  (Post (.i .i64 1) S)
  (Post (.i .i64 0) S))))
theorem e145 (cf : CallF) (a0 : D) (a1 : D) (S : Store) (Post : D → Store → Prop) : wp cf c145 (frame0 d145 [a0, a1]) S (FinK d145.res Post) = s145 cf a0 a1 S Post := wpS_of (by kernel_rfl)
theorem i145 (a0 : D) (a1 : D) (r : D) (ha : noRefL (stripL [a0, a1]) = true) (hr : noRef r = true) (h : s145 (call dp) (strip a0) (strip a1) [] fun d _ => stripT d = r) : isoCall (call dp) 145 [a0, a1] = some r := iso_s (f := d145) rfl ⟨rfl, by decide⟩ ha hr (by rw [← e145] at h; exact h)
/-! lineage/bignat.Compare -/
def s82_r0 (cf : CallF) (a0 : D) (a1 : D) (a4 : D) (a5 : D) (a24 : D) (S : Store) (Q : Ex → List D → Store → Prop) : Prop :=
  Q .ret (mkf 45 [(0, .top), (1, .top), (4, (.i .i64 0)), (5, .top), (24, .top)]) S
theorem e82_r0 (cf : CallF) (a0 : D) (a1 : D) (a4 : D) (a5 : D) (a24 : D) (S : Store) (Q : Ex → List D → Store → Prop) : wp cf c82_r0 (mkf 45 [(0, a0), (1, a1), (4, a4), (5, a5), (24, a24)]) S Q = s82_r0 cf a0 a1 a4 a5 a24 S Q := wpS_of (by kernel_rfl)
def s82_0 (cf : CallF) (a0 : D) (a1 : D) (a4 : D) (a5 : D) (a24 : D) (S : Store) (Q : Ex → List D → Store → Prop) : Prop :=
  OX (binD .geq .num a5 (.i .i64 0)) fun x1 =>
  WB x1
  (OX (iaD 1 a0 a5) fun x2 =>
  OX (ldD S 1 false x2) fun x3 =>
  OX (iaD 1 a1 a5) fun x4 =>
  OX (ldD S 1 false x4) fun x5 =>
  OX (binD .neq .num x3 x5) fun x6 =>
  WB x6
  (OX (iaD 1 a0 a5) fun x7 =>
  OX (ldD S 1 false x7) fun x8 =>
  OX (iaD 1 a1 a5) fun x9 =>
  OX (ldD S 1 false x9) fun x10 =>
  OX (isoCall cf 145 [x8, x10]) fun x11 =>
  Q .ret (mkf 45 [(0, .top), (1, .top), (4, x11), (5, .top), (24, .top)]) S)
  (OX (binD .sub .num a5 (.i .i64 1)) fun x12 =>
  Q .normal (mkf 45 [(0, a0), (1, a1), (4, a4), (5, x12), (24, .top)]) S))
  (Q (.exit 0) (mkf 45 [(0, a0), (1, a1), (4, a4), (5, a5), (24, x1)]) S)
theorem e82_0 (cf : CallF) (a0 : D) (a1 : D) (a4 : D) (a5 : D) (a24 : D) (S : Store) (Q : Ex → List D → Store → Prop) : wp cf c82_0 (fkill (mkf 45 [(0, a0), (1, a1), (4, a4), (5, a5), (24, a24)]) []) S Q = s82_0 cf a0 a1 a4 a5 a24 S Q := wpS_of (by kernel_rfl)
def s82 (cf : CallF) (a0 : D) (a1 : D) (S : Store) (Post : D → Store → Prop) : Prop :=
  OX (isoCall cf 143 [a0]) fun x13 =>
  OX (isoCall cf 143 [a1]) fun x14 =>
  OX (lenD false x13) fun x15 =>
  OX (lenD false x14) fun x16 =>
  OX (binD .neq .num x15 x16) fun x17 =>
  WB x17
  (OX (lenD false x13) fun x18 =>
  OX (lenD false x14) fun x19 =>
  OX (isoCall cf 144 [x18, x19]) fun x20 =>
  Post x20 S)
  (OX (lenD false x13) fun x21 =>
  OX (binD .sub .num x21 (.i .i64 1)) fun x22 =>
  W cf (.loop [] c82_0) (mkf 45 [(0, x13), (1, x14), (4, .top), (5, x22), (24, .top)]) S (Qblk 0 (QS cf c82_r0 (FinK [.t 4] Post))))
theorem e82 (cf : CallF) (a0 : D) (a1 : D) (S : Store) (Post : D → Store → Prop) : wp cf c82 (frame0 d82 [a0, a1]) S (FinK d82.res Post) = s82 cf a0 a1 S Post := wpS_of (by kernel_rfl)
theorem i82 (a0 : D) (a1 : D) (r : D) (ha : noRefL (stripL [a0, a1]) = true) (hr : noRef r = true) (h : s82 (call dp) (strip a0) (strip a1) [] fun d _ => stripT d = r) : isoCall (call dp) 82 [a0, a1] = some r := iso_s (f := d82) rfl ⟨rfl, by decide⟩ ha hr (by rw [← e82] at h; exact h)
end Go.Proofs.YtjniafcnjbbomaaGreatDoor.DE

namespace Go.Proofs.YtjniafcnjbbomaaGreatDoor.DE.V
open Go NL

/-! ### math/bits -/
theorem v142 {x y c : Nat} (hx : x < B) (hy : y < B) (hc : c ≤ 1) : isoCall (call dp) 142 [.i .u32 x, .i .u32 y, .i .u32 c] = some (.tup [.i .u32 (((x + y + c) % B : Nat) : Int), .i .u32 (((x + y + c) / B : Nat) : Int)]) := by
  have hB : B = 4294967296 := rfl
  apply i142 _ _ _ _ (by simp [noRefL]) (by simp [noRef, noRefL])
  have h1 := add64 (a := x) (b := y) (by omega)
  have h2 := add64 (a := x + y) (b := c) (by omega)
  have hd : (x + y + c) / B < B := by simp only [B] at *; omega
  simp only [s142, strip_i, conv64B hx, conv64B hy, conv64B (show c < B by omega), h1, h2, conv32m, shr32, Nat.mod_eq_of_lt hd, OX_some, stripT_tup, stripL_cons, stripL_nil]

theorem bv_top (v : BitVec 32) : ((v.toNat : Int)).fdiv (2 ^ 31) = if v.msb then 1 else 0 := by
  have e : ((v.toNat : Int)).fdiv (2 ^ 31) = ((v.toNat / 2 ^ 31 : Nat) : Int) := by
    rw [show ((2 : Int) ^ 31) = ((2 ^ 31 : Nat) : Int) by rfl, ← Int.ofNat_fdiv]
  rw [e]
  have h := v.isLt
  rw [BitVec.msb_eq_decide]
  by_cases hm : 2 ^ 31 ≤ v.toNat
  · have : v.toNat / 2 ^ 31 = 1 := by omega
    simp [this, hm]
  · have : v.toNat / 2 ^ 31 = 0 := by omega
    simp [this, hm]

/-- The difference of two limbs, and what is borrowed. -/
def difL (x y b : Nat) : Nat := (x + 2 * B - y - b) % B
def borL (x y b : Nat) : Nat := if x < y + b then 1 else 0
theorem difL_eq {x y b : Nat} (hx : x < B) (hy : y < B) (hb : b ≤ 1) : difL x y b + y + b = x + B * borL x y b := by
  have hB : B = 4294967296 := rfl
  unfold difL borL
  simp only [B] at *
  split <;> omega
theorem difL_lt (x y b : Nat) : difL x y b < B := Nat.mod_lt _ B_pos
theorem borL_le (x y b : Nat) : borL x y b ≤ 1 := by unfold borL; split <;> omega

theorem wrapu32s {x y b : Nat} (hx : x < B) (hy : y < B) (hb : b ≤ 1) : IntKind.wrap .u32 (IntKind.wrap .u32 ((x : Int) - y) - b) = difL x y b := by
  have hB : B = 4294967296 := rfl
  simp only [IntKind.wrap, IntKind.signed, IntKind.bits, difL]
  simp
  omega

theorem un_xor (x : Nat) (_ : x < B) : unD .xor (.i .u32 x) = some (.i .u32 (~~~ (BitVec.ofNat 32 x)).toNat) := by
  have h := (~~~ (BitVec.ofNat 32 x)).isLt
  have e : BitVec.ofInt 32 (IntKind.max .u32) ^^^ BitVec.ofInt 32 (x : Int) = ~~~ (BitVec.ofNat 32 x) := by
    rw [BitVec.ofInt_natCast]
    have : BitVec.ofInt 32 (IntKind.max .u32) = BitVec.allOnes 32 := by decide
    rw [this, BitVec.allOnes_xor]
  simp only [unD, IntKind.signed, Bool.false_eq_true, if_false, intOp]
  have e2 := congrArg (fun v : BitVec 32 => (v.toNat : Int)) e
  exact congrArg (fun z => some (D.i .u32 z)) ((congrArg (IntKind.wrap .u32) e2).trans (wrapu32 (by omega) (by omega)))

theorem bv_bin {op : BinOp} (v w : BitVec 32) : (op = .and → binD op .num (.i .u32 v.toNat) (.i .u32 w.toNat) = some (.i .u32 (v &&& w).toNat)) ∧ (op = .or → binD op .num (.i .u32 v.toNat) (.i .u32 w.toNat) = some (.i .u32 (v ||| w).toNat)) ∧
    (op = .xor → binD op .num (.i .u32 v.toNat) (.i .u32 w.toNat) = some (.i .u32 (v ^^^ w).toNat)) := by
  have hv : BitVec.ofInt 32 (v.toNat : Int) = v := by simp
  have hw : BitVec.ofInt 32 (w.toNat : Int) = w := by simp
  refine ⟨?_, ?_, ?_⟩
  · rintro rfl
    have h := (v &&& w).isLt
    simp only [binD, intOp, if_true]
    have e2 := congrArg (fun v : BitVec 32 => (v.toNat : Int)) (show BitVec.ofInt 32 (v.toNat : Int) &&& BitVec.ofInt 32 (w.toNat : Int) = v &&& w by rw [hv, hw])
    exact congrArg (fun z => some (D.i .u32 z)) ((congrArg (IntKind.wrap .u32) e2).trans (wrapu32 (by omega) (by omega)))
  · rintro rfl
    have h := (v ||| w).isLt
    simp only [binD, intOp, if_true]
    have e2 := congrArg (fun v : BitVec 32 => (v.toNat : Int)) (show BitVec.ofInt 32 (v.toNat : Int) ||| BitVec.ofInt 32 (w.toNat : Int) = v ||| w by rw [hv, hw])
    exact congrArg (fun z => some (D.i .u32 z)) ((congrArg (IntKind.wrap .u32) e2).trans (wrapu32 (by omega) (by omega)))
  · rintro rfl
    have h := (v ^^^ w).isLt
    simp only [binD, intOp, if_true]
    have e2 := congrArg (fun v : BitVec 32 => (v.toNat : Int)) (show BitVec.ofInt 32 (v.toNat : Int) ^^^ BitVec.ofInt 32 (w.toNat : Int) = v ^^^ w by rw [hv, hw])
    exact congrArg (fun z => some (D.i .u32 z)) ((congrArg (IntKind.wrap .u32) e2).trans (wrapu32 (by omega) (by omega)))

theorem bor_bits {x y b : Nat} (hx : x < B) (hy : y < B) (hb : b ≤ 1) :
    (((~~~ (BitVec.ofNat 32 x)) &&& BitVec.ofNat 32 y) ||| ((~~~ (BitVec.ofNat 32 x ^^^ BitVec.ofNat 32 y)) &&& BitVec.ofNat 32 (difL x y b))).msb = decide (x < y + b) := by
  have hB : B = 4294967296 := rfl
  have m : ∀ z, z < B → (BitVec.ofNat 32 z).msb = decide (2147483648 ≤ z) := by
    intro z hz
    rw [BitVec.msb_eq_decide, BitVec.toNat_ofNat, Nat.mod_eq_of_lt (show z < 2 ^ 32 from hz)]
  rw [BitVec.msb_or, BitVec.msb_and, BitVec.msb_and, BitVec.msb_not, BitVec.msb_not, BitVec.msb_xor, m x hx, m y hy, m _ (difL_lt x y b)]
  simp only [show (0 < 32) = True by simp, decide_true, Bool.true_and]
  have hd := difL_eq hx hy hb
  have hd2 := difL_lt x y b
  generalize difL x y b = d at *
  by_cases c : x < y + b
  · have : borL x y b = 1 := if_pos c
    rw [this] at hd
    by_cases c1 : 2147483648 ≤ x <;> by_cases c2 : 2147483648 ≤ y <;> by_cases c3 : 2147483648 ≤ d <;> simp [c, c1, c2, c3] <;> omega
  · have : borL x y b = 0 := if_neg c
    rw [this] at hd
    by_cases c1 : 2147483648 ≤ x <;> by_cases c2 : 2147483648 ≤ y <;> by_cases c3 : 2147483648 ≤ d <;> simp [c, c1, c2, c3] <;> omega

theorem v243 {x y b : Nat} (hx : x < B) (hy : y < B) (hb : b ≤ 1) : isoCall (call dp) 243 [.i .u32 x, .i .u32 y, .i .u32 b] = some (.tup [.i .u32 (difL x y b : Nat), .i .u32 (borL x y b : Nat)]) := by
  have hB : B = 4294967296 := rfl
  apply i243 _ _ _ _ (by simp [noRefL]) (by simp [noRef, noRefL])
  have ex : D.i .u32 (x : Int) = .i .u32 ((BitVec.ofNat 32 x).toNat : Int) := by rw [BitVec.toNat_ofNat, Nat.mod_eq_of_lt (show x < 2 ^ 32 from hx)]
  have ey : D.i .u32 (y : Int) = .i .u32 ((BitVec.ofNat 32 y).toNat : Int) := by rw [BitVec.toNat_ofNat, Nat.mod_eq_of_lt (show y < 2 ^ 32 from hy)]
  have ed : D.i .u32 (difL x y b : Int) = .i .u32 ((BitVec.ofNat 32 (difL x y b)).toNat : Int) := by rw [BitVec.toNat_ofNat, Nat.mod_eq_of_lt (show difL x y b < 2 ^ 32 from difL_lt x y b)]
  have h1 : binD .sub .num (.i .u32 x) (.i .u32 y) = some (.i .u32 (IntKind.wrap .u32 ((x : Int) - y))) := bin_sub _ _ _
  have h2 : binD .sub .num (.i .u32 (IntKind.wrap .u32 ((x : Int) - y))) (.i .u32 b) = some (.i .u32 (difL x y b : Nat)) := by rw [bin_sub, wrapu32s hx hy hb]
  have h3 := un_xor x hx
  have h4 := (bv_bin (op := .and) (~~~ (BitVec.ofNat 32 x)) (BitVec.ofNat 32 y)).1 rfl
  rw [← ey] at h4
  have h5 := (bv_bin (op := .xor) (BitVec.ofNat 32 x) (BitVec.ofNat 32 y)).2.2 rfl
  rw [← ex, ← ey] at h5
  have h6 := un_xor (BitVec.ofNat 32 x ^^^ BitVec.ofNat 32 y).toNat (BitVec.isLt _)
  rw [BitVec.ofNat_toNat, BitVec.setWidth_eq] at h6
  have h7 := (bv_bin (op := .and) (~~~ (BitVec.ofNat 32 x ^^^ BitVec.ofNat 32 y)) (BitVec.ofNat 32 (difL x y b))).1 rfl
  rw [← ed] at h7
  have h8 := (bv_bin (op := .or) (~~~ (BitVec.ofNat 32 x) &&& BitVec.ofNat 32 y) (~~~ (BitVec.ofNat 32 x ^^^ BitVec.ofNat 32 y) &&& BitVec.ofNat 32 (difL x y b))).2.1 rfl
  have h9 := shr_any (k := .u32) (k' := .u64) (v := (~~~ (BitVec.ofNat 32 x) &&& BitVec.ofNat 32 y ||| ~~~ (BitVec.ofNat 32 x ^^^ BitVec.ofNat 32 y) &&& BitVec.ofNat 32 (difL x y b)).toNat) (s := 31) (by decide)
  have ht := bv_top (~~~ (BitVec.ofNat 32 x) &&& BitVec.ofNat 32 y ||| ~~~ (BitVec.ofNat 32 x ^^^ BitVec.ofNat 32 y) &&& BitVec.ofNat 32 (difL x y b))
  rw [bor_bits hx hy hb] at ht
  have e9 : ((~~~ (BitVec.ofNat 32 x) &&& BitVec.ofNat 32 y ||| ~~~ (BitVec.ofNat 32 x ^^^ BitVec.ofNat 32 y) &&& BitVec.ofNat 32 (difL x y b)).toNat / 2 ^ 31 : Nat) = borL x y b := by
    have e : (((~~~ (BitVec.ofNat 32 x) &&& BitVec.ofNat 32 y ||| ~~~ (BitVec.ofNat 32 x ^^^ BitVec.ofNat 32 y) &&& BitVec.ofNat 32 (difL x y b)).toNat : Int)).fdiv (2 ^ 31) = (((~~~ (BitVec.ofNat 32 x) &&& BitVec.ofNat 32 y ||| ~~~ (BitVec.ofNat 32 x ^^^ BitVec.ofNat 32 y) &&& BitVec.ofNat 32 (difL x y b)).toNat / 2 ^ 31 : Nat) : Int) := by
      rw [show ((2 : Int) ^ 31) = ((2 ^ 31 : Nat) : Int) by rfl, ← Int.ofNat_fdiv]
    rw [e] at ht
    unfold borL
    by_cases c : x < y + b
    · rw [if_pos (by simpa using c)] at ht; rw [if_pos c]; omega
    · rw [if_neg (by simpa using c)] at ht; rw [if_neg c]; omega
  rw [e9] at h9
  simp only [s243, strip_i, h1, h2, h3, h4, h5, h6, h7, h8, OX_some]
  rw [show (31 : Int) = ((31 : Nat) : Int) from rfl, h9]
  simp

def lenB (x : Nat) : Nat := if x = 0 then 0 else Nat.log2 x + 1

theorem len8 : ∀ x, x < 256 → ([0, 1, 2, 2, 3, 3, 3, 3, 4, 4, 4, 4, 4, 4, 4, 4, 5, 5, 5, 5, 5, 5, 5, 5, 5, 5, 5, 5, 5, 5, 5, 5, 6, 6, 6, 6, 6, 6, 6, 6, 6, 6, 6, 6, 6, 6, 6, 6, 6, 6, 6, 6, 6, 6, 6, 6, 6, 6, 6, 6, 6, 6, 6, 6, 7, 7, 7, 7, 7, 7, 7, 7, 7, 7, 7, 7, 7, 7, 7, 7, 7, 7, 7, 7, 7, 7, 7, 7, 7, 7, 7, 7, 7, 7, 7, 7, 7, 7, 7, 7, 7, 7, 7, 7, 7, 7, 7, 7, 7, 7, 7, 7, 7, 7, 7, 7, 7, 7, 7, 7, 7, 7, 7, 7, 7, 7, 7, 7, 8, 8, 8, 8, 8, 8, 8, 8, 8, 8, 8, 8, 8, 8, 8, 8, 8, 8, 8, 8, 8, 8, 8, 8, 8, 8, 8, 8, 8, 8, 8, 8, 8, 8, 8, 8, 8, 8, 8, 8, 8, 8, 8, 8, 8, 8, 8, 8, 8, 8, 8, 8, 8, 8, 8, 8, 8, 8, 8, 8, 8, 8, 8, 8, 8, 8, 8, 8, 8, 8, 8, 8, 8, 8, 8, 8, 8, 8, 8, 8, 8, 8, 8, 8, 8, 8, 8, 8, 8, 8, 8, 8, 8, 8, 8, 8, 8, 8, 8, 8, 8, 8, 8, 8, 8, 8, 8, 8, 8, 8, 8, 8, 8, 8, 8, 8, 8, 8, 8, 8, 8, 8, 8, 8, 8, 8, 8, 8] : List UInt8)[x]? = some (UInt8.ofNat (lenB x)) := by decide +kernel

theorem log2_shift {x s : Nat} (h : 2 ^ s ≤ x) : Nat.log2 x = Nat.log2 (x / 2 ^ s) + s := by
  induction s generalizing x with
  | zero => simp
  | succ s ih =>
    have h2 : 2 ≤ x := by
      have : 2 ^ (s + 1) = 2 ^ s * 2 := Nat.pow_succ ..
      have := Nat.two_pow_pos s
      omega
    rw [Nat.log2_def, if_pos h2, ih (x := x / 2) (by rw [Nat.le_div_iff_mul_le (by decide), ← Nat.pow_succ]; exact h), Nat.div_div_eq_div_mul, Nat.pow_succ', Nat.mul_comm 2]
    omega

theorem lenB_shift {x s : Nat} (h : 2 ^ s ≤ x) : lenB x = lenB (x / 2 ^ s) + s := by
  have hp := Nat.two_pow_pos s
  have h1 : x ≠ 0 := by omega
  have h2 : x / 2 ^ s ≠ 0 := by
    have := (Nat.le_div_iff_mul_le hp).2 (show 1 * 2 ^ s ≤ x by omega)
    omega
  unfold lenB
  rw [if_neg h1, if_neg h2, log2_shift h]
  omega

theorem lenB_lt {x s : Nat} (h : x < 2 ^ s) : lenB x ≤ s := by
  unfold lenB
  split
  · omega
  · rename_i h0
    exact (Nat.log2_lt h0).2 h

end Go.Proofs.YtjniafcnjbbomaaGreatDoor.DE.V

namespace Go.Proofs.YtjniafcnjbbomaaGreatDoor.DE.V
open Go NL

theorem ixs_len8 {x : Nat} (h : x < 256) {l : List UInt8} (hl : l[x]? = some (UInt8.ofNat (lenB x))) : ixsD (.s l) (.i .u8 x) = some (.i .u8 (lenB x : Nat)) := by
  have h2 : lenB x ≤ 8 := lenB_lt (s := 8) h
  simp only [ixsD]
  rw [if_pos (by omega), Int.toNat_natCast, hl]
  simp
  omega

theorem conv8 {k : IntKind} {n : Nat} (h : n < 256) : convD .u8 (.i k n) = some (.i .u8 n) := by
  rw [conv_i]
  have e : IntKind.wrap .u8 (n : Int) = n := by
    simp [IntKind.wrap, IntKind.signed, IntKind.bits]; omega
  rw [e]
theorem convI {k : IntKind} {n : Nat} (h : n < 9223372036854775808) : convD .i64 (.i k n) = some (.i .i64 n) := by rw [conv_i, wrapN h]

theorem fin268 {l : List UInt8} (hl : ∀ x, x < 256 → l[x]? = some (UInt8.ofNat (lenB x))) {x y n : Nat} (hy : y < 256) (he : n + lenB y = lenB x) (hn : n ≤ 24) {Q : D → Prop} (hQ : Q (.i .i64 (lenB x : Nat))) :
    OX (convD .u8 (.i .u32 y)) fun x13 => OX (ixsD (.s l) x13) fun x14 => OX (convD .i64 x14) fun x15 => OX (binD .add .num (.i .i64 n) x15) fun x16 => Q x16 := by
  have h8 : lenB y ≤ 8 := lenB_lt (s := 8) hy
  rw [conv8 hy, OX_some, ixs_len8 hy (hl y hy), OX_some, convI (by omega), OX_some, bin_add, ← Int.natCast_add, he, wrapN (by omega), OX_some]
  exact hQ

theorem geq32 (x n : Nat) : binD .geq .num (.i .u32 x) (.i .u32 n) = some (.b (decide (n ≤ x))) := by rw [bin_geq]; congr 2; simp
set_option maxRecDepth 20000 in
theorem v268 {x : Nat} (hx : x < B) : isoCall (call dp) 268 [.i .u32 x] = some (.i .i64 (lenB x : Nat)) := by
  apply i268 _ _ (by simp [noRefL]) (by simp)
  have g1 := geq32 x 65536
  simp only [Int.cast_ofNat_Int] at g1
  unfold s268
  simp only [strip_i, g1, OX_some, jn, WB_b]
  by_cases c1 : 65536 ≤ x
  · have e1 : x / 65536 < 65536 := by simp only [B] at hx; omega
    have hs := shr_any (k := .u32) (k' := .u64) (v := x) (s := 16) (by decide)
    simp only [Int.cast_ofNat_Int] at hs
    have l1 := lenB_shift (x := x) (s := 16) c1
    rw [show (2 : Nat) ^ 16 = 65536 from rfl] at hs l1
    have g2 := geq32 (x / 65536) 256
    simp only [Int.cast_ofNat_Int] at g2
    simp only [c1, decide_true, if_true, hs, OX_some, g2, WB_b]
    by_cases c2 : 256 ≤ x / 65536
    · have hs2 := shr_any (k := .u32) (k' := .u64) (v := x / 65536) (s := 8) (by decide)
      simp only [Int.cast_ofNat_Int] at hs2
      have l2 := lenB_shift (x := x / 65536) (s := 8) c2
      rw [show (2 : Nat) ^ 8 = 256 from rfl] at hs2 l2
      simp only [c2, decide_true, if_true, hs2, OX_some, bin_add]
      exact fin268 len8 (n := 24) (by omega) (by omega) (by omega) rfl
    · simp only [c2, decide_false, Bool.false_eq_true, if_false]
      exact fin268 len8 (n := 16) (by omega) (by omega) (by omega) rfl
  · have g2 := geq32 x 256
    simp only [Int.cast_ofNat_Int] at g2
    simp only [c1, decide_false, Bool.false_eq_true, if_false, OX_some, g2, WB_b]
    by_cases c2 : 256 ≤ x
    · have hs2 := shr_any (k := .u32) (k' := .u64) (v := x) (s := 8) (by decide)
      simp only [Int.cast_ofNat_Int] at hs2
      have l2 := lenB_shift (x := x) (s := 8) c2
      rw [show (2 : Nat) ^ 8 = 256 from rfl] at hs2 l2
      simp only [c2, decide_true, if_true, hs2, OX_some, bin_add]
      exact fin268 len8 (n := 8) (by omega) (by omega) (by omega) rfl
    · simp only [c2, decide_false, Bool.false_eq_true, if_false]
      exact fin268 len8 (n := 0) (by omega) (by omega) (by omega) rfl

theorem v212 {x : Nat} (hx : x < B) (h0 : x ≠ 0) : isoCall (call dp) 212 [.i .u32 x] = some (.i .i64 ((31 - Nat.log2 x : Nat) : Int)) := by
  apply i212 _ _ (by simp [noRefL]) (by simp)
  have hl : Nat.log2 x < 32 := (Nat.log2_lt h0).2 hx
  have e : lenB x = Nat.log2 x + 1 := if_neg h0
  simp only [s212, strip_i, v268 hx, OX_some, bin_sub, e, stripT_i]
  rw [wrap64 ⟨by omega, by omega⟩]
  congr 1; omega

end Go.Proofs.YtjniafcnjbbomaaGreatDoor.DE.V

namespace Go.Proofs.YtjniafcnjbbomaaGreatDoor.DE.V
open Go NL

/-- A valid number. -/
def VN (l : List Nat) : Prop := l.length ≤ 128 ∧ l.getLast? ≠ some 0
theorem VN.can {l : List Nat} (h : VN l) (k : Lim l) : NL.Can l := ⟨k, h.2⟩
theorem vn_ofN {n : Nat} : VN (ofN n) ↔ Lt128 n := ⟨fun h => (lt128_iff n).2 h.1, fun h => ⟨(lt128_iff n).1 h, last_ofN n⟩⟩

theorem last_dg {l : List Nat} (h : l ≠ []) : l.getLast? = some (dg l (l.length - 1)) := by
  rw [List.getLast?_eq_getElem?]
  have : l.length ≠ 0 := by simpa using h
  exact get_dg (by omega)

open Classical in
theorem v105 (nl : Bool) (l : List Nat) (hb : Bd l.length) : isoCall (call dp) 105 [eLims nl l .ro] = some (.b (decide (VN l))) := by
  apply i105 _ _ (by simp [noRefL]) rfl
  simp only [s105, strip_lims, len_lims, OX_some, bin_leq]
  by_cases h1 : l.length ≤ 128
  · have h1' : (l.length : Int) ≤ 128 := by omega
    by_cases h2 : l = []
    · subst h2
      have : VN [] := ⟨by simp, by simp⟩
      simp [this]
    · have hl : l.length ≠ 0 := by simpa using h2
      have hw : IntKind.i64.wrap ((l.length : Int) - 1) = ((l.length - 1 : Nat) : Int) := by rw [wrap64 ⟨by omega, by omega⟩]; omega
      have hia := ia_lims (nl := nl) (o := .ro) (k := .i64) (l := l) (i := l.length - 1) (by omega)
      have hv : VN l ↔ dg l (l.length - 1) ≠ 0 := by
        unfold VN
        rw [last_dg h2]
        simp [h1]
      simp [h1', h2, hw, hia, hv]
  · have h1' : ¬ (l.length : Int) ≤ 128 := by omega
    have : ¬ VN l := fun h => h1 h.1
    simp [h1', this]

theorem v143 (nl : Bool) (l : List Nat) (hv : VN l) : isoCall (call dp) 143 [eLims nl l .ro] = some (eLims nl l .ro) := by
  apply i143 _ _ (by simp [noRefL]) (by simp)
  simp [s143, v105 nl l (by have := hv.1; unfold Bd; omega), hv]

theorem take_can {l : List Nat} (h : Lim l) {n : Nat} (hn : n ≤ l.length) (hz : ∀ j, n ≤ j → dg l j = 0) (ht : n = 0 ∨ dg l (n - 1) ≠ 0) : l.take n = ofN (val l) := by
  have hv : val (l.take n) = val l := by
    have key : ∀ k, val (l.take (n + k)) = val (l.take n) := by
      intro k
      induction k with
      | zero => rfl
      | succ k ih => rw [← Nat.add_assoc, vt_succ, hz _ (by omega), ih]; simp
    have := key l.length
    rw [vt_full (by omega)] at this
    exact this.symm
  rw [← hv]
  refine (ofN_val ⟨lim_take n h, ?_⟩).symm
  rcases ht with rfl | ht
  · simp
  · have h0 : n ≠ 0 := by
      rintro rfl
      exact ht (hz _ (by omega))
    have hne : l.take n ≠ [] := by
      intro e
      have : (l.take n).length = 0 := by rw [e]; rfl
      rw [List.length_take] at this
      omega
    rw [last_dg hne, List.length_take, Nat.min_eq_left hn]
    have : dg (l.take n) (n - 1) = dg l (n - 1) := by
      unfold dg
      rw [List.getElem?_take_of_lt (by omega)]
    rw [this]
    simpa using ht

theorem v146 (nl : Bool) (l : List Nat) (h : Lim l) (hb : Bd l.length) : isoCall (call dp) 146 [eLims nl l .ro] = some (eLims nl (ofN (val l)) .ro) := by
  apply i146 _ _ (by simp [noRefL]) (by simp)
  simp only [s146, strip_lims, len_lims, OX_some]
  let J : Nat → List D → Store → Prop := fun q fr S => ∃ n a2 a15, q = n ∧ n ≤ l.length ∧ (∀ j, n ≤ j → dg l j = 0) ∧ fr = mkf 21 [(0, eLims nl l .ro), (2, a2), (3, .i .i64 n), (15, a15)]
  refine W_loop J ?_ l.length _ _ ⟨l.length, _, _, rfl, Nat.le_refl _, fun j hj => dg_ge hj, rfl⟩
  rintro q fr S ⟨n, a2, a15, rfl, hle, hz, rfl⟩
  rw [← wp_W, e146_0]
  have fin : (q = 0 ∨ dg l (q - 1) ≠ 0) → slcD 1 (eLims nl l .ro) none (some (.i .i64 q)) = some (eLims nl (ofN (val l)) .ro) := fun ht => by
    rw [slc_lims hle, take_can h hle hz ht]
  by_cases hpos : 0 < q
  · obtain ⟨m, rfl⟩ : ∃ m, q = m + 1 := ⟨q - 1, by omega⟩
    have w : IntKind.i64.wrap (m : Int) = m := wrapN (by unfold Bd at hb; omega)
    have hp' : (0 : Int) < (m : Int) + 1 := by omega
    have hia := ia_lims (nl := nl) (o := .ro) (k := .i64) (l := l) (i := m) (by omega)
    by_cases hd : dg l m = 0
    · simp [s146_0, hp', w, hia, hd]
      refine ⟨m, by omega, m, _, _, rfl, by omega, fun j hj => ?_, rfl⟩
      by_cases e : j = m
      · rw [e]; exact hd
      · exact hz j (by omega)
    · have hf := fin (.inr (by simpa using hd))
      simp only [Int.natCast_add, Int.cast_ofNat_Int] at hf
      simp [s146_0, hp', w, hia, hd, e146_r0, s146_r0, hf]
  · have h0 : q = 0 := by omega
    have hf := fin (.inl h0)
    subst h0
    simp only [Int.cast_ofNat_Int] at hf
    simp [s146_0, e146_r0, s146_r0, hf]

theorem v134 (nl : Bool) (l : List Nat) (h : Lim l) (hb : Bd l.length) :
    isoCall (call dp) 134 [eLims nl l .ro] = some (if Lt128 (val l) then .tup [eLims nl (ofN (val l)) .ro, .i .i64 0] else .tup [.sl 1 true [] .ro, .i .i64 6]) := by
  apply i134 _ _ (by simp [noRefL]) (by split <;> simp [noRef, noRefL, noRefLL])
  simp only [s134, strip_lims, v146 nl l h hb, OX_some, len_lims, bin_gtr]
  by_cases hc : Lt128 (val l)
  · have : ¬ (128 : Int) < (ofN (val l)).length := by have := (lt128_iff _).1 hc; omega
    simp [hc, this]
  · have : (128 : Int) < (ofN (val l)).length := by have := Nat.lt_of_not_le fun k => hc ((lt128_iff _).2 k); omega
    simp [hc, this, strip]

theorem two_limbs {n : Nat} (h : n < 18446744073709551616) : Lim [n % B, n / B] ∧ val [n % B, n / B] = n := by
  refine ⟨?_, ?_⟩
  · intro x hx
    simp only [B] at *
    simp at hx
    omega
  · simp only [val, Nat.mul_zero, Nat.add_zero]
    exact Nat.mod_add_div n B

theorem v83 {n : Nat} (h : n < 18446744073709551616) : isoCall (call dp) 83 [.i .u64 n] = some (eLims false (ofN n) .ro) := by
  apply i83 _ _ (by simp [noRefL]) (by simp)
  obtain ⟨h1, h2⟩ := two_limbs h
  have hd : n / B < B := h1 _ (by simp)
  have e := v146 false [n % B, n / B] h1 (by unfold Bd; simp)
  rw [h2] at e
  have hc : ∀ a b : D, isCell a = true → isCell b = true → cellsV 1 false [a, b] = some [[a], [b]] := fun a b ha hb => by simp [cellsV, cellsK, ha, hb]
  simp only [s83, strip_i, conv32m, OX_some, shr32, conv32 hd, hc _ _ (isCell_i _ _) (isCell_i _ _)]
  have e' : isoCall (call dp) 146 [.sl 1 false [[.i .u32 ((n % B : Nat) : Int)], [.i .u32 ((n / B : Nat) : Int)]] .ro] = some (eLims false (ofN n) .ro) := e
  rw [e']
  simp

theorem v141 (nl : Bool) (l : List Nat) (S : Store) : call dp 141 [eLims nl l .ro] S = some (.fn 221 [.bx S.length 0], .box [eLims nl l .ro] :: S) := by
  obtain ⟨r, S', e, rfl, rfl⟩ := f141 (eLims nl l .ro) S (fun d S' => d = .fn 221 [.bx S.length 0] ∧ S' = .box [eLims nl l .ro] :: S) (by simp [s141])
  exact e

theorem v221 (nl : Bool) (l : List Nat) (k id : Nat) (S : Store) (h : sget S id = some (.box [eLims nl l .ro])) : call dp 221 [.i .i64 k, .bx id 0] S = some (.i .u32 (dg l k : Nat), S) := by
  obtain ⟨r, S', e, rfl, rfl⟩ := f221 (.i .i64 k) (.bx id 0) S (fun d S' => d = .i .u32 (dg l k : Nat) ∧ S' = S) (by
    by_cases hk : l.length ≤ k
    · have hk' : (l.length : Int) ≤ k := by omega
      simp [s221, h, hk', dg_ge hk]
    · have hk' : ¬ (l.length : Int) ≤ k := by omega
      have hia := ia_lims (nl := nl) (o := .ro) (k := .i64) (l := l) (i := k) (by omega)
      simp [s221, h, hk', hia])
  exact e

theorem v222 (n : Int) : isoCall (call dp) 222 [.i .i64 n] = some (.b false) := by
  apply i222 _ _ (by simp [noRefL]) rfl
  simp [s222]
theorem v223 (n : Int) : isoCall (call dp) 223 [.i .u32 n] = some (.b false) := by
  apply i223 _ _ (by simp [noRefL]) rfl
  simp [s223]
theorem v144 (a b : Nat) : isoCall (call dp) 144 [.i .i64 a, .i .i64 b] = some (.i .i64 (sgn a b)) := by
  apply i144 _ _ _ (by simp [noRefL]) rfl
  simp only [s144, strip_i, v222, OX_some, WB_b, Bool.false_eq_true, if_false, bin_lss, bin_gtr, decide_eq_true_eq]
  unfold sgn
  rcases Nat.lt_trichotomy a b with h | h | h
  · rw [if_pos (by omega), if_pos h]; rfl
  · rw [if_neg (by omega), if_neg (by omega), if_neg (by omega), if_pos h]; rfl
  · rw [if_neg (by omega), if_pos (by omega), if_neg (by omega), if_neg (by omega)]; rfl
theorem v145 (a b : Nat) : isoCall (call dp) 145 [.i .u32 a, .i .u32 b] = some (.i .i64 (sgn a b)) := by
  apply i145 _ _ _ (by simp [noRefL]) rfl
  simp only [s145, strip_i, v223, OX_some, WB_b, Bool.false_eq_true, if_false, bin_lss, bin_gtr, decide_eq_true_eq]
  unfold sgn
  rcases Nat.lt_trichotomy a b with h | h | h
  · rw [if_pos (by omega), if_pos h]; rfl
  · rw [if_neg (by omega), if_neg (by omega), if_neg (by omega), if_pos h]; rfl
  · rw [if_neg (by omega), if_pos (by omega), if_neg (by omega), if_neg (by omega)]; rfl

theorem sgn_of {x y a b : Nat} (h1 : a < b → x < y) (h2 : b < a → y < x) (h3 : a ≠ b) : sgn a b = sgn x y := by
  unfold sgn
  rcases Nat.lt_or_ge a b with h | h
  · rw [if_pos h, if_pos (h1 h)]
  · have h' : b < a := by omega
    have := h2 h'
    rw [if_neg (by omega), if_neg (by omega), if_neg (by omega), if_neg (by omega)]

theorem drop_eq {a b : List Nat} {k : Nat} (ha : k < a.length) (hb : k < b.length) (h : a.drop (k + 1) = b.drop (k + 1)) (e : dg a k = dg b k) : a.drop k = b.drop k := by
  rw [drop_dg ha, drop_dg hb, e, h]

theorem v82 (nl nl' : Bool) (a b : List Nat) (ha : VN a) (hb : VN b) (la : Lim a) (lb : Lim b) : isoCall (call dp) 82 [eLims nl a .ro, eLims nl' b .ro] = some (.i .i64 (sgn (val a) (val b))) := by
  apply i82 _ _ _ (by simp [noRefL]) rfl
  have h1 := ha.1
  have h2 := hb.1
  simp only [s82, strip_lims, v143 nl a ha, v143 nl' b hb, OX_some, len_lims, bin_neq, WB_b]
  by_cases hl : a.length = b.length
  · have hl' : (a.length : Int) = (b.length : Int) := by omega
    simp only [hl', decide_true, Bool.not_true, Bool.false_eq_true, if_false, bin_sub, OX_some]
    rw [wrap64 ⟨by omega, by omega⟩]
    let J : Nat → List D → Store → Prop := fun q fr S => ∃ a4 a24, q ≤ b.length ∧ a.drop q = b.drop q ∧ fr = mkf 45 [(0, eLims nl a .ro), (1, eLims nl' b .ro), (4, a4), (5, .i .i64 ((q : Int) - 1)), (24, a24)]
    refine W_loop J ?_ b.length _ _ ⟨_, _, Nat.le_refl _, by rw [List.drop_of_length_le (by omega), List.drop_of_length_le (by omega)], rfl⟩
    rintro q fr S ⟨a4, a24, hq, he, rfl⟩
    rw [← wp_W, e82_0]
    by_cases h0 : q = 0
    · subst h0
      have : a = b := by simpa using he
      subst this
      simp [s82_0, e82_r0, s82_r0, sgn]
    · obtain ⟨k, rfl⟩ : ∃ k, q = k + 1 := ⟨q - 1, by omega⟩
      have e1 : ((k + 1 : Nat) : Int) - 1 = k := by omega
      have i1 := ia_lims (nl := nl) (o := .ro) (k := .i64) (l := a) (i := k) (by omega)
      have i2 := ia_lims (nl := nl') (o := .ro) (k := .i64) (l := b) (i := k) (by omega)
      rw [e1]
      by_cases hd : dg a k = dg b k
      · have w : IntKind.i64.wrap ((k : Int) - 1) = (k : Int) - 1 := wrap64 ⟨by omega, by omega⟩
        have e2 : ((dg a k : Nat) : Int) = ((dg b k : Nat) : Int) := by omega
        simp [s82_0, i1, i2, hd, w]
        exact ⟨k, by omega, _, _, by omega, drop_eq (by omega) (by omega) he hd, rfl⟩
      · have e2 : ¬ ((dg a k : Nat) : Int) = ((dg b k : Nat) : Int) := by omega
        have hs := sgn_of (x := val a) (y := val b) (a := dg a k) (b := dg b k) (fun h => lt_at la he (get_dg (by omega)) (get_dg (by omega)) h) (fun h => lt_at lb he.symm (get_dg (by omega)) (get_dg (by omega)) h) hd
        simp [s82_0, i1, i2, e2, v145, hs, hd]
  · have hl' : ¬ (a.length : Int) = (b.length : Int) := by omega
    have hs := sgn_of (x := val a) (y := val b) (a := a.length) (b := b.length) (fun h => lt_len la (hb.can lb) h) (fun h => lt_len lb (ha.can la) h) hl
    simp only [hl', decide_false, Bool.not_false, if_true, v144, OX_some, hs]
    rfl

end Go.Proofs.YtjniafcnjbbomaaGreatDoor.DE.V

namespace Go.Proofs.YtjniafcnjbbomaaGreatDoor.DE
open Go

/-! lineage/bignat.Add -/
/-! lineage/bignat.Sub -/
def s161_r0 (cf : CallF) (a4 : D) (a5 : D) (a6 : D) (a7 : D) (a8 : D) (a9 : D) (a33 : D) (a34 : D) (a35 : D) (S : Store) (Q : Ex → List D → Store → Prop) : Prop :=
  OX (fzD a8 S) fun p1 =>
  OX (isoCall cf 146 [p1.1]) fun x2 =>
  Q .ret (mkf 54 [(4, x2), (5, (.b true)), (6, .top), (7, .top), (8, .top), (9, .top), (33, .top), (34, .top), (35, .top)]) p1.2
theorem e161_r0 (cf : CallF) (a4 : D) (a5 : D) (a6 : D) (a7 : D) (a8 : D) (a9 : D) (a33 : D) (a34 : D) (a35 : D) (S : Store) (Q : Ex → List D → Store → Prop) : wp cf c161_r0 (mkf 54 [(4, a4), (5, a5), (6, a6), (7, a7), (8, a8), (9, a9), (33, a33), (34, a34), (35, a35)]) S Q = s161_r0 cf a4 a5 a6 a7 a8 a9 a33 a34 a35 S Q := wpS_of (by kernel_rfl)
def s161_0 (cf : CallF) (a4 : D) (a5 : D) (a6 : D) (a7 : D) (a8 : D) (a9 : D) (a33 : D) (a34 : D) (a35 : D) (S : Store) (Q : Ex → List D → Store → Prop) : Prop :=
  OX (binD .lss .num a34 a33) fun x3 =>
  WB x3
  (OX (fnD a6) fun q5 => OX (cf q5.1 ([a34] ++ q5.2) S) fun p6 =>
  OX (fnD a7) fun q8 => OX (cf q8.1 ([a34] ++ q8.2) p6.2) fun p9 =>
  OX (isoCall cf 243 [p6.1, p9.1, a9]) fun x10 =>
  OX (extD x10 0) fun x11 =>
  OX (extD x10 1) fun x12 =>
  OX (iaD 1 a8 a34) fun x13 =>
  OX (stD p9.2 1 false x13 x11) fun S15 =>
  OX (binD .add .num a34 (.i .i64 1)) fun x16 =>
  Q .normal (mkf 54 [(4, a4), (5, a5), (6, a6), (7, a7), (8, a8), (9, x12), (33, a33), (34, x16), (35, .top)]) S15)
  (Q (.exit 0) (mkf 54 [(4, a4), (5, a5), (6, a6), (7, a7), (8, a8), (9, a9), (33, a33), (34, a34), (35, x3)]) S)
theorem e161_0 (cf : CallF) (a4 : D) (a5 : D) (a6 : D) (a7 : D) (a8 : D) (a9 : D) (a33 : D) (a34 : D) (a35 : D) (S : Store) (Q : Ex → List D → Store → Prop) : wp cf c161_0 (fkill (mkf 54 [(4, a4), (5, a5), (6, a6), (7, a7), (8, a8), (9, a9), (33, a33), (34, a34), (35, a35)]) []) S Q = s161_0 cf a4 a5 a6 a7 a8 a9 a33 a34 a35 S Q := wpS_of (by kernel_rfl)
def s161 (cf : CallF) (a0 : D) (a1 : D) (S : Store) (Post : D → Store → Prop) : Prop :=
  OX (isoCall cf 105 [a0]) fun x17 =>
  OX (unD .not x17) fun x18 =>
  OX (gsel x18 false (some a1)) fun x19 =>
  OX (gsel x18 false (isoCall cf 105 [x19])) fun x20 =>
  OX (gsel x18 false (unD .not x20)) fun x21 =>
  OX (pickD x18 (.b true) x21) fun x22 =>
  OX (gsel x22 false (some a0)) fun x23 =>
  OX (gsel x22 false (some a1)) fun x24 =>
  OX (gsel x22 false (isoCall cf 82 [x23, x24])) fun x25 =>
  OX (gsel x22 false (binD .lss .num x25 (.i .i64 0))) fun x26 =>
  OX (pickD x22 (.b true) x26) fun x27 =>
  WB x27
  (Post (.tup [(.sl 1 true [] .ro), (.b false)]) S)
  (OX (cf 141 [a0] S) fun p29 =>
  OX (cf 141 [a1] p29.2) fun p31 =>
  OX (lenD false a0) fun x32 =>
  OX (mkslV 1 true [.i .u32 0] p31.2 x32) fun p34 =>
  OX (lenD false p34.1) fun x35 =>
  W cf (.loop [] c161_0) (mkf 54 [(4, .top), (5, .top), (6, p29.1), (7, p31.1), (8, p34.1), (9, (.i .u32 0)), (33, x35), (34, (.i .i64 0)), (35, .top)]) p34.2 (Qblk 0 (QS cf c161_r0 (FinK [.t 4, .t 5] Post))))
theorem e161 (cf : CallF) (a0 : D) (a1 : D) (S : Store) (Post : D → Store → Prop) : wp cf c161 (frame0 d161 [a0, a1]) S (FinK d161.res Post) = s161 cf a0 a1 S Post := wpS_of (by kernel_rfl)
theorem i161 (a0 : D) (a1 : D) (r : D) (ha : noRefL (stripL [a0, a1]) = true) (hr : noRef r = true) (h : s161 (call dp) (strip a0) (strip a1) [] fun d _ => stripT d = r) : isoCall (call dp) 161 [a0, a1] = some r := iso_s (f := d161) rfl ⟨rfl, by decide⟩ ha hr (by rw [← e161] at h; exact h)
/-! lineage/bignat.Mul -/
def s70_r0 (cf : CallF) (a0 : D) (a1 : D) (a4 : D) (a5 : D) (a6 : D) (a7 : D) (a8 : D) (a26 : D) (a27 : D) (a28 : D) (a31 : D) (a32 : D) (a33 : D) (S : Store) (Q : Ex → List D → Store → Prop) : Prop :=
  OX (lenD false a1) fun x1 =>
  OX (binD .add .num a7 x1) fun x2 =>
  OX (convD .u32 a8) fun x3 =>
  OX (iaD 1 a6 x2) fun x4 =>
  OX (stD S 1 false x4 x3) fun S6 =>
  Q .normal (mkf 79 [(0, a0), (1, a1), (4, a4), (5, a5), (6, a6), (7, .top), (8, .top), (26, a26), (27, a27), (28, a28), (31, .top), (32, .top), (33, .top)]) S6
theorem e70_r0 (cf : CallF) (a0 : D) (a1 : D) (a4 : D) (a5 : D) (a6 : D) (a7 : D) (a8 : D) (a26 : D) (a27 : D) (a28 : D) (a31 : D) (a32 : D) (a33 : D) (S : Store) (Q : Ex → List D → Store → Prop) : wp cf c70_r0 (mkf 79 [(0, a0), (1, a1), (4, a4), (5, a5), (6, a6), (7, a7), (8, a8), (26, a26), (27, a27), (28, a28), (31, a31), (32, a32), (33, a33)]) S Q = s70_r0 cf a0 a1 a4 a5 a6 a7 a8 a26 a27 a28 a31 a32 a33 S Q := wpS_of (by kernel_rfl)
def s70_r1 (cf : CallF) (a0 : D) (a1 : D) (a4 : D) (a5 : D) (a6 : D) (a7 : D) (a8 : D) (a26 : D) (a27 : D) (a28 : D) (a31 : D) (a32 : D) (a33 : D) (S : Store) (Q : Ex → List D → Store → Prop) : Prop :=
  OX (binD .add .num a27 (.i .i64 1)) fun x7 =>
  Q .normal (mkf 79 [(0, a0), (1, a1), (4, a4), (5, a5), (6, a6), (7, a7), (8, a8), (26, a26), (27, x7), (28, a28), (31, a31), (32, a32), (33, a33)]) S
theorem e70_r1 (cf : CallF) (a0 : D) (a1 : D) (a4 : D) (a5 : D) (a6 : D) (a7 : D) (a8 : D) (a26 : D) (a27 : D) (a28 : D) (a31 : D) (a32 : D) (a33 : D) (S : Store) (Q : Ex → List D → Store → Prop) : wp cf c70_r1 (mkf 79 [(0, a0), (1, a1), (4, a4), (5, a5), (6, a6), (7, a7), (8, a8), (26, a26), (27, a27), (28, a28), (31, a31), (32, a32), (33, a33)]) S Q = s70_r1 cf a0 a1 a4 a5 a6 a7 a8 a26 a27 a28 a31 a32 a33 S Q := wpS_of (by kernel_rfl)
def s70_0 (cf : CallF) (a0 : D) (a1 : D) (a4 : D) (a5 : D) (a6 : D) (a7 : D) (a8 : D) (a26 : D) (a27 : D) (a28 : D) (a31 : D) (a32 : D) (a33 : D) (S : Store) (Q : Ex → List D → Store → Prop) : Prop :=
  OX (binD .lss .num a32 a31) fun x8 =>
  WB x8
  (OX (iaD 1 a0 a7) fun x9 =>
  OX (ldD S 1 false x9) fun x10 =>
  OX (convD .u64 x10) fun x11 =>
  OX (iaD 1 a1 a32) fun x12 =>
  OX (ldD S 1 false x12) fun x13 =>
  OX (convD .u64 x13) fun x14 =>
  OX (binD .mul .num x11 x14) fun x15 =>
  OX (binD .add .num a7 a32) fun x16 =>
  OX (iaD 1 a6 x16) fun x17 =>
  OX (ldD S 1 false x17) fun x18 =>
  OX (convD .u64 x18) fun x19 =>
  OX (binD .add .num x15 x19) fun x20 =>
  OX (binD .add .num x20 a8) fun x21 =>
  OX (binD .add .num a7 a32) fun x22 =>
  OX (convD .u32 x21) fun x23 =>
  OX (binD .shr .num x21 (.i .u64 32)) fun x24 =>
  OX (iaD 1 a6 x22) fun x25 =>
  OX (stD S 1 false x25 x23) fun S27 =>
  OX (binD .add .num a32 (.i .i64 1)) fun x28 =>
  Q .normal (mkf 79 [(0, a0), (1, a1), (4, a4), (5, a5), (6, a6), (7, a7), (8, x24), (26, a26), (27, a27), (28, a28), (31, a31), (32, x28), (33, .top)]) S27)
  (Q (.exit 2) (mkf 79 [(0, a0), (1, a1), (4, a4), (5, a5), (6, a6), (7, a7), (8, a8), (26, a26), (27, a27), (28, a28), (31, a31), (32, a32), (33, x8)]) S)
theorem e70_0 (cf : CallF) (a0 : D) (a1 : D) (a4 : D) (a5 : D) (a6 : D) (a7 : D) (a8 : D) (a26 : D) (a27 : D) (a28 : D) (a31 : D) (a32 : D) (a33 : D) (S : Store) (Q : Ex → List D → Store → Prop) : wp cf c70_0 (fkill (mkf 79 [(0, a0), (1, a1), (4, a4), (5, a5), (6, a6), (7, a7), (8, a8), (26, a26), (27, a27), (28, a28), (31, a31), (32, a32), (33, a33)]) []) S Q = s70_0 cf a0 a1 a4 a5 a6 a7 a8 a26 a27 a28 a31 a32 a33 S Q := wpS_of (by kernel_rfl)
def s70_r2 (cf : CallF) (a0 : D) (a1 : D) (a4 : D) (a5 : D) (a6 : D) (a7 : D) (a8 : D) (a26 : D) (a27 : D) (a28 : D) (a31 : D) (a32 : D) (a33 : D) (S : Store) (Q : Ex → List D → Store → Prop) : Prop :=
  OX (fzD a6 S) fun p29 =>
  OX (isoCall cf 134 [p29.1]) fun x30 =>
  OX (extD x30 0) fun x31 =>
  OX (extD x30 1) fun x32 =>
  Q .ret (mkf 79 [(0, .top), (1, .top), (4, x31), (5, x32), (6, .top), (7, a7), (8, a8), (26, .top), (27, .top), (28, .top), (31, a31), (32, a32), (33, a33)]) p29.2
theorem e70_r2 (cf : CallF) (a0 : D) (a1 : D) (a4 : D) (a5 : D) (a6 : D) (a7 : D) (a8 : D) (a26 : D) (a27 : D) (a28 : D) (a31 : D) (a32 : D) (a33 : D) (S : Store) (Q : Ex → List D → Store → Prop) : wp cf c70_r2 (mkf 79 [(0, a0), (1, a1), (4, a4), (5, a5), (6, a6), (7, a7), (8, a8), (26, a26), (27, a27), (28, a28), (31, a31), (32, a32), (33, a33)]) S Q = s70_r2 cf a0 a1 a4 a5 a6 a7 a8 a26 a27 a28 a31 a32 a33 S Q := wpS_of (by kernel_rfl)
def s70_1 (cf : CallF) (a0 : D) (a1 : D) (a4 : D) (a5 : D) (a6 : D) (a7 : D) (a8 : D) (a26 : D) (a27 : D) (a28 : D) (a31 : D) (a32 : D) (a33 : D) (S : Store) (Q : Ex → List D → Store → Prop) : Prop :=
  OX (binD .lss .num a27 a26) fun x33 =>
  WB x33
  (OX (lenD false a1) fun x34 =>
  W cf (.loop [] c70_0) (mkf 79 [(0, a0), (1, a1), (4, a4), (5, a5), (6, a6), (7, a27), (8, (.i .u64 0)), (26, a26), (27, a27), (28, .top), (31, x34), (32, (.i .i64 0)), (33, a33)]) S (Qblk 2 (QS cf c70_r0 (Qblk 1 (QS cf c70_r1 Q)))))
  (Q (.exit 0) (mkf 79 [(0, a0), (1, a1), (4, a4), (5, a5), (6, a6), (7, a7), (8, a8), (26, a26), (27, a27), (28, x33), (31, a31), (32, a32), (33, a33)]) S)
theorem e70_1 (cf : CallF) (a0 : D) (a1 : D) (a4 : D) (a5 : D) (a6 : D) (a7 : D) (a8 : D) (a26 : D) (a27 : D) (a28 : D) (a31 : D) (a32 : D) (a33 : D) (S : Store) (Q : Ex → List D → Store → Prop) : wp cf c70_1 (fkill (mkf 79 [(0, a0), (1, a1), (4, a4), (5, a5), (6, a6), (7, a7), (8, a8), (26, a26), (27, a27), (28, a28), (31, a31), (32, a32), (33, a33)]) []) S Q = s70_1 cf a0 a1 a4 a5 a6 a7 a8 a26 a27 a28 a31 a32 a33 S Q := wpS_of (by kernel_rfl)
def s70 (cf : CallF) (a0 : D) (a1 : D) (S : Store) (Post : D → Store → Prop) : Prop :=
  OX (isoCall cf 105 [a0]) fun x35 =>
  OX (unD .not x35) fun x36 =>
  OX (gsel x36 false (some a1)) fun x37 =>
  OX (gsel x36 false (isoCall cf 105 [x37])) fun x38 =>
  OX (gsel x36 false (unD .not x38)) fun x39 =>
  OX (pickD x36 (.b true) x39) fun x40 =>
  WB x40
  (Post (.tup [(.sl 1 true [] .ro), (.i .i64 1)]) S)
  (OX (lenD false a0) fun x41 =>
  OX (lenD false a1) fun x42 =>
  OX (binD .add .num x41 x42) fun x43 =>
  OX (mkslV 1 true [.i .u32 0] S x43) fun p45 =>
  OX (lenD false a0) fun x46 =>
  W cf (.loop [] c70_1) (mkf 79 [(0, a0), (1, a1), (4, .top), (5, .top), (6, p45.1), (7, .top), (8, .top), (26, x46), (27, (.i .i64 0)), (28, .top), (31, .top), (32, .top), (33, .top)]) p45.2 (Qblk 0 (QS cf c70_r2 (FinK [.t 4, .t 5] Post))))
theorem e70 (cf : CallF) (a0 : D) (a1 : D) (S : Store) (Post : D → Store → Prop) : wp cf c70 (frame0 d70 [a0, a1]) S (FinK d70.res Post) = s70 cf a0 a1 S Post := wpS_of (by kernel_rfl)
theorem i70 (a0 : D) (a1 : D) (r : D) (ha : noRefL (stripL [a0, a1]) = true) (hr : noRef r = true) (h : s70 (call dp) (strip a0) (strip a1) [] fun d _ => stripT d = r) : isoCall (call dp) 70 [a0, a1] = some r := iso_s (f := d70) rfl ⟨rfl, by decide⟩ ha hr (by rw [← e70] at h; exact h)
/-! lineage/bignat.byLimb -/
def s154_r0 (cf : CallF) (a0 : D) (a1 : D) (a4 : D) (a5 : D) (a6 : D) (a7 : D) (a8 : D) (a16 : D) (S : Store) (Q : Ex → List D → Store → Prop) : Prop :=
  OX (fzD a6 S) fun p1 =>
  OX (isoCall cf 146 [p1.1]) fun x2 =>
  OX (convD .u32 a7) fun x3 =>
  Q .ret (mkf 43 [(0, .top), (1, .top), (4, x2), (5, x3), (6, .top), (7, .top), (8, .top), (16, .top)]) p1.2
theorem e154_r0 (cf : CallF) (a0 : D) (a1 : D) (a4 : D) (a5 : D) (a6 : D) (a7 : D) (a8 : D) (a16 : D) (S : Store) (Q : Ex → List D → Store → Prop) : wp cf c154_r0 (mkf 43 [(0, a0), (1, a1), (4, a4), (5, a5), (6, a6), (7, a7), (8, a8), (16, a16)]) S Q = s154_r0 cf a0 a1 a4 a5 a6 a7 a8 a16 S Q := wpS_of (by kernel_rfl)
def s154_0 (cf : CallF) (a0 : D) (a1 : D) (a4 : D) (a5 : D) (a6 : D) (a7 : D) (a8 : D) (a16 : D) (S : Store) (Q : Ex → List D → Store → Prop) : Prop :=
  OX (binD .geq .num a8 (.i .i64 0)) fun x4 =>
  WB x4
  (OX (binD .shl .num a7 (.i .u64 32)) fun x5 =>
  OX (iaD 1 a0 a8) fun x6 =>
  OX (ldD S 1 false x6) fun x7 =>
  OX (convD .u64 x7) fun x8 =>
  OX (binD .or .num x5 x8) fun x9 =>
  OX (convD .u64 a1) fun x10 =>
  OX (binD .quo .num x9 x10) fun x11 =>
  OX (convD .u32 x11) fun x12 =>
  OX (convD .u64 a1) fun x13 =>
  OX (binD .rem .num x9 x13) fun x14 =>
  OX (iaD 1 a6 a8) fun x15 =>
  OX (stD S 1 false x15 x12) fun S17 =>
  OX (binD .sub .num a8 (.i .i64 1)) fun x18 =>
  Q .normal (mkf 43 [(0, a0), (1, a1), (4, a4), (5, a5), (6, a6), (7, x14), (8, x18), (16, .top)]) S17)
  (Q (.exit 0) (mkf 43 [(0, a0), (1, a1), (4, a4), (5, a5), (6, a6), (7, a7), (8, a8), (16, x4)]) S)
theorem e154_0 (cf : CallF) (a0 : D) (a1 : D) (a4 : D) (a5 : D) (a6 : D) (a7 : D) (a8 : D) (a16 : D) (S : Store) (Q : Ex → List D → Store → Prop) : wp cf c154_0 (fkill (mkf 43 [(0, a0), (1, a1), (4, a4), (5, a5), (6, a6), (7, a7), (8, a8), (16, a16)]) []) S Q = s154_0 cf a0 a1 a4 a5 a6 a7 a8 a16 S Q := wpS_of (by kernel_rfl)
def s154 (cf : CallF) (a0 : D) (a1 : D) (S : Store) (Post : D → Store → Prop) : Prop :=
  OX (lenD false a0) fun x19 =>
  OX (mkslV 1 true [.i .u32 0] S x19) fun p21 =>
  OX (lenD false a0) fun x22 =>
  OX (binD .sub .num x22 (.i .i64 1)) fun x23 =>
  W cf (.loop [] c154_0) (mkf 43 [(0, a0), (1, a1), (4, .top), (5, .top), (6, p21.1), (7, (.i .u64 0)), (8, x23), (16, .top)]) p21.2 (Qblk 0 (QS cf c154_r0 (FinK [.t 4, .t 5] Post)))
theorem e154 (cf : CallF) (a0 : D) (a1 : D) (S : Store) (Post : D → Store → Prop) : wp cf c154 (frame0 d154 [a0, a1]) S (FinK d154.res Post) = s154 cf a0 a1 S Post := wpS_of (by kernel_rfl)
theorem i154 (a0 : D) (a1 : D) (r : D) (ha : noRefL (stripL [a0, a1]) = true) (hr : noRef r = true) (h : s154 (call dp) (strip a0) (strip a1) [] fun d _ => stripT d = r) : isoCall (call dp) 154 [a0, a1] = some r := iso_s (f := d154) rfl ⟨rfl, by decide⟩ ha hr (by rw [← e154] at h; exact h)
/-! lineage/bignat.left -/
def s213_r0 (cf : CallF) (a0 : D) (a1 : D) (a4 : D) (a5 : D) (a13 : D) (a14 : D) (a15 : D) (S : Store) (Q : Ex → List D → Store → Prop) : Prop :=
  OX (fzD a5 S) fun p1 =>
  Q .ret (mkf 41 [(0, .top), (1, .top), (4, p1.1), (5, .top), (13, .top), (14, .top), (15, .top)]) p1.2
theorem e213_r0 (cf : CallF) (a0 : D) (a1 : D) (a4 : D) (a5 : D) (a13 : D) (a14 : D) (a15 : D) (S : Store) (Q : Ex → List D → Store → Prop) : wp cf c213_r0 (mkf 41 [(0, a0), (1, a1), (4, a4), (5, a5), (13, a13), (14, a14), (15, a15)]) S Q = s213_r0 cf a0 a1 a4 a5 a13 a14 a15 S Q := wpS_of (by kernel_rfl)
def s213_0 (cf : CallF) (a0 : D) (a1 : D) (a4 : D) (a5 : D) (a13 : D) (a14 : D) (a15 : D) (S : Store) (Q : Ex → List D → Store → Prop) : Prop :=
  OX (binD .lss .num a14 a13) fun x2 =>
  WB x2
  (OX (iaD 1 a0 a14) fun x3 =>
  OX (ldD S 1 false x3) fun x4 =>
  OX (convD .u64 x4) fun x5 =>
  OX (binD .shl .num x5 a1) fun x6 =>
  OX (iaD 1 a5 a14) fun x7 =>
  OX (ldD S 1 false x7) fun x8 =>
  OX (convD .u32 x6) fun x9 =>
  OX (binD .or .num x8 x9) fun x10 =>
  OX (iaD 1 a5 a14) fun x11 =>
  OX (stD S 1 false x11 x10) fun S13 =>
  OX (binD .add .num a14 (.i .i64 1)) fun x14 =>
  OX (binD .shr .num x6 (.i .u64 32)) fun x15 =>
  OX (convD .u32 x15) fun x16 =>
  OX (iaD 1 a5 x14) fun x17 =>
  OX (stD S13 1 false x17 x16) fun S19 =>
  OX (binD .add .num a14 (.i .i64 1)) fun x20 =>
  Q .normal (mkf 41 [(0, a0), (1, a1), (4, a4), (5, a5), (13, a13), (14, x20), (15, .top)]) S19)
  (Q (.exit 0) (mkf 41 [(0, a0), (1, a1), (4, a4), (5, a5), (13, a13), (14, a14), (15, x2)]) S)
theorem e213_0 (cf : CallF) (a0 : D) (a1 : D) (a4 : D) (a5 : D) (a13 : D) (a14 : D) (a15 : D) (S : Store) (Q : Ex → List D → Store → Prop) : wp cf c213_0 (fkill (mkf 41 [(0, a0), (1, a1), (4, a4), (5, a5), (13, a13), (14, a14), (15, a15)]) []) S Q = s213_0 cf a0 a1 a4 a5 a13 a14 a15 S Q := wpS_of (by kernel_rfl)
def s213 (cf : CallF) (a0 : D) (a1 : D) (S : Store) (Post : D → Store → Prop) : Prop :=
  OX (lenD false a0) fun x21 =>
  OX (binD .add .num x21 (.i .i64 1)) fun x22 =>
  OX (mkslV 1 true [.i .u32 0] S x22) fun p24 =>
  OX (lenD false a0) fun x25 =>
  W cf (.loop [] c213_0) (mkf 41 [(0, a0), (1, a1), (4, .top), (5, p24.1), (13, x25), (14, (.i .i64 0)), (15, .top)]) p24.2 (Qblk 0 (QS cf c213_r0 (FinK [.t 4] Post)))
theorem e213 (cf : CallF) (a0 : D) (a1 : D) (S : Store) (Post : D → Store → Prop) : wp cf c213 (frame0 d213 [a0, a1]) S (FinK d213.res Post) = s213 cf a0 a1 S Post := wpS_of (by kernel_rfl)
theorem j213 (a0 : D) (a1 : D) (Post : D → Prop) (ha : noRefL (stripL [a0, a1]) = true) (hr : ∀ r, Post r → noRef r = true) (h : s213 (call dp) (strip a0) (strip a1) [] fun d _ => Post (stripT d)) : ∃ r, isoCall (call dp) 213 [a0, a1] = some r ∧ Post r := iso_x (f := d213) rfl ⟨rfl, by decide⟩ ha hr (by rw [← e213] at h; exact h)
/-! lineage/bignat.left (a) -/
def s1213_r0 (cf : CallF) (a0 : D) (a1 : D) (a4 : D) (a5 : D) (a13 : D) (a14 : D) (a15 : D) (S : Store) (Q : Ex → List D → Store → Prop) : Prop :=
  Q .ret (mkf 41 [(0, .top), (1, .top), (4, a5), (5, .top), (13, .top), (14, .top), (15, .top)]) S
theorem e1213_r0 (cf : CallF) (a0 : D) (a1 : D) (a4 : D) (a5 : D) (a13 : D) (a14 : D) (a15 : D) (S : Store) (Q : Ex → List D → Store → Prop) : wp cf c1213_r0 (mkf 41 [(0, a0), (1, a1), (4, a4), (5, a5), (13, a13), (14, a14), (15, a15)]) S Q = s1213_r0 cf a0 a1 a4 a5 a13 a14 a15 S Q := wpS_of (by kernel_rfl)
def s1213 (cf : CallF) (a0 : D) (a1 : D) (S : Store) (Post : D → Store → Prop) : Prop :=
  OX (lenD false a0) fun x20 =>
  OX (binD .add .num x20 (.i .i64 1)) fun x21 =>
  OX (mkslV 1 true [.i .u32 0] S x21) fun p23 =>
  OX (lenD false a0) fun x24 =>
  W cf (.loop [] c1213_0) (mkf 41 [(0, a0), (1, a1), (4, .top), (5, p23.1), (13, x24), (14, (.i .i64 0)), (15, .top)]) p23.2 (Qblk 0 (QS cf c1213_r0 (FinK [.t 4] Post)))
theorem e1213 (cf : CallF) (a0 : D) (a1 : D) (S : Store) (Post : D → Store → Prop) : wp cf c1213 (frame0 d1213 [a0, a1]) S (FinK d1213.res Post) = s1213 cf a0 a1 S Post := wpS_of (by kernel_rfl)
theorem f1213 (a0 : D) (a1 : D) (S : Store) (Post : D → Store → Prop) (h : s1213 (call dp) a0 a1 S Post) : ∃ r S', call dp 1213 [a0, a1] S = some (r, S') ∧ Post r S' := call_s (f := d1213) rfl ⟨rfl, by decide⟩ (by rw [← e1213] at h; exact h)

/-! lineage/bignat.right -/
def s216_r0 (cf : CallF) (a0 : D) (a1 : D) (a4 : D) (a5 : D) (a12 : D) (a13 : D) (a14 : D) (S : Store) (Q : Ex → List D → Store → Prop) : Prop :=
  OX (fzD a5 S) fun p1 =>
  Q .ret (mkf 44 [(0, .top), (1, .top), (4, p1.1), (5, .top), (12, .top), (13, .top), (14, .top)]) p1.2
theorem e216_r0 (cf : CallF) (a0 : D) (a1 : D) (a4 : D) (a5 : D) (a12 : D) (a13 : D) (a14 : D) (S : Store) (Q : Ex → List D → Store → Prop) : wp cf c216_r0 (mkf 44 [(0, a0), (1, a1), (4, a4), (5, a5), (12, a12), (13, a13), (14, a14)]) S Q = s216_r0 cf a0 a1 a4 a5 a12 a13 a14 S Q := wpS_of (by kernel_rfl)
def s216_0 (cf : CallF) (a0 : D) (a1 : D) (a4 : D) (a5 : D) (a12 : D) (a13 : D) (a14 : D) (S : Store) (Q : Ex → List D → Store → Prop) : Prop :=
  OX (binD .lss .num a13 a12) fun x2 =>
  WB x2
  (OX (iaD 1 a0 a13) fun x3 =>
  OX (ldD S 1 false x3) fun x4 =>
  OX (convD .u64 x4) fun x5 =>
  OX (binD .add .num a13 (.i .i64 1)) fun x6 =>
  OX (lenD false a0) fun x7 =>
  OX (binD .lss .num x6 x7) fun x8 =>
  jn (fun (y10 : D) (y11 : D) (y12 : D) (y13 : D) (y14 : D) (y15 : D) (y16 : D) (y17 : D) (y18 : D) (S19 : Store) =>
  OX (binD .shr .num y15 y11) fun x20 =>
  OX (convD .u32 x20) fun x21 =>
  OX (iaD 1 y13 y14) fun x22 =>
  OX (stD S19 1 false x22 x21) fun S24 =>
  OX (binD .add .num y17 (.i .i64 1)) fun x25 =>
  Q .normal (mkf 44 [(0, y10), (1, y11), (4, y12), (5, y13), (12, y16), (13, x25), (14, .top)]) S24) fun k9 =>
  WB x8
  (OX (binD .add .num a13 (.i .i64 1)) fun x26 =>
  OX (iaD 1 a0 x26) fun x27 =>
  OX (ldD S 1 false x27) fun x28 =>
  OX (convD .u64 x28) fun x29 =>
  OX (binD .shl .num x29 (.i .u64 32)) fun x30 =>
  OX (binD .or .num x5 x30) fun x31 =>
  k9 a0 a1 a4 a5 a13 x31 a12 a13 D.top S)
  (k9 a0 a1 a4 a5 a13 x5 a12 a13 x8 S))
  (Q (.exit 0) (mkf 44 [(0, a0), (1, a1), (4, a4), (5, a5), (12, a12), (13, a13), (14, x2)]) S)
theorem e216_0 (cf : CallF) (a0 : D) (a1 : D) (a4 : D) (a5 : D) (a12 : D) (a13 : D) (a14 : D) (S : Store) (Q : Ex → List D → Store → Prop) : wp cf c216_0 (fkill (mkf 44 [(0, a0), (1, a1), (4, a4), (5, a5), (12, a12), (13, a13), (14, a14)]) []) S Q = s216_0 cf a0 a1 a4 a5 a12 a13 a14 S Q := wpS_of (by kernel_rfl)
def s216 (cf : CallF) (a0 : D) (a1 : D) (S : Store) (Post : D → Store → Prop) : Prop :=
  OX (lenD false a0) fun x32 =>
  OX (mkslV 1 true [.i .u32 0] S x32) fun p34 =>
  OX (lenD false a0) fun x35 =>
  W cf (.loop [] c216_0) (mkf 44 [(0, a0), (1, a1), (4, .top), (5, p34.1), (12, x35), (13, (.i .i64 0)), (14, .top)]) p34.2 (Qblk 0 (QS cf c216_r0 (FinK [.t 4] Post)))
theorem e216 (cf : CallF) (a0 : D) (a1 : D) (S : Store) (Post : D → Store → Prop) : wp cf c216 (frame0 d216 [a0, a1]) S (FinK d216.res Post) = s216 cf a0 a1 S Post := wpS_of (by kernel_rfl)
theorem j216 (a0 : D) (a1 : D) (Post : D → Prop) (ha : noRefL (stripL [a0, a1]) = true) (hr : ∀ r, Post r → noRef r = true) (h : s216 (call dp) (strip a0) (strip a1) [] fun d _ => Post (stripT d)) : ∃ r, isoCall (call dp) 216 [a0, a1] = some r ∧ Post r := iso_x (f := d216) rfl ⟨rfl, by decide⟩ ha hr (by rw [← e216] at h; exact h)
/-! lineage/bignat.reduce -/
def s214_r0 (cf : CallF) (a0 : D) (a1 : D) (a2 : D) (a3 : D) (a8 : D) (a9 : D) (a10 : D) (a13 : D) (a14 : D) (a15 : D) (S : Store) (Q : Ex → List D → Store → Prop) : Prop :=
  OX (lenD false a1) fun x1 =>
  OX (binD .add .num a2 x1) fun x2 =>
  OX (lenD false a1) fun x3 =>
  OX (binD .add .num a2 x3) fun x4 =>
  OX (iaD 1 a0 x4) fun x5 =>
  OX (ldD S 1 false x5) fun x6 =>
  OX (convD .u32 a9) fun x7 =>
  OX (isoCall cf 243 [x6, x7, a10]) fun x8 =>
  OX (extD x8 0) fun x9 =>
  OX (extD x8 1) fun x10 =>
  OX (iaD 1 a0 x2) fun x11 =>
  OX (stD S 1 false x11 x9) fun S13 =>
  OX (binD .eql .num x10 (.i .u32 1)) fun x14 =>
  Q .ret (mkf 69 [(0, .top), (1, .top), (2, .top), (3, .top), (8, x14), (9, .top), (10, .top), (13, .top), (14, .top), (15, .top)]) S13
theorem e214_r0 (cf : CallF) (a0 : D) (a1 : D) (a2 : D) (a3 : D) (a8 : D) (a9 : D) (a10 : D) (a13 : D) (a14 : D) (a15 : D) (S : Store) (Q : Ex → List D → Store → Prop) : wp cf c214_r0 (mkf 69 [(0, a0), (1, a1), (2, a2), (3, a3), (8, a8), (9, a9), (10, a10), (13, a13), (14, a14), (15, a15)]) S Q = s214_r0 cf a0 a1 a2 a3 a8 a9 a10 a13 a14 a15 S Q := wpS_of (by kernel_rfl)
def s214_0 (cf : CallF) (a0 : D) (a1 : D) (a2 : D) (a3 : D) (a8 : D) (a9 : D) (a10 : D) (a13 : D) (a14 : D) (a15 : D) (S : Store) (Q : Ex → List D → Store → Prop) : Prop :=
  OX (binD .lss .num a14 a13) fun x15 =>
  WB x15
  (OX (iaD 1 a1 a14) fun x16 =>
  OX (ldD S 1 false x16) fun x17 =>
  OX (convD .u64 x17) fun x18 =>
  OX (binD .mul .num a3 x18) fun x19 =>
  OX (binD .add .num a9 x19) fun x20 =>
  OX (binD .add .num a2 a14) fun x21 =>
  OX (binD .add .num a2 a14) fun x22 =>
  OX (iaD 1 a0 x22) fun x23 =>
  OX (ldD S 1 false x23) fun x24 =>
  OX (convD .u32 x20) fun x25 =>
  OX (isoCall cf 243 [x24, x25, a10]) fun x26 =>
  OX (extD x26 0) fun x27 =>
  OX (extD x26 1) fun x28 =>
  OX (iaD 1 a0 x21) fun x29 =>
  OX (stD S 1 false x29 x27) fun S31 =>
  OX (binD .shr .num x20 (.i .u64 32)) fun x32 =>
  OX (binD .add .num a14 (.i .i64 1)) fun x33 =>
  Q .normal (mkf 69 [(0, a0), (1, a1), (2, a2), (3, a3), (8, a8), (9, x32), (10, x28), (13, a13), (14, x33), (15, .top)]) S31)
  (Q (.exit 0) (mkf 69 [(0, a0), (1, a1), (2, a2), (3, a3), (8, a8), (9, a9), (10, a10), (13, a13), (14, a14), (15, x15)]) S)
theorem e214_0 (cf : CallF) (a0 : D) (a1 : D) (a2 : D) (a3 : D) (a8 : D) (a9 : D) (a10 : D) (a13 : D) (a14 : D) (a15 : D) (S : Store) (Q : Ex → List D → Store → Prop) : wp cf c214_0 (fkill (mkf 69 [(0, a0), (1, a1), (2, a2), (3, a3), (8, a8), (9, a9), (10, a10), (13, a13), (14, a14), (15, a15)]) []) S Q = s214_0 cf a0 a1 a2 a3 a8 a9 a10 a13 a14 a15 S Q := wpS_of (by kernel_rfl)
def s214 (cf : CallF) (a0 : D) (a1 : D) (a2 : D) (a3 : D) (S : Store) (Post : D → Store → Prop) : Prop :=
  OX (lenD false a1) fun x34 =>
  W cf (.loop [] c214_0) (mkf 69 [(0, a0), (1, a1), (2, a2), (3, a3), (8, .top), (9, (.i .u64 0)), (10, (.i .u32 0)), (13, x34), (14, (.i .i64 0)), (15, .top)]) S (Qblk 0 (QS cf c214_r0 (FinK [.t 8] Post)))
theorem e214 (cf : CallF) (a0 : D) (a1 : D) (a2 : D) (a3 : D) (S : Store) (Post : D → Store → Prop) : wp cf c214 (frame0 d214 [a0, a1, a2, a3]) S (FinK d214.res Post) = s214 cf a0 a1 a2 a3 S Post := wpS_of (by kernel_rfl)
theorem f214 (a0 : D) (a1 : D) (a2 : D) (a3 : D) (S : Store) (Post : D → Store → Prop) (h : s214 (call dp) a0 a1 a2 a3 S Post) : ∃ r S', call dp 214 [a0, a1, a2, a3] S = some (r, S') ∧ Post r S' := call_s (f := d214) rfl ⟨rfl, by decide⟩ (by rw [← e214] at h; exact h)

/-! lineage/bignat.restore -/
def s215_r0 (cf : CallF) (a0 : D) (a1 : D) (a2 : D) (a6 : D) (a9 : D) (a10 : D) (a11 : D) (S : Store) (Q : Ex → List D → Store → Prop) : Prop :=
  OX (lenD false a1) fun x1 =>
  OX (binD .add .num a2 x1) fun x2 =>
  OX (iaD 1 a0 x2) fun x3 =>
  OX (ldD S 1 false x3) fun x4 =>
  OX (binD .add .num x4 a6) fun x5 =>
  OX (iaD 1 a0 x2) fun x6 =>
  OX (stD S 1 false x6 x5) fun S8 =>
  Q .normal (mkf 44 [(0, .top), (1, .top), (2, .top), (6, .top), (9, .top), (10, .top), (11, .top)]) S8
theorem e215_r0 (cf : CallF) (a0 : D) (a1 : D) (a2 : D) (a6 : D) (a9 : D) (a10 : D) (a11 : D) (S : Store) (Q : Ex → List D → Store → Prop) : wp cf c215_r0 (mkf 44 [(0, a0), (1, a1), (2, a2), (6, a6), (9, a9), (10, a10), (11, a11)]) S Q = s215_r0 cf a0 a1 a2 a6 a9 a10 a11 S Q := wpS_of (by kernel_rfl)
def s215_0 (cf : CallF) (a0 : D) (a1 : D) (a2 : D) (a6 : D) (a9 : D) (a10 : D) (a11 : D) (S : Store) (Q : Ex → List D → Store → Prop) : Prop :=
  OX (binD .lss .num a10 a9) fun x9 =>
  WB x9
  (OX (binD .add .num a2 a10) fun x10 =>
  OX (binD .add .num a2 a10) fun x11 =>
  OX (iaD 1 a0 x11) fun x12 =>
  OX (ldD S 1 false x12) fun x13 =>
  OX (iaD 1 a1 a10) fun x14 =>
  OX (ldD S 1 false x14) fun x15 =>
  OX (isoCall cf 142 [x13, x15, a6]) fun x16 =>
  OX (extD x16 0) fun x17 =>
  OX (extD x16 1) fun x18 =>
  OX (iaD 1 a0 x10) fun x19 =>
  OX (stD S 1 false x19 x17) fun S21 =>
  OX (binD .add .num a10 (.i .i64 1)) fun x22 =>
  Q .normal (mkf 44 [(0, a0), (1, a1), (2, a2), (6, x18), (9, a9), (10, x22), (11, .top)]) S21)
  (Q (.exit 0) (mkf 44 [(0, a0), (1, a1), (2, a2), (6, a6), (9, a9), (10, a10), (11, x9)]) S)
theorem e215_0 (cf : CallF) (a0 : D) (a1 : D) (a2 : D) (a6 : D) (a9 : D) (a10 : D) (a11 : D) (S : Store) (Q : Ex → List D → Store → Prop) : wp cf c215_0 (fkill (mkf 44 [(0, a0), (1, a1), (2, a2), (6, a6), (9, a9), (10, a10), (11, a11)]) []) S Q = s215_0 cf a0 a1 a2 a6 a9 a10 a11 S Q := wpS_of (by kernel_rfl)
def s215 (cf : CallF) (a0 : D) (a1 : D) (a2 : D) (S : Store) (Post : D → Store → Prop) : Prop :=
  OX (lenD false a1) fun x23 =>
  W cf (.loop [] c215_0) (mkf 44 [(0, a0), (1, a1), (2, a2), (6, (.i .u32 0)), (9, x23), (10, (.i .i64 0)), (11, .top)]) S (Qblk 0 (QS cf c215_r0 (FinK [] Post)))
theorem e215 (cf : CallF) (a0 : D) (a1 : D) (a2 : D) (S : Store) (Post : D → Store → Prop) : wp cf c215 (frame0 d215 [a0, a1, a2]) S (FinK d215.res Post) = s215 cf a0 a1 a2 S Post := wpS_of (by kernel_rfl)
theorem f215 (a0 : D) (a1 : D) (a2 : D) (S : Store) (Post : D → Store → Prop) (h : s215 (call dp) a0 a1 a2 S Post) : ∃ r S', call dp 215 [a0, a1, a2] S = some (r, S') ∧ Post r S' := call_s (f := d215) rfl ⟨rfl, by decide⟩ (by rw [← e215] at h; exact h)

/-! lineage/bignat.DivMod -/
def s135_r0 (cf : CallF) (a4 : D) (a5 : D) (a6 : D) (a9 : D) (a10 : D) (a11 : D) (a12 : D) (a13 : D) (a14 : D) (a15 : D) (a17 : D) (a18 : D) (a95 : D) (a142 : D) (a149 : D) (S : Store) (Q : Ex → List D → Store → Prop) : Prop :=
  OX (cf 214 [a11, a10, a15, a17] S) fun p2 =>
  jn (fun (y4 : D) (y5 : D) (y6 : D) (y7 : D) (y8 : D) (y9 : D) (y10 : D) (y11 : D) (y12 : D) (y13 : D) (y14 : D) (y15 : D) (y16 : D) (S17 : Store) =>
  OX (convD .u32 y14) fun x18 =>
  OX (iaD 1 y10 y13) fun x19 =>
  OX (stD S17 1 false x19 x18) fun S21 =>
  Q .normal (mkf 175 [(4, y4), (5, y5), (6, y6), (9, y7), (10, y8), (11, y9), (12, y10), (13, y11), (14, y12), (15, y13), (17, .top), (18, .top), (95, y15), (142, .top), (149, .top)]) S21) fun k3 =>
  WB p2.1
  (OX (binD .sub .num a17 (.i .u64 1)) fun x22 =>
  OX (cf 215 [a11, a10, a15] p2.2) fun p24 =>
  k3 a4 a5 a6 a9 a10 a11 a12 a13 a14 a15 x22 a95 D.top p24.2)
  (k3 a4 a5 a6 a9 a10 a11 a12 a13 a14 a15 a17 a95 p2.1 p2.2)
theorem e135_r0 (cf : CallF) (a4 : D) (a5 : D) (a6 : D) (a9 : D) (a10 : D) (a11 : D) (a12 : D) (a13 : D) (a14 : D) (a15 : D) (a17 : D) (a18 : D) (a95 : D) (a142 : D) (a149 : D) (S : Store) (Q : Ex → List D → Store → Prop) : wp cf c135_r0 (mkf 175 [(4, a4), (5, a5), (6, a6), (9, a9), (10, a10), (11, a11), (12, a12), (13, a13), (14, a14), (15, a15), (17, a17), (18, a18), (95, a95), (142, a142), (149, a149)]) S Q = s135_r0 cf a4 a5 a6 a9 a10 a11 a12 a13 a14 a15 a17 a18 a95 a142 a149 S Q := wpS_of (by kernel_rfl)
def s135_r1 (cf : CallF) (a4 : D) (a5 : D) (a6 : D) (a9 : D) (a10 : D) (a11 : D) (a12 : D) (a13 : D) (a14 : D) (a15 : D) (a17 : D) (a18 : D) (a95 : D) (a142 : D) (a149 : D) (S : Store) (Q : Ex → List D → Store → Prop) : Prop :=
  OX (binD .sub .num a15 (.i .i64 1)) fun x25 =>
  Q .normal (mkf 175 [(4, a4), (5, a5), (6, a6), (9, a9), (10, a10), (11, a11), (12, a12), (13, a13), (14, a14), (15, x25), (17, a17), (18, a18), (95, a95), (142, a142), (149, a149)]) S
theorem e135_r1 (cf : CallF) (a4 : D) (a5 : D) (a6 : D) (a9 : D) (a10 : D) (a11 : D) (a12 : D) (a13 : D) (a14 : D) (a15 : D) (a17 : D) (a18 : D) (a95 : D) (a142 : D) (a149 : D) (S : Store) (Q : Ex → List D → Store → Prop) : wp cf c135_r1 (mkf 175 [(4, a4), (5, a5), (6, a6), (9, a9), (10, a10), (11, a11), (12, a12), (13, a13), (14, a14), (15, a15), (17, a17), (18, a18), (95, a95), (142, a142), (149, a149)]) S Q = s135_r1 cf a4 a5 a6 a9 a10 a11 a12 a13 a14 a15 a17 a18 a95 a142 a149 S Q := wpS_of (by kernel_rfl)
def s135_0 (cf : CallF) (a4 : D) (a5 : D) (a6 : D) (a9 : D) (a10 : D) (a11 : D) (a12 : D) (a13 : D) (a14 : D) (a15 : D) (a17 : D) (a18 : D) (a95 : D) (a142 : D) (a149 : D) (S : Store) (Q : Ex → List D → Store → Prop) : Prop :=
  OX (binD .geq .num a17 (.i .u64 4294967296)) fun x26 =>
  OX (gsel x26 false (some a17)) fun x27 =>
  OX (gsel x26 false (some a14)) fun x28 =>
  OX (gsel x26 false (binD .mul .num x27 x28)) fun x29 =>
  OX (gsel x26 false (some a18)) fun x30 =>
  OX (gsel x26 false (binD .shl .num x30 (.i .u64 32))) fun x31 =>
  OX (gsel x26 false (some a11)) fun x32 =>
  OX (gsel x26 false (some a15)) fun x33 =>
  OX (gsel x26 false (some a10)) fun x34 =>
  OX (gsel x26 false (lenD false x34)) fun x35 =>
  OX (gsel x26 false (binD .add .num x33 x35)) fun x36 =>
  OX (gsel x26 false (binD .sub .num x36 (.i .i64 2))) fun x37 =>
  OX (gsel x26 false (iaD 1 x32 x37)) fun x38 =>
  OX (gsel x26 false (ldD S 1 false x38)) fun x39 =>
  OX (gsel x26 false (convD .u64 x39)) fun x40 =>
  OX (gsel x26 false (binD .or .num x31 x40)) fun x41 =>
  OX (gsel x26 false (binD .gtr .num x29 x41)) fun x42 =>
  OX (pickD x26 (.b true) x42) fun x43 =>
  WB x43
  (OX (binD .sub .num a17 (.i .u64 1)) fun x44 =>
  OX (binD .add .num a18 a13) fun x45 =>
  OX (binD .geq .num x45 (.i .u64 4294967296)) fun x46 =>
  WB x46
  (Q (.exit 2) (mkf 175 [(4, a4), (5, a5), (6, a6), (9, a9), (10, a10), (11, a11), (12, a12), (13, a13), (14, a14), (15, a15), (17, x44), (18, x45), (95, a95), (142, .top), (149, x46)]) S)
  (Q .normal (mkf 175 [(4, a4), (5, a5), (6, a6), (9, a9), (10, a10), (11, a11), (12, a12), (13, a13), (14, a14), (15, a15), (17, x44), (18, x45), (95, a95), (142, .top), (149, x46)]) S))
  (Q (.exit 2) (mkf 175 [(4, a4), (5, a5), (6, a6), (9, a9), (10, a10), (11, a11), (12, a12), (13, a13), (14, a14), (15, a15), (17, a17), (18, a18), (95, a95), (142, x43), (149, .top)]) S)
theorem e135_0 (cf : CallF) (a4 : D) (a5 : D) (a6 : D) (a9 : D) (a10 : D) (a11 : D) (a12 : D) (a13 : D) (a14 : D) (a15 : D) (a17 : D) (a18 : D) (a95 : D) (a142 : D) (a149 : D) (S : Store) (Q : Ex → List D → Store → Prop) : wp cf c135_0 (fkill (mkf 175 [(4, a4), (5, a5), (6, a6), (9, a9), (10, a10), (11, a11), (12, a12), (13, a13), (14, a14), (15, a15), (17, a17), (18, a18), (95, a95), (142, a142), (149, a149)]) [149]) S Q = s135_0 cf a4 a5 a6 a9 a10 a11 a12 a13 a14 a15 a17 a18 a95 a142 a149 S Q := wpS_of (by kernel_rfl)
def s135_r2 (cf : CallF) (a4 : D) (a5 : D) (a6 : D) (a9 : D) (a10 : D) (a11 : D) (a12 : D) (a13 : D) (a14 : D) (a15 : D) (a17 : D) (a18 : D) (a95 : D) (a142 : D) (a149 : D) (S : Store) (Q : Ex → List D → Store → Prop) : Prop :=
  OX (fzD a11 S) fun p47 =>
  OX (fzD a12 p47.2) fun p48 =>
  OX (isoCall cf 146 [p48.1]) fun x49 =>
  OX (lenD false a10) fun x50 =>
  OX (slcD 1 p47.1 none (some x50)) fun x51 =>
  OX (isoCall cf 216 [x51, a9]) fun x52 =>
  OX (isoCall cf 146 [x52]) fun x53 =>
  Q .ret (mkf 175 [(4, x49), (5, x53), (6, (.i .i64 0)), (9, .top), (10, .top), (11, .top), (12, .top), (13, .top), (14, .top), (15, .top), (17, a17), (18, a18), (95, .top), (142, a142), (149, a149)]) p48.2
theorem e135_r2 (cf : CallF) (a4 : D) (a5 : D) (a6 : D) (a9 : D) (a10 : D) (a11 : D) (a12 : D) (a13 : D) (a14 : D) (a15 : D) (a17 : D) (a18 : D) (a95 : D) (a142 : D) (a149 : D) (S : Store) (Q : Ex → List D → Store → Prop) : wp cf c135_r2 (mkf 175 [(4, a4), (5, a5), (6, a6), (9, a9), (10, a10), (11, a11), (12, a12), (13, a13), (14, a14), (15, a15), (17, a17), (18, a18), (95, a95), (142, a142), (149, a149)]) S Q = s135_r2 cf a4 a5 a6 a9 a10 a11 a12 a13 a14 a15 a17 a18 a95 a142 a149 S Q := wpS_of (by kernel_rfl)
def s135_1 (cf : CallF) (a4 : D) (a5 : D) (a6 : D) (a9 : D) (a10 : D) (a11 : D) (a12 : D) (a13 : D) (a14 : D) (a15 : D) (a17 : D) (a18 : D) (a95 : D) (a142 : D) (a149 : D) (S : Store) (Q : Ex → List D → Store → Prop) : Prop :=
  OX (binD .geq .num a15 (.i .i64 0)) fun x54 =>
  WB x54
  (OX (lenD false a10) fun x55 =>
  OX (binD .add .num a15 x55) fun x56 =>
  OX (iaD 1 a11 x56) fun x57 =>
  OX (ldD S 1 false x57) fun x58 =>
  OX (convD .u64 x58) fun x59 =>
  OX (binD .shl .num x59 (.i .u64 32)) fun x60 =>
  OX (lenD false a10) fun x61 =>
  OX (binD .add .num a15 x61) fun x62 =>
  OX (binD .sub .num x62 (.i .i64 1)) fun x63 =>
  OX (iaD 1 a11 x63) fun x64 =>
  OX (ldD S 1 false x64) fun x65 =>
  OX (convD .u64 x65) fun x66 =>
  OX (binD .or .num x60 x66) fun x67 =>
  OX (binD .quo .num x67 a13) fun x68 =>
  OX (binD .rem .num x67 a13) fun x69 =>
  W cf (.loop [149] c135_0) (mkf 175 [(4, a4), (5, a5), (6, a6), (9, a9), (10, a10), (11, a11), (12, a12), (13, a13), (14, a14), (15, a15), (17, x68), (18, x69), (95, .top), (142, a142), (149, a149)]) S (Qblk 2 (QS cf c135_r0 (Qblk 1 (QS cf c135_r1 Q)))))
  (Q (.exit 0) (mkf 175 [(4, a4), (5, a5), (6, a6), (9, a9), (10, a10), (11, a11), (12, a12), (13, a13), (14, a14), (15, a15), (17, a17), (18, a18), (95, x54), (142, a142), (149, a149)]) S)
theorem e135_1 (cf : CallF) (a4 : D) (a5 : D) (a6 : D) (a9 : D) (a10 : D) (a11 : D) (a12 : D) (a13 : D) (a14 : D) (a15 : D) (a17 : D) (a18 : D) (a95 : D) (a142 : D) (a149 : D) (S : Store) (Q : Ex → List D → Store → Prop) : wp cf c135_1 (fkill (mkf 175 [(4, a4), (5, a5), (6, a6), (9, a9), (10, a10), (11, a11), (12, a12), (13, a13), (14, a14), (15, a15), (17, a17), (18, a18), (95, a95), (142, a142), (149, a149)]) []) S Q = s135_1 cf a4 a5 a6 a9 a10 a11 a12 a13 a14 a15 a17 a18 a95 a142 a149 S Q := wpS_of (by kernel_rfl)
def s135 (cf : CallF) (a0 : D) (a1 : D) (S : Store) (Post : D → Store → Prop) : Prop :=
  OX (isoCall cf 105 [a0]) fun x70 =>
  OX (unD .not x70) fun x71 =>
  OX (gsel x71 false (some a1)) fun x72 =>
  OX (gsel x71 false (isoCall cf 105 [x72])) fun x73 =>
  OX (gsel x71 false (unD .not x73)) fun x74 =>
  OX (pickD x71 (.b true) x74) fun x75 =>
  OX (gsel x75 false (some a1)) fun x76 =>
  OX (gsel x75 false (lenD false x76)) fun x77 =>
  OX (gsel x75 false (binD .eql .num x77 (.i .i64 0))) fun x78 =>
  OX (pickD x75 (.b true) x78) fun x79 =>
  WB x79
  (Post (.tup [(.sl 1 true [] .ro), (.sl 1 true [] .ro), (.i .i64 1)]) S)
  (OX (isoCall cf 82 [a0, a1]) fun x80 =>
  OX (binD .lss .num x80 (.i .i64 0)) fun x81 =>
  WB x81
  (OX (isoCall cf 110 [a0]) fun x82 =>
  OX (isoCall cf 146 [x82]) fun x83 =>
  Post (.tup [(.sl 1 true [] .ro), x83, (.i .i64 0)]) S)
  (OX (lenD false a1) fun x84 =>
  OX (binD .eql .num x84 (.i .i64 1)) fun x85 =>
  WB x85
  (OX (iaD 1 a1 (.i .i64 0)) fun x86 =>
  OX (ldD S 1 false x86) fun x87 =>
  OX (isoCall cf 154 [a0, x87]) fun x88 =>
  OX (extD x88 0) fun x89 =>
  OX (extD x88 1) fun x90 =>
  OX (convD .u64 x90) fun x91 =>
  OX (isoCall cf 83 [x91]) fun x92 =>
  Post (.tup [x89, x92, (.i .i64 0)]) S)
  (OX (lenD false a1) fun x93 =>
  OX (binD .sub .num x93 (.i .i64 1)) fun x94 =>
  OX (iaD 1 a1 x94) fun x95 =>
  OX (ldD S 1 false x95) fun x96 =>
  OX (isoCall cf 212 [x96]) fun x97 =>
  OX (isoCall cf 213 [a1, x97]) fun x98 =>
  OX (lenD false a1) fun x99 =>
  OX (slcD 1 x98 none (some x99)) fun x100 =>
  OX (cf 1213 [a0, x97] S) fun p102 =>
  OX (lenD false a0) fun x103 =>
  OX (lenD false a1) fun x104 =>
  OX (binD .sub .num x103 x104) fun x105 =>
  OX (binD .add .num x105 (.i .i64 1)) fun x106 =>
  OX (mkslV 1 true [.i .u32 0] p102.2 x106) fun p108 =>
  OX (lenD false x100) fun x109 =>
  OX (binD .sub .num x109 (.i .i64 1)) fun x110 =>
  OX (iaD 1 x100 x110) fun x111 =>
  OX (ldD p108.2 1 false x111) fun x112 =>
  OX (convD .u64 x112) fun x113 =>
  OX (lenD false x100) fun x114 =>
  OX (binD .sub .num x114 (.i .i64 2)) fun x115 =>
  OX (iaD 1 x100 x115) fun x116 =>
  OX (ldD p108.2 1 false x116) fun x117 =>
  OX (convD .u64 x117) fun x118 =>
  OX (lenD false p108.1) fun x119 =>
  OX (binD .sub .num x119 (.i .i64 1)) fun x120 =>
  W cf (.loop [] c135_1) (mkf 175 [(4, .top), (5, .top), (6, .top), (9, x97), (10, x100), (11, p102.1), (12, p108.1), (13, x113), (14, x118), (15, x120), (17, .top), (18, .top), (95, .top), (142, .top), (149, .top)]) p108.2 (Qblk 0 (QS cf c135_r2 (FinK [.t 4, .t 5, .t 6] Post))))))
theorem e135 (cf : CallF) (a0 : D) (a1 : D) (S : Store) (Post : D → Store → Prop) : wp cf c135 (frame0 d135 [a0, a1]) S (FinK d135.res Post) = s135 cf a0 a1 S Post := wpS_of (by kernel_rfl)
theorem j135 (a0 : D) (a1 : D) (Post : D → Prop) (ha : noRefL (stripL [a0, a1]) = true) (hr : ∀ r, Post r → noRef r = true) (h : s135 (call dp) (strip a0) (strip a1) [] fun d _ => Post (stripT d)) : ∃ r, isoCall (call dp) 135 [a0, a1] = some r ∧ Post r := iso_x (f := d135) rfl ⟨rfl, by decide⟩ ha hr (by rw [← e135] at h; exact h)
/-! lineage/bignat.GCD -/
def s107_r0 (cf : CallF) (a0 : D) (a1 : D) (a4 : D) (a16 : D) (S : Store) (Q : Ex → List D → Store → Prop) : Prop :=
  Q .ret (mkf 27 [(0, .top), (1, .top), (4, a0), (16, .top)]) S
theorem e107_r0 (cf : CallF) (a0 : D) (a1 : D) (a4 : D) (a16 : D) (S : Store) (Q : Ex → List D → Store → Prop) : wp cf c107_r0 (mkf 27 [(0, a0), (1, a1), (4, a4), (16, a16)]) S Q = s107_r0 cf a0 a1 a4 a16 S Q := wpS_of (by kernel_rfl)
def s107_0 (cf : CallF) (a0 : D) (a1 : D) (a4 : D) (a16 : D) (S : Store) (Q : Ex → List D → Store → Prop) : Prop :=
  OX (lenD false a1) fun x1 =>
  OX (binD .gtr .num x1 (.i .i64 0)) fun x2 =>
  WB x2
  (OX (isoCall cf 135 [a0, a1]) fun x3 =>
  OX (extD x3 0) fun x4 =>
  OX (extD x3 1) fun x5 =>
  OX (extD x3 2) fun x6 =>
  Q .normal (mkf 27 [(0, a1), (1, x5), (4, a4), (16, .top)]) S)
  (Q (.exit 0) (mkf 27 [(0, a0), (1, a1), (4, a4), (16, x2)]) S)
theorem e107_0 (cf : CallF) (a0 : D) (a1 : D) (a4 : D) (a16 : D) (S : Store) (Q : Ex → List D → Store → Prop) : wp cf c107_0 (fkill (mkf 27 [(0, a0), (1, a1), (4, a4), (16, a16)]) []) S Q = s107_0 cf a0 a1 a4 a16 S Q := wpS_of (by kernel_rfl)
def s107 (cf : CallF) (a0 : D) (a1 : D) (S : Store) (Post : D → Store → Prop) : Prop :=
  OX (isoCall cf 143 [a0]) fun x7 =>
  OX (isoCall cf 110 [x7]) fun x8 =>
  OX (isoCall cf 143 [a1]) fun x9 =>
  OX (isoCall cf 110 [x9]) fun x10 =>
  W cf (.loop [] c107_0) (mkf 27 [(0, x8), (1, x10), (4, .top), (16, .top)]) S (Qblk 0 (QS cf c107_r0 (FinK [.t 4] Post)))
theorem e107 (cf : CallF) (a0 : D) (a1 : D) (S : Store) (Post : D → Store → Prop) : wp cf c107 (frame0 d107 [a0, a1]) S (FinK d107.res Post) = s107 cf a0 a1 S Post := wpS_of (by kernel_rfl)
theorem j107 (a0 : D) (a1 : D) (Post : D → Prop) (ha : noRefL (stripL [a0, a1]) = true) (hr : ∀ r, Post r → noRef r = true) (h : s107 (call dp) (strip a0) (strip a1) [] fun d _ => Post (stripT d)) : ∃ r, isoCall (call dp) 107 [a0, a1] = some r ∧ Post r := iso_x (f := d107) rfl ⟨rfl, by decide⟩ ha hr (by rw [← e107] at h; exact h)
/-! slices.Clone[lineage/api.Nat,uint32] -/
def s110 (cf : CallF) (a0 : D) (S : Store) (Post : D → Store → Prop) : Prop :=
  OX (binD .eql .sl a0 (.sl 1 true [] .ro)) fun x1 =>
  WB x1
  (Post (.sl 1 true [] .ro) S)
  (OX (cellsV 1 false []) fun x2 =>
  OX (appD 1 false (bslO 1 x2 S).1 a0 (bslO 1 x2 S).2) fun p4 =>
  Post p4.1 p4.2)
theorem e110 (cf : CallF) (a0 : D) (S : Store) (Post : D → Store → Prop) : wp cf c110 (frame0 d110 [a0]) S (FinK d110.res Post) = s110 cf a0 S Post := wpS_of (by kernel_rfl)
theorem i110 (a0 : D) (r : D) (ha : noRefL (stripL [a0]) = true) (hr : noRef r = true) (h : s110 (call dp) (strip a0) [] fun d _ => stripT d = r) : isoCall (call dp) 110 [a0] = some r := iso_s (f := d110) rfl ⟨rfl, by decide⟩ ha hr (by rw [← e110] at h; exact h)
/-! slices.Equal[lineage/api.Nat,uint32] -/
def s106_r0 (cf : CallF) (a0 : D) (a1 : D) (a4 : D) (a12 : D) (a13 : D) (a14 : D) (S : Store) (Q : Ex → List D → Store → Prop) : Prop :=
  Q .ret (mkf 26 [(0, .top), (1, .top), (4, (.b true)), (12, .top), (13, .top), (14, .top)]) S
theorem e106_r0 (cf : CallF) (a0 : D) (a1 : D) (a4 : D) (a12 : D) (a13 : D) (a14 : D) (S : Store) (Q : Ex → List D → Store → Prop) : wp cf c106_r0 (mkf 26 [(0, a0), (1, a1), (4, a4), (12, a12), (13, a13), (14, a14)]) S Q = s106_r0 cf a0 a1 a4 a12 a13 a14 S Q := wpS_of (by kernel_rfl)
def s106_0 (cf : CallF) (a0 : D) (a1 : D) (a4 : D) (a12 : D) (a13 : D) (a14 : D) (S : Store) (Q : Ex → List D → Store → Prop) : Prop :=
  OX (binD .lss .num a13 a12) fun x1 =>
  WB x1
  (OX (iaD 1 a0 a13) fun x2 =>
  OX (ldD S 1 false x2) fun x3 =>
  OX (iaD 1 a1 a13) fun x4 =>
  OX (ldD S 1 false x4) fun x5 =>
  OX (binD .neq .num x3 x5) fun x6 =>
  WB x6
  (Q .ret (mkf 26 [(0, .top), (1, .top), (4, (.b false)), (12, .top), (13, .top), (14, .top)]) S)
  (OX (binD .add .num a13 (.i .i64 1)) fun x7 =>
  Q .normal (mkf 26 [(0, a0), (1, a1), (4, a4), (12, a12), (13, x7), (14, .top)]) S))
  (Q (.exit 0) (mkf 26 [(0, a0), (1, a1), (4, a4), (12, a12), (13, a13), (14, x1)]) S)
theorem e106_0 (cf : CallF) (a0 : D) (a1 : D) (a4 : D) (a12 : D) (a13 : D) (a14 : D) (S : Store) (Q : Ex → List D → Store → Prop) : wp cf c106_0 (fkill (mkf 26 [(0, a0), (1, a1), (4, a4), (12, a12), (13, a13), (14, a14)]) []) S Q = s106_0 cf a0 a1 a4 a12 a13 a14 S Q := wpS_of (by kernel_rfl)
def s106 (cf : CallF) (a0 : D) (a1 : D) (S : Store) (Post : D → Store → Prop) : Prop :=
  OX (lenD false a0) fun x8 =>
  OX (lenD false a1) fun x9 =>
  OX (binD .neq .num x8 x9) fun x10 =>
  WB x10
  (Post (.b false) S)
  (OX (lenD false a0) fun x11 =>
  W cf (.loop [] c106_0) (mkf 26 [(0, a0), (1, a1), (4, .top), (12, x11), (13, (.i .i64 0)), (14, .top)]) S (Qblk 0 (QS cf c106_r0 (FinK [.t 4] Post))))
theorem e106 (cf : CallF) (a0 : D) (a1 : D) (S : Store) (Post : D → Store → Prop) : wp cf c106 (frame0 d106 [a0, a1]) S (FinK d106.res Post) = s106 cf a0 a1 S Post := wpS_of (by kernel_rfl)
theorem i106 (a0 : D) (a1 : D) (r : D) (ha : noRefL (stripL [a0, a1]) = true) (hr : noRef r = true) (h : s106 (call dp) (strip a0) (strip a1) [] fun d _ => stripT d = r) : isoCall (call dp) 106 [a0, a1] = some r := iso_s (f := d106) rfl ⟨rfl, by decide⟩ ha hr (by rw [← e106] at h; exact h)
end Go.Proofs.YtjniafcnjbbomaaGreatDoor.DE

namespace Go.Proofs.YtjniafcnjbbomaaGreatDoor.DE.V
open Go NL

theorem ld_el1 (S : Store) (x : D) : ldD S 1 false (.el [x] 0) = some x := (rfl)
theorem lss_nat {k : IntKind} (a b : Nat) : binD .lss .num (.i k a) (.i k b) = some (.b (decide (a < b))) := by rw [bin_lss]; simp
theorem geq_nat {k : IntKind} (a b : Nat) : binD .geq .num (.i k a) (.i k b) = some (.b (decide (b ≤ a))) := by rw [bin_geq]; simp
theorem inc_nat {a : Nat} (h : Bd a) : binD .add .num (.i .i64 a) (.i .i64 1) = some (.i .i64 ((a + 1 : Nat) : Int)) := by rw [bin_add, wrapS h]
theorem add_nat {a b : Nat} (h : a + b < 9223372036854775808) : binD .add .num (.i .i64 a) (.i .i64 b) = some (.i .i64 ((a + b : Nat) : Int)) := by
  rw [bin_add, ← Int.natCast_add, wrapN h]
theorem sub_nat {a b : Nat} (h : b ≤ a) (ha : a < 9223372036854775808) : binD .sub .num (.i .i64 a) (.i .i64 b) = some (.i .i64 ((a - b : Nat) : Int)) := by
  rw [bin_sub, show ((a : Int) - b) = ((a - b : Nat) : Int) by omega, wrapN (by omega)]
theorem OX_tt (K : D → Prop) : OX (some (.b true)) K = K (.b true) := rfl
theorem OX_ff (K : D → Prop) : OX (some (.b false)) K = K (.b false) := rfl

/-! ### Add -/
theorem add_step {P O A C c x y : Nat} (h : O + P * c = A + C) : O + P * ((x + y + c) % B) + P * B * ((x + y + c) / B) = A + P * x + (C + P * y) := by
  have h1 := Nat.mod_add_div (x + y + c) B
  have h2 := congrArg (P * ·) h1
  simp only [Nat.mul_add] at h2
  rw [Nat.mul_assoc]
  omega

/-! ### Sub -/
theorem sub_step {P O A C c x y d w : Nat} (h : O + C = A + P * c) (hd : d + y + c = x + B * w) : O + P * d + (C + P * y) = A + P * x + P * B * w := by
  have h2 := congrArg (P * ·) hd
  simp only [Nat.mul_add] at h2
  rw [Nat.mul_assoc]
  omega

def J161 (nl nl' : Bool) (a b : List Nat) (n : Nat) : Nat → List D → Store → Prop := fun q fr S => ∃ i c out a4 a5 a33, q = n - i ∧ i ≤ n ∧ c ≤ 1 ∧ List.length out = n ∧ Lim out ∧ (∀ j, i ≤ j → dg out j = 0) ∧
  val out + val (b.take i) = val (a.take i) + B ^ i * c ∧ S = [.box (eCells out), .box [eLims nl' b .ro], .box [eLims nl a .ro]] ∧
  fr = mkf 54 [(4, a4), (5, a5), (6, .fn 221 [.bx 0 0]), (7, .fn 221 [.bx 1 0]), (8, .ar 1 2 0 n), (9, .i .u32 c), (33, .i .i64 n), (34, .i .i64 i), (35, a33)]

theorem sgn_lt (x y : Nat) : decide (sgn x y < 0) = decide (x < y) := by
  unfold sgn
  by_cases h : x < y
  · simp [h]
  · rw [if_neg h]
    by_cases h2 : x = y <;> simp [h, h2]

theorem len_le_of_val {a b : List Nat} (la : Lim a) (hb : NL.Can b) (h : val b ≤ val a) : b.length ≤ a.length := by
  rcases Nat.lt_or_ge a.length b.length with q | q
  · have := lt_len la hb q; omega
  · exact q

theorem v161 (nl nl' : Bool) (a b : List Nat) (ha : VN a) (hb : VN b) (la : Lim a) (lb : Lim b) :
    isoCall (call dp) 161 [eLims nl a .ro, eLims nl' b .ro] = some (if val b ≤ val a then .tup [eLims false (ofN (val a - val b)) .ro, .b true] else .tup [.sl 1 true [] .ro, .b false]) := by
  have h1 := ha.1
  have h2 := hb.1
  apply i161 _ _ _ (by simp [noRefL]) (by split <;> simp [noRef, noRefL, noRefLL])
  have hba : Bd a.length := by unfold Bd; omega
  have hbb : Bd b.length := by unfold Bd; omega
  have mk := fun S => mksl_lims (S := S) (n := a.length) (by unfold maxLenD; omega)
  have h0 : binD .lss .num (.i .i64 (sgn (val a) (val b))) (.i .i64 0) = some (.b (decide (val a < val b))) := by rw [bin_lss, sgn_lt]
  simp only [s161, strip_lims, v105 nl a hba, v105 nl' b hbb, ha, hb, decide_true, OX_some, un_not, Bool.not_true, gsel_ff, pick_f, v82 nl nl' a b ha hb la lb, h0]
  by_cases hle : val b ≤ val a
  · have hnlt : ¬ val a < val b := by omega
    have hlen : b.length ≤ a.length := len_le_of_val la (hb.can lb) hle
    simp only [hle, hnlt, if_true, decide_false, WB_false, v141, OX_some, len_lims, mk, len_ar, List.length_cons, List.length_nil]
    refine W_loop (J161 nl nl' a b a.length) ?_ a.length _ _ ⟨0, 0, _, _, _, _, by omega, by omega, by omega, List.length_replicate, lim_zeros _, fun j _ => dg_zeros _ j, by rw [val_zeros]; simp [val], rfl, rfl⟩
    rintro q fr S ⟨i, c, out, a4, a5, a33, rfl, hin, hc, lo, hL, hz, he, rfl, rfl⟩
    rw [← wp_W, e161_0]
    have l1 : sget [Ent.box (eCells out), .box [eLims nl' b .ro], .box [eLims nl a .ro]] 0 = some (.box [eLims nl a .ro]) := rfl
    have l2 : sget [Ent.box (eCells out), .box [eLims nl' b .ro], .box [eLims nl a .ro]] 1 = some (.box [eLims nl' b .ro]) := rfl
    have l3 : sget [Ent.box (eCells out), .box [eLims nl' b .ro], .box [eLims nl a .ro]] 2 = some (.box (eCells out)) := rfl
    by_cases hlt : i < a.length
    · have hst := fun x => st_cells (x := x) l3 (i := i) (by omega)
      have hia := ia_ar (id := 2) (o := 0) (n := a.length) (k := .i64) (i := i) hlt
      simp only [s161_0, lss_nat, hlt, decide_true, OX_tt, OX_some, WB_true, fnD_fn, List.cons_append, List.nil_append, v221 nl a i 0 _ l1, v221 nl' b i 1 _ l2, v243 (dg_lt la i) (dg_lt lb i) hc, ext_eq, List.getElem?_cons_zero, List.getElem?_cons_succ, hia, Nat.zero_add, hst, inc_nat (show Bd i by unfold Bd; omega), Qseq_normal]
      refine ⟨a.length - (i + 1), by omega, i + 1, _, out.set i _, _, _, _, rfl, by omega, borL_le _ _ _, by simpa using lo, lim_set hL (difL_lt _ _ _), ?_, ?_, rfl, rfl⟩
      · intro j hj
        rw [dg_set_ne (by omega)]
        exact hz j (by omega)
      · rw [vt_succ, vt_succ, val_set0 _ (by omega) (hz i (Nat.le_refl i)), Nat.pow_succ]
        exact sub_step he (difL_eq (dg_lt la i) (dg_lt lb i) hc)
    · have : i = a.length := by omega
      subst this
      have hv : val out = val a - val b := by
        rw [vt_full hlen, vt_full (Nat.le_refl _)] at he
        have e1 := val_lt hL
        rw [lo] at e1
        have : c = 0 ∨ c = 1 := by omega
        rcases this with h | h
        · subst h; omega
        · subst h; omega
      have hf := fz_lims l3
      rw [lo] at hf
      have h146 := v146 false out hL (by unfold Bd; omega)
      rw [hv] at h146
      simp only [s161_0, lss_nat, hlt, decide_false, OX_ff, OX_some, WB_false, Qseq_exit, Qblk_same, QS_normal, e161_r0, s161_r0, hf, h146]
      simp
  · have hlt : val a < val b := by omega
    simp only [hle, hlt, if_false, decide_true, WB_true]
    rfl

end Go.Proofs.YtjniafcnjbbomaaGreatDoor.DE.V

namespace Go.Proofs.YtjniafcnjbbomaaGreatDoor.DE.V
open Go NL

/-! ### Mul -/
theorem mul_bound {x y o c : Nat} (hx : x < B) (hy : y < B) (ho : o < B) (hc : c < B) : x * y + o + c < B * B := by
  have h1 : x * y ≤ (B - 1) * (B - 1) := Nat.mul_le_mul (by omega) (by omega)
  simp only [B] at *
  omega
theorem mul_step {P O O' A X y o c t I C k : Nat} (h : O + P * c = A + I * X * C) (hO : O' + P * o = O + P * (t % B)) (ht : t = X * y + o + c) (hP : P = I * k) : O' + P * B * (t / B) = A + I * X * (C + k * y) := by
  have h1 := Nat.mod_add_div t B
  have h2 := congrArg (P * ·) h1
  simp only [Nat.mul_add] at h2
  rw [Nat.mul_assoc]
  have h3 : P * t = P * (X * y) + P * o + P * c := by rw [ht, Nat.mul_add, Nat.mul_add]
  have h4 : I * X * (C + k * y) = I * X * C + P * (X * y) := by
    rw [hP, Nat.mul_add]
    congr 1
    generalize C = z at *
    rw [Nat.mul_assoc, Nat.mul_assoc, ← Nat.mul_assoc X, Nat.mul_comm X k, Nat.mul_assoc k]
  omega

def J70 (nl nl' : Bool) (a b : List Nat) (n : Nat) : Nat → List D → Store → Prop := fun q fr S => ∃ i out a4 a5 a7 a8 a28 a31 a32 a33, q = a.length - i ∧ i ≤ a.length ∧ List.length out = n ∧ Lim out ∧ (∀ j, i + b.length ≤ j → dg out j = 0) ∧
  val out = val (a.take i) * val b ∧ S = [.box (eCells out)] ∧
  fr = mkf 79 [(0, eLims nl a .ro), (1, eLims nl' b .ro), (4, a4), (5, a5), (6, .ar 1 0 0 n), (7, a7), (8, a8), (26, .i .i64 a.length), (27, .i .i64 i), (28, a28), (31, a31), (32, a32), (33, a33)]
def K70 (nl nl' : Bool) (a b : List Nat) (n i : Nat) : Nat → List D → Store → Prop := fun q fr S => ∃ j out c a4 a5 a28 a33, q = b.length - j ∧ j ≤ b.length ∧ c < B ∧ List.length out = n ∧ Lim out ∧ (∀ j, i + b.length ≤ j → dg out j = 0) ∧
  val out + B ^ (i + j) * c = val (a.take i) * val b + B ^ i * dg a i * val (b.take j) ∧ S = [.box (eCells out)] ∧
  fr = mkf 79 [(0, eLims nl a .ro), (1, eLims nl' b .ro), (4, a4), (5, a5), (6, .ar 1 0 0 n), (7, .i .i64 i), (8, .i .u64 c), (26, .i .i64 a.length), (27, .i .i64 i), (28, a28), (31, .i .i64 b.length), (32, .i .i64 j), (33, a33)]

theorem v70 (nl nl' : Bool) (a b : List Nat) (ha : VN a) (hb : VN b) (la : Lim a) (lb : Lim b) :
    isoCall (call dp) 70 [eLims nl a .ro, eLims nl' b .ro] = some (if Lt128 (val a * val b) then .tup [eLims false (ofN (val a * val b)) .ro, .i .i64 0] else .tup [.sl 1 true [] .ro, .i .i64 6]) := by
  have h1 := ha.1
  have h2 := hb.1
  apply i70 _ _ _ (by simp [noRefL]) (by split <;> simp [noRef, noRefL, noRefLL])
  have hba : Bd a.length := by unfold Bd; omega
  have hbb : Bd b.length := by unfold Bd; omega
  have mk := fun S => mksl_lims (S := S) (n := a.length + b.length) (by unfold maxLenD; omega)
  simp only [s70, strip_lims, v105 nl a hba, v105 nl' b hbb, ha, hb, decide_true, OX_some, un_not, Bool.not_true, gsel_ff, pick_f, WB_false, len_lims, add_nat (show a.length + b.length < 9223372036854775808 by omega), mk, List.length_nil]
  generalize hn : a.length + b.length = n at *
  refine W_loop (J70 nl nl' a b n) ?_ a.length _ _ ⟨0, _, _, _, _, _, _, _, _, _, by omega, by omega, List.length_replicate, lim_zeros n, fun j _ => dg_zeros n j, by rw [val_zeros]; simp [val], rfl, rfl⟩
  rintro q fr S ⟨i, out, a4, a5, a7, a8, a28, a31, a32, a33, rfl, hin, lo, hL, hz, he, rfl, rfl⟩
  rw [← wp_W, e70_1]
  by_cases hlt : i < a.length
  · simp only [s70_1, lss_nat, hlt, decide_true, OX_tt, WB_true, len_lims, OX_some]
    refine W_loop (K70 nl nl' a b n i) ?_ b.length _ _ ⟨0, out, 0, _, _, _, _, by omega, by omega, by decide, lo, hL, hz, by rw [he]; simp [val], rfl, rfl⟩
    rintro q fr S ⟨j, out, c, a4, a5, a28, a33, rfl, hjn, hc, lo, hL, hz, he, rfl, rfl⟩
    rw [← wp_W, e70_0]
    have l0 : sget [Ent.box (eCells out)] 0 = some (.box (eCells out)) := rfl
    by_cases hjl : j < b.length
    · have hx := dg_lt la i
      have hy := dg_lt lb j
      have ho := dg_lt hL (i + j)
      have hbd := mul_bound hx hy ho hc
      have hBB : B * B = 18446744073709551616 := rfl
      have hq : (dg a i * dg b j + dg out (i + j) + c) / B < B := by
        rw [Nat.div_lt_iff_lt_mul B_pos]; exact hbd
      simp only [s70_0, lss_nat, hjl, decide_true, OX_tt, OX_some, WB_true, ia_lims hlt, ia_lims hjl, ld_el1, conv64B hx, conv64B hy, mul64 (show dg a i * dg b j < 18446744073709551616 by omega),
        add_nat (show i + j < 9223372036854775808 by omega), ia_ar (show i + j < n by omega), Nat.zero_add, ld_cells l0 (show i + j < out.length by omega), conv64B ho, add64 (show dg a i * dg b j + dg out (i + j) < 18446744073709551616 by omega), add64 (show dg a i * dg b j + dg out (i + j) + c < 18446744073709551616 by omega),
        conv32m, shr32, st_cells l0 (show i + j < out.length by omega), inc_nat (show Bd j by unfold Bd; omega), Qseq_normal]
      refine ⟨b.length - (j + 1), by omega, j + 1, out.set (i + j) _, _, _, _, _, _, rfl, by omega, hq, by simpa using lo, lim_set hL (Nat.mod_lt _ B_pos), ?_, ?_, rfl, rfl⟩
      · intro k hk
        rw [dg_set_ne (by omega)]
        exact hz k hk
      · rw [vt_succ, ← Nat.add_assoc, Nat.pow_succ]
        exact mul_step he (val_set _ (by omega)) rfl (Nat.pow_add _ _ _)
    · have : j = b.length := by omega
      subst this
      simp only [s70_0, lss_nat, hjl, decide_false, OX_ff, WB_false, Qseq_exit, Qblk_same, QS_normal, e70_r0, s70_r0, len_lims, OX_some, add_nat (show i + b.length < 9223372036854775808 by omega), ia_ar (show i + b.length < n by omega), Nat.zero_add, conv32 hc,
        st_cells l0 (show i + b.length < out.length by omega), Qblk_normal, e70_r1, s70_r1, inc_nat (show Bd i by unfold Bd; omega), Qseq_normal]
      refine ⟨a.length - (i + 1), by omega, i + 1, out.set (i + b.length) c, _, _, _, _, _, _, _, _, rfl, by omega, by simpa using lo, lim_set hL hc, ?_, ?_, rfl, rfl⟩
      · intro k hk
        rw [dg_set_ne (by omega)]
        exact hz k (by omega)
      · rw [val_set0 _ (by omega) (hz _ (Nat.le_refl _)), he, vt_succ, vt_full (Nat.le_refl _), Nat.add_mul]
  · have : i = a.length := by omega
    subst this
    have l0 : sget [Ent.box (eCells out)] 0 = some (.box (eCells out)) := rfl
    have hf := fz_lims l0
    rw [lo] at hf
    rw [vt_full (Nat.le_refl _)] at he
    have h134 := v134 false out hL (by unfold Bd; omega)
    rw [he] at h134
    simp only [s70_1, lss_nat, hlt, decide_false, OX_ff, OX_some, WB_false, Qseq_exit, Qblk_same, QS_normal, e70_r2, s70_r2, hf, h134]
    by_cases hq : Lt128 (val a * val b)
    · simp only [hq, if_true, OX_some, ext_eq, List.getElem?_cons_zero, List.getElem?_cons_succ]
      simp
    · simp only [hq, if_false, OX_some, ext_eq, List.getElem?_cons_zero, List.getElem?_cons_succ]
      simp [strip]

/-! ### byLimb -/
def J154 (nl : Bool) (a : List Nat) (d : Nat) : Nat → List D → Store → Prop := fun q fr S => ∃ out a4 a5 a16, q ≤ a.length ∧ List.length out = a.length ∧ Lim out ∧ (∀ j, j < q → dg out j = 0) ∧
  val out = B ^ q * (val (a.drop q) / d) ∧ S = [.box (eCells out)] ∧
  fr = mkf 43 [(0, eLims nl a .ro), (1, .i .u32 d), (4, a4), (5, a5), (6, .ar 1 0 0 a.length), (7, .i .u64 (val (a.drop q) % d : Nat)), (8, .i .i64 ((q : Int) - 1)), (16, a16)]

theorem v154 (nl : Bool) (a : List Nat) (d : Nat) (la : Lim a) (hb : a.length ≤ 1000) (hd : 0 < d) (hdB : d < B) :
    isoCall (call dp) 154 [eLims nl a .ro, .i .u32 d] = some (.tup [eLims false (ofN (val a / d)) .ro, .i .u32 (val a % d : Nat)]) := by
  apply i154 _ _ _ (by simp [noRefL]) (by simp [noRef, noRefL])
  have mk := fun S => mksl_lims (S := S) (n := a.length) (by unfold maxLenD; omega)
  simp only [s154, strip_lims, strip_i, len_lims, OX_some, mk, bin_sub, List.length_nil]
  rw [wrap64 ⟨by omega, by omega⟩]
  refine W_loop (J154 nl a d) ?_ a.length _ _ ⟨_, _, _, _, Nat.le_refl _, List.length_replicate, lim_zeros _, fun j _ => dg_zeros _ j, by rw [val_zeros, List.drop_length]; simp [val], rfl, by simp only [List.drop_length, val, Nat.zero_mod]; rfl⟩
  rintro q fr S ⟨out, a4, a5, a16, hq, lo, hL, hz, he, rfl, rfl⟩
  rw [← wp_W, e154_0]
  have l0 : sget [Ent.box (eCells out)] 0 = some (.box (eCells out)) := rfl
  by_cases h0 : q = 0
  · subst h0
    rw [List.drop_zero] at he ⊢
    simp only [Nat.pow_zero, Nat.one_mul] at he
    have hf := fz_lims l0
    rw [lo] at hf
    have h146 := v146 false out hL (by unfold Bd; omega)
    rw [he] at h146
    have hr : val a % d < B := Nat.lt_trans (Nat.mod_lt _ hd) hdB
    have hg : binD .geq .num (.i .i64 (((0 : Nat) : Int) - 1)) (.i .i64 0) = some (.b false) := by rw [bin_geq]; rfl
    simp only [s154_0, hg, OX_some, WB_false, Qseq_exit, Qblk_same, QS_normal, e154_r0, s154_r0, hf, h146, conv32 hr]
    simp
  · obtain ⟨k, rfl⟩ : ∃ k, q = k + 1 := ⟨q - 1, by omega⟩
    have e1 : ((k + 1 : Nat) : Int) - 1 = k := by omega
    have hka : k < a.length := by omega
    have hg : binD .geq .num (.i .i64 (k : Int)) (.i .i64 0) = some (.b true) := by rw [bin_geq]; simp
    have hx := dg_lt la k
    have hr : val (a.drop (k + 1)) % d < d := Nat.mod_lt _ hd
    have hrB : val (a.drop (k + 1)) % d < B := Nat.lt_trans hr hdB
    have hq := byLimb_lt hr hx
    have hvd : val (a.drop k) = dg a k + B * val (a.drop (k + 1)) := by rw [drop_dg hka]; rfl
    have hs := byLimb_step (X := val (a.drop (k + 1))) (d := d) (x := dg a k) hd
    rw [← hvd] at hs
    have hlt : val (a.drop (k + 1)) % d * B + dg a k < 18446744073709551616 := by
      generalize val (a.drop (k + 1)) % d = r at *
      simp only [B] at *; omega
    have hw : IntKind.i64.wrap ((k : Int) - 1) = (k : Int) - 1 := wrap64 ⟨by omega, by omega⟩
    simp only [e1, s154_0, hg, OX_some, WB_true, shl32 hrB, ia_lims hka, ld_el1, conv64B hx, orB hrB hx, conv64B hdB, quo64 hd hlt, conv32 hq, rem64 hd, ia_ar hka, Nat.zero_add, st_cells l0 (show k < out.length by omega), bin_sub, hw, Qseq_normal]
    refine ⟨k, by omega, out.set k _, a4, a5, .top, by omega, by simpa using lo, lim_set hL hq, ?_, ?_, rfl, ?_⟩
    · intro j hj
      rw [dg_set_ne (by omega)]
      exact hz j (by omega)
    · rw [val_set0 _ (by omega) (hz k (by omega)), he, hs.1, Nat.mul_add, Nat.pow_succ, Nat.mul_assoc]; omega
    · rw [hs.2]

/-! ### Clone, Equal -/
theorem bin_nil_lims (nl : Bool) (l : List Nat) (o o' : Own) : binD .eql .sl (eLims nl l o) (.sl 1 true [] o') = some (.b nl) := (rfl)

theorem v110 (nl : Bool) (a : List Nat) (hn : nl = true → a = []) (hb : a.length ≤ 1000) : isoCall (call dp) 110 [eLims nl a .ro] = some (eLims nl a .ro) := by
  apply i110 _ _ (by simp [noRefL]) (by simp)
  simp only [s110, strip_lims, bin_nil_lims, OX_b, WB_b]
  cases nl with
  | true => simp [hn rfl, eLims]; rfl
  | false =>
    have h : (List.map (fun n : Nat => [D.i .u32 (n : Int)]) a).length ≤ maxLenD := by
      rw [List.length_map]; unfold maxLenD; omega
    have e := app_cap0 (k := 1) (n := false) (n' := false) (ys := List.map (fun n : Nat => [D.i .u32 (n : Int)]) a) (o := .ro) (S := []) h
    have e' : appD 1 false (D.sl 1 false [] .cap0) (eLims false a .ro) [] = _ := e
    simp only [Bool.false_eq_true, if_false, cellsV_nil, OX_some, bslO_nil, e', WB_false]
    by_cases ha : a = []
    · subst ha; rfl
    · rw [if_neg (by simpa using ha)]; rfl

def J106 (nl nl' : Bool) (a b : List Nat) : Nat → List D → Store → Prop := fun q fr S => ∃ i a4 a14, q = b.length - i ∧ i ≤ b.length ∧ a.take i = b.take i ∧ S = [] ∧
  fr = mkf 26 [(0, eLims nl a .ro), (1, eLims nl' b .ro), (4, a4), (12, .i .i64 b.length), (13, .i .i64 i), (14, a14)]
theorem v106 (nl nl' : Bool) (a b : List Nat) (ha : Bd a.length) : isoCall (call dp) 106 [eLims nl a .ro, eLims nl' b .ro] = some (.b (decide (a = b))) := by
  apply i106 _ _ _ (by simp [noRefL]) rfl
  simp only [s106, strip_lims, len_lims, OX_some, bin_neq]
  by_cases hl : a.length = b.length
  · have hl' : (a.length : Int) = b.length := by omega
    have hd : (!decide ((a.length : Int) = b.length)) = false := by simp [hl']
    simp only [hd, WB_false, hl', OX_some]
    refine W_loop (J106 nl nl' a b) ?_ b.length _ _ ⟨0, .top, .top, by omega, by omega, by simp, rfl, rfl⟩
    rintro q fr S ⟨i, a4, a14, rfl, hi, he, rfl, rfl⟩
    rw [← wp_W, e106_0]
    by_cases hlt : i < b.length
    · simp only [s106_0, lss_nat, hlt, decide_true, OX_tt, OX_some, WB_true, ia_lims hlt, ia_lims (show i < a.length by omega), ld_el1, bin_neq]
      by_cases hd : dg a i = dg b i
      · have : (!decide (((dg a i : Nat) : Int) = (dg b i : Nat))) = false := by simp [hd]
        simp only [this, WB_false, inc_nat (show Bd i by unfold Bd at *; omega), OX_some, Qseq_normal]
        exact ⟨b.length - (i + 1), by omega, i + 1, a4, .top, rfl, by omega, take_next he (get_dg (by omega)) (by rw [hd]; exact get_dg hlt), rfl, rfl⟩
      · have h2 : ¬ ((dg a i : Nat) : Int) = (dg b i : Nat) := by omega
        have : (!decide (((dg a i : Nat) : Int) = (dg b i : Nat))) = true := by simp [h2]
        have hne : ¬ a = b := by rintro rfl; exact hd rfl
        simp [this, hne]
    · have : a = b := take_full he (by omega) (by omega)
      subst this
      simp only [s106_0, lss_nat, hlt, decide_false, OX_ff, WB_false, Qseq_exit, Qblk_same, QS_normal, e106_r0, s106_r0]
      simp
  · have hl' : ¬ (a.length : Int) = b.length := by omega
    have hd : (!decide ((a.length : Int) = b.length)) = true := by simp [hl']
    have hne : ¬ a = b := by rintro rfl; exact hl rfl
    simp only [hd, WB_true, hne, decide_false, stripT_b]

end Go.Proofs.YtjniafcnjbbomaaGreatDoor.DE.V

namespace Go.Proofs.YtjniafcnjbbomaaGreatDoor.DE.V
open Go NL

theorem take_of_lt {l : List Nat} (h : Lim l) {k : Nat} (hk : k ≤ l.length) (hv : val l < B ^ k) : val (l.take k) = val l := by
  have e := val_take_drop l k hk
  have d := val_drop h k
  rw [Nat.div_eq_of_lt hv] at d
  rw [d] at e
  omega

def J213 (nl : Bool) (a : List Nat) (s : Nat) (S : Store) : Nat → List D → Store → Prop := fun q fr S' => ∃ i out a4 a15, q = a.length - i ∧ i ≤ a.length ∧ List.length out = a.length + 1 ∧ Lim out ∧ (∀ j, i < j → dg out j = 0) ∧ dg out i < 2 ^ s ∧
  val out = val (a.take i) * 2 ^ s ∧ S' = .box (eCells out) :: S ∧
  fr = mkf 41 [(0, eLims nl a .ro), (1, .i .i64 s), (4, a4), (5, .ar 1 S.length 0 (a.length + 1)), (13, .i .i64 a.length), (14, .i .i64 i), (15, a15)]

theorem left_step {P O O1 O2 c w V x t : Nat} (h : O = V * t) (h1 : O1 + P * c = O + P * (c + w % B)) (h2 : O2 = O1 + P * B * (w / B)) (hw : w = x * t) : O2 = (V + P * x) * t := by
  have e1 := Nat.mod_add_div w B
  have e2 := congrArg (P * ·) e1
  simp only [Nat.mul_add] at e2 h1
  rw [Nat.mul_assoc] at h2
  rw [Nat.add_mul, Nat.mul_assoc, ← hw]
  omega

theorem left_loop (nl : Bool) (a : List Nat) (s : Nat) (S : Store) (la : Lim a) (hb : a.length ≤ 1000) (hs : s < 32) (Q : Ex → List D → Store → Prop)
    (hQ : ∀ out a4 a13 a14 a15, List.length out = a.length + 1 → Lim out → val out = val a * 2 ^ s → Q .normal (mkf 41 [(0, eLims nl a .ro), (1, .i .i64 s), (4, a4), (5, .ar 1 S.length 0 (a.length + 1)), (13, a13), (14, a14), (15, a15)]) (.box (eCells out) :: S)) :
    W (call dp) (.loop [] c213_0) (mkf 41 [(0, eLims nl a .ro), (1, .i .i64 s), (4, .top), (5, .ar 1 S.length 0 (a.length + 1)), (13, .i .i64 a.length), (14, .i .i64 0), (15, .top)]) (.box (eCells (List.replicate (a.length + 1) 0)) :: S) (Qblk 0 Q) := by
  have hps := Nat.two_pow_pos s
  refine W_loop (J213 nl a s S) ?_ a.length _ _ ⟨0, _, .top, .top, by omega, by omega, List.length_replicate, lim_zeros _, fun j _ => dg_zeros _ j, by rw [dg_zeros]; exact hps, by rw [val_zeros]; simp [val], rfl, rfl⟩
  rintro q fr S' ⟨i, out, a4, a15, rfl, hi, lo, hL, hz, hc, he, rfl, rfl⟩
  rw [← wp_W, e213_0]
  by_cases hlt : i < a.length
  · have hx := dg_lt la i
    have hp32 : 2 ^ s ≤ 2147483648 := by
      have := Nat.pow_le_pow_right (show 0 < 2 by decide) (show s ≤ 31 by omega)
      simpa using this
    have hw : dg a i * 2 ^ s < 18446744073709551616 := by
      have := Nat.mul_le_mul (Nat.le_of_lt hx) hp32
      simp only [B] at this; omega
    have hhi := left_hi (s := s) hx
    have hhB : dg a i * 2 ^ s / B < B := by simp only [B] at *; omega
    have hor := left_or (x := dg a i) hs hc
    have l0 : sget (Ent.box (eCells out) :: S) S.length = some (.box (eCells out)) := sget_top _ _
    have l1 : sget (Ent.box (eCells (out.set i (dg out i + dg a i * 2 ^ s % B))) :: S) S.length = some (.box (eCells (out.set i (dg out i + dg a i * 2 ^ s % B)))) := sget_top _ _
    have ho := or32 (dg_lt hL i) (Nat.mod_lt (dg a i * 2 ^ s) B_pos)
    rw [hor.1] at ho
    simp only [s213_0, lss_nat, hlt, decide_true, OX_tt, OX_some, WB_true, ia_lims hlt, ld_el1, conv64B hx, shl_any (k' := .i64) (show s ≤ 64 by omega) hw, ia_ar (show i < a.length + 1 by omega), Nat.zero_add,
      ld_cells l0 (show i < out.length by omega), conv32m, ho, st_cells l0 (show i < out.length by omega), sset_top, inc_nat (show Bd i by unfold Bd; omega), shr32, ia_ar (show i + 1 < a.length + 1 by omega), Nat.mod_eq_of_lt hhB,
      st_cells l1 (show i + 1 < (out.set i (dg out i + dg a i * 2 ^ s % B)).length by rw [List.length_set]; omega), Qseq_normal]
    refine ⟨a.length - (i + 1), by omega, i + 1, (out.set i (dg out i + dg a i * 2 ^ s % B)).set (i + 1) (dg a i * 2 ^ s / B), a4, .top, rfl, by omega, by simpa using lo, lim_set (lim_set hL hor.2) hhB, ?_, ?_, ?_, rfl, rfl⟩
    · intro j hj
      rw [dg_set_ne (by omega), dg_set_ne (by omega)]
      exact hz j (by omega)
    · rw [dg_set (by rw [List.length_set]; omega)]
      exact hhi
    · rw [vt_succ]
      refine left_step he (val_set _ (by omega)) ?_ rfl
      rw [val_set0 _ (by rw [List.length_set]; omega) (by rw [dg_set_ne (by omega)]; exact hz _ (by omega)), Nat.pow_succ]
  · have : i = a.length := by omega
    subst this
    rw [vt_full (Nat.le_refl _)] at he
    simp only [s213_0, lss_nat, hlt, decide_false, OX_ff, WB_false, Qseq_exit, Qblk_same]
    exact hQ out a4 _ _ _ lo hL he

theorem v213 (nl : Bool) (a : List Nat) (s : Nat) (la : Lim a) (hb : a.length ≤ 1000) (hs : s < 32) :
    ∃ out, isoCall (call dp) 213 [eLims nl a .ro, .i .i64 s] = some (eLims false out .ro) ∧ out.length = a.length + 1 ∧ Lim out ∧ val out = val a * 2 ^ s := by
  obtain ⟨r, e, out, rfl, h1, h2, h3⟩ := j213 (eLims nl a .ro) (.i .i64 s) (fun d => ∃ out, d = eLims false out .ro ∧ out.length = a.length + 1 ∧ Lim out ∧ val out = val a * 2 ^ s) (by simp [noRefL]) (by rintro _ ⟨out, rfl, _⟩; simp) (by
    simp only [s213, strip_lims, strip_i, len_lims, OX_some, inc_nat (show Bd a.length by unfold Bd; omega), mksl_lims (S := []) (n := a.length + 1) (show a.length + 1 ≤ maxLenD by unfold maxLenD; omega)]
    refine left_loop nl a s [] la hb hs _ ?_
    intro out a4 a13 a14 a15 lo hL hv
    have hf := fz_lims (sget_top (Ent.box (eCells out)) [])
    rw [lo] at hf
    simp only [QS_normal, e213_r0, s213_r0, hf, OX_some]
    simp
    exact ⟨out, rfl, lo, hL, hv⟩)
  exact ⟨out, e, h1, h2, h3⟩

theorem v1213 (nl : Bool) (a : List Nat) (s : Nat) (S : Store) (la : Lim a) (hb : a.length ≤ 1000) (hs : s < 32) :
    ∃ out, call dp 1213 [eLims nl a .ro, .i .i64 s] S = some (.ar 1 S.length 0 (a.length + 1), .box (eCells out) :: S) ∧ out.length = a.length + 1 ∧ Lim out ∧ val out = val a * 2 ^ s := by
  obtain ⟨r, S', e, out, rfl, rfl, h1, h2, h3⟩ := f1213 (eLims nl a .ro) (.i .i64 s) S (fun d S' => ∃ out, d = .ar 1 S.length 0 (a.length + 1) ∧ S' = .box (eCells out) :: S ∧ out.length = a.length + 1 ∧ Lim out ∧ val out = val a * 2 ^ s) (by
    simp only [s1213, len_lims, OX_some, inc_nat (show Bd a.length by unfold Bd; omega), mksl_lims (S := S) (n := a.length + 1) (show a.length + 1 ≤ maxLenD by unfold maxLenD; omega)]
    refine left_loop nl a s S la hb hs _ ?_
    intro out a4 a13 a14 a15 lo hL hv
    simp only [QS_normal, e1213_r0, s1213_r0]
    simp
    exact ⟨out, rfl, lo, hL, hv⟩)
  exact ⟨out, e, h1, h2, h3⟩

/-! ### right -/
def J216 (nl : Bool) (a : List Nat) (s : Nat) : Nat → List D → Store → Prop := fun q fr S' => ∃ i out a4 a14, q = a.length - i ∧ i ≤ a.length ∧ List.length out = a.length ∧ Lim out ∧ (∀ j, j < i → dg out j = val a / 2 ^ s / B ^ j % B) ∧
  S' = [.box (eCells out)] ∧
  fr = mkf 44 [(0, eLims nl a .ro), (1, .i .i64 s), (4, a4), (5, .ar 1 0 0 a.length), (12, .i .i64 a.length), (13, .i .i64 i), (14, a14)]

theorem v216 (nl : Bool) (a : List Nat) (s : Nat) (la : Lim a) (hb : a.length ≤ 1000) (hs : s < 32) :
    ∃ out, isoCall (call dp) 216 [eLims nl a .ro, .i .i64 s] = some (eLims false out .ro) ∧ out.length = a.length ∧ Lim out ∧ val out = val a / 2 ^ s := by
  obtain ⟨r, e, out, rfl, h1, h2, h3⟩ := j216 (eLims nl a .ro) (.i .i64 s) (fun d => ∃ out, d = eLims false out .ro ∧ out.length = a.length ∧ Lim out ∧ val out = val a / 2 ^ s) (by simp [noRefL]) (by rintro _ ⟨out, rfl, _⟩; simp) (by
    simp only [s216, strip_lims, strip_i, len_lims, OX_some, mksl_lims (S := []) (n := a.length) (show a.length ≤ maxLenD by unfold maxLenD; omega), List.length_nil]
    refine W_loop (J216 nl a s) ?_ a.length _ _ ⟨0, _, .top, .top, by omega, by omega, List.length_replicate, lim_zeros _, fun j h => by omega, rfl, rfl⟩
    rintro q fr S' ⟨i, out, a4, a14, rfl, hi, lo, hL, hd, rfl, rfl⟩
    rw [← wp_W, e216_0]
    have l0 : sget [Ent.box (eCells out)] 0 = some (.box (eCells out)) := rfl
    by_cases hlt : i < a.length
    · have hx := dg_lt la i
      have hy := dg_lt la (i + 1)
      have hr := right_dg la hs hlt
      have hst : ∀ x, stD [Ent.box (eCells out)] 1 false (.bx 0 i) (.i .u32 (x : Nat)) = some [.box (eCells (out.set i x))] := fun x => st_cells (x := x) l0 (show i < out.length by omega)
      have fin : ∃ m', m' < a.length - i ∧ J216 nl a s m' (mkf 44 [(0, eLims nl a .ro), (1, .i .i64 s), (4, a4), (5, .ar 1 0 0 a.length), (12, .i .i64 a.length), (13, .i .i64 ((i + 1 : Nat) : Int)), (14, .top)]) [.box (eCells (out.set i ((dg a i + dg a (i + 1) * B) / 2 ^ s % B)))] := by
        refine ⟨a.length - (i + 1), by omega, i + 1, _, a4, .top, rfl, by omega, by simpa using lo, lim_set hL (Nat.mod_lt _ B_pos), ?_, rfl, rfl⟩
        intro j hj
        by_cases hji : j = i
        · subst hji
          rw [dg_set (by omega), hr]
        · rw [dg_set_ne (by omega)]
          exact hd j (by omega)
      have hor := orB hy hx
      rw [show dg a (i + 1) * B + dg a i = dg a i + dg a (i + 1) * B by omega] at hor
      have hor' : binD .or .num (.i .u64 (dg a i : Nat)) (.i .u64 ((dg a (i + 1) * B : Nat) : Int)) = some (.i .u64 ((dg a i + dg a (i + 1) * B : Nat) : Int)) := by
        rw [or64 (by simp only [B] at hx; omega) (by simp only [B] at hy ⊢; omega), B_two, or_add (s := 32) hx]
      have hsh : ∀ v : Nat, binD .shr .num (.i .u64 v) (.i .i64 s) = some (.i .u64 ((v / 2 ^ s : Nat) : Int)) := fun v => shr_any (k := .u64) (k' := .i64) (v := v) (s := s) (by simp only [IntKind.bits]; omega)
      by_cases hl2 : i + 1 < a.length
      · simp only [s216_0, jn, lss_nat, hlt, hl2, decide_true, OX_tt, OX_some, WB_true, ia_lims hlt, ia_lims hl2, ld_el1, conv64B hx, conv64B hy, inc_nat (show Bd i by unfold Bd; omega), len_lims, shl32 hy, hor', hsh, conv32m, ia_ar hlt, Nat.zero_add, hst, Qseq_normal]
        exact fin
      · have hz : dg a (i + 1) = 0 := dg_ge (by omega)
        rw [hz] at fin
        simp only [Nat.zero_mul, Nat.add_zero] at fin
        simp only [s216_0, jn, lss_nat, hlt, hl2, decide_true, decide_false, OX_tt, OX_ff, OX_some, WB_true, WB_false, ia_lims hlt, ld_el1, conv64B hx, inc_nat (show Bd i by unfold Bd; omega), len_lims, hsh, conv32m, ia_ar hlt, Nat.zero_add, hst, Qseq_normal]
        exact fin
    · have : i = a.length := by omega
      subst this
      have hf := fz_lims l0
      rw [lo] at hf
      have hv : val out = val a / 2 ^ s := by
        refine val_digits ?_ (fun j hj => hd j (by omega))
        have := val_lt la
        rw [lo]
        exact Nat.lt_of_le_of_lt (Nat.div_le_self _ _) this
      simp only [s216_0, jn, lss_nat, hlt, decide_false, OX_ff, WB_false, Qseq_exit, Qblk_same, QS_normal, e216_r0, s216_r0, hf, OX_some]
      simp
      exact ⟨out, rfl, lo, hL, hv⟩)
  exact ⟨out, e, h1, h2, h3⟩

end Go.Proofs.YtjniafcnjbbomaaGreatDoor.DE.V

namespace Go.Proofs.YtjniafcnjbbomaaGreatDoor.DE.V
open Go NL

theorem sset_sset {α : Type} (x y : α) : ∀ (S : List α) (id : Nat), sset (sset S id x) id y = sset S id y
  | [], id => rfl
  | e :: S, id => by
    by_cases h : id = S.length
    · simp [sset, h]
    · have h2 : ¬ id = (sset S id x).length := by rw [sset_len]; exact h
      simp [sset, h, h2, sset_sset x y S id]
theorem sset_self {α : Type} {x : α} : ∀ {S : List α} {id : Nat}, sget S id = some x → sset S id x = S
  | [], id, h => by cases h
  | e :: S, id, h => by
    by_cases h1 : id = S.length
    · simp [sget, h1] at h
      simp [sset, h1, h]
    · simp [sget, h1] at h
      simp [sset, h1, sset_self h]

theorem cut3 (O : List Nat) (k n : Nat) : O = O.take k ++ ((O.drop k).take n ++ O.drop (k + n)) := by
  rw [← List.drop_drop, List.take_append_drop, List.take_append_drop]
theorem win_val {O U : List Nat} {k n : Nat} (h1 : O.take k = U.take k) (h2 : O.drop (k + n) = U.drop (k + n)) (lo : O.length = U.length) (hk : k + n ≤ U.length) {X Y : Nat} (h : val O + B ^ k * X = val U + B ^ k * Y) :
    val ((O.drop k).take n) + X = val ((U.drop k).take n) + Y := by
  have e1 := congrArg val (cut3 O k n)
  have e2 := congrArg val (cut3 U k n)
  rw [val_append, val_append, h1, h2] at e1
  rw [val_append, val_append] at e2
  simp only [List.length_take, List.length_drop, Nat.min_eq_left (show k ≤ U.length by omega), Nat.min_eq_left (show n ≤ O.length - k by omega), Nat.min_eq_left (show n ≤ U.length - k by omega)] at e1 e2
  rw [e1, e2] at h
  have : B ^ k * (val ((O.drop k).take n) + X) = B ^ k * (val ((U.drop k).take n) + Y) := by
    simp only [Nat.mul_add] at h ⊢
    omega
  exact Nat.eq_of_mul_eq_mul_left (Bp k) this

theorem take_set_ge {l : List Nat} {i k x : Nat} (h : k ≤ i) : (l.set i x).take k = l.take k := by
  rw [List.take_set, List.set_eq_of_length_le (by rw [List.length_take]; omega)]
theorem drop_set_lt {l : List Nat} {i k x : Nat} (h : i < k) : (l.set i x).drop k = l.drop k := List.drop_set_of_lt h

/-! ### reduce -/
theorem red_step {P O O' A c b q y t old new b' U D k : Nat} (h : O + A * (q * D) = U + P * (b + c)) (hO : O' + P * old = O + P * new) (hn : new + t % B + b = old + B * b') (ht : t = c + q * y) (hP : P = A * k) : O' + A * (q * (D + k * y)) = U + P * B * (b' + t / B) := by
  have h1 := Nat.mod_add_div t B
  have h2 := congrArg (P * ·) h1
  have h3 := congrArg (P * ·) hn
  simp only [Nat.mul_add] at h2 h3 h
  have h4 : P * t = P * c + P * (q * y) := by rw [ht, Nat.mul_add]
  have h5 : A * (q * (D + k * y)) = A * (q * D) + P * (q * y) := by
    rw [hP, Nat.mul_add, Nat.mul_add]
    congr 1
    rw [Nat.mul_assoc A k, Nat.mul_left_comm q k]
  rw [h5, Nat.mul_assoc, Nat.mul_add, Nat.mul_add]
  omega

def J214 (nl : Bool) (U d : List Nat) (k q id : Nat) (S : Store) : Nat → List D → Store → Prop := fun m fr S' => ∃ j O c b a8 a15, m = d.length - j ∧ j ≤ d.length ∧ c < B ∧ b ≤ 1 ∧ List.length O = U.length ∧ Lim O ∧ O.take k = U.take k ∧ O.drop (k + (d.length + 1)) = U.drop (k + (d.length + 1)) ∧
  val O + B ^ k * (q * val (d.take j)) = val U + B ^ (k + j) * (b + c) ∧ S' = sset S id (.box (eCells O)) ∧
  fr = mkf 69 [(0, .ar 1 id 0 U.length), (1, eLims nl d .ro), (2, .i .i64 k), (3, .i .u64 q), (8, a8), (9, .i .u64 c), (10, .i .u32 b), (13, .i .i64 d.length), (14, .i .i64 j), (15, a15)]

theorem v214 (nl : Bool) (U d : List Nat) (k q id : Nat) (S : Store) (hS : sget S id = some (.box (eCells U))) (hU : Lim U) (hd : Lim d) (hq : q < B) (hlen : k + (d.length + 1) ≤ U.length) (hb : U.length ≤ 1000) :
    ∃ w b, call dp 214 [.ar 1 id 0 U.length, eLims nl d .ro, .i .i64 k, .i .u64 q] S = some (.b (decide (b = 1)), sset S id (.box (eCells (U.take k ++ (w ++ U.drop (k + (d.length + 1))))))) ∧
      w.length = d.length + 1 ∧ Lim w ∧ b ≤ 1 ∧ val w + q * val d = val ((U.drop k).take (d.length + 1)) + B ^ (d.length + 1) * b := by
  have hid := sget_lt hS
  obtain ⟨r, S', e, w, b, rfl, rfl, h⟩ := f214 (.ar 1 id 0 U.length) (eLims nl d .ro) (.i .i64 k) (.i .u64 q) S (fun r S' => ∃ w b, r = .b (decide (b = 1)) ∧ S' = sset S id (.box (eCells (U.take k ++ (w ++ U.drop (k + (d.length + 1)))))) ∧
      w.length = d.length + 1 ∧ Lim w ∧ b ≤ 1 ∧ val w + q * val d = val ((U.drop k).take (d.length + 1)) + B ^ (d.length + 1) * b) (by
    simp only [s214, len_lims, OX_some]
    refine W_loop (J214 nl U d k q id S) ?_ d.length _ _ ⟨0, U, 0, 0, .top, .top, by omega, by omega, by decide, by omega, rfl, hU, rfl, rfl, by simp [val], (sset_self hS).symm, rfl⟩
    rintro m fr S' ⟨j, O, c, b, a8, a15, rfl, hj, hc, hb1, lo, hO, ht, hdr, he, rfl, rfl⟩
    rw [← wp_W, e214_0]
    have l0 : sget (sset S id (.box (eCells O))) id = some (.box (eCells O)) := sget_sset _ hid
    by_cases hlt : j < d.length
    · have hx := dg_lt hO (k + j)
      have hy := dg_lt hd j
      have hqy : c + q * dg d j < B * B := by
        have : q * dg d j ≤ (B - 1) * (B - 1) := Nat.mul_le_mul (by omega) (by omega)
        simp only [B] at *; omega
      have hBB : B * B = 18446744073709551616 := rfl
      have hcq : (c + q * dg d j) / B < B := by rw [Nat.div_lt_iff_lt_mul B_pos]; exact hqy
      have hm : (c + q * dg d j) % B < B := Nat.mod_lt _ B_pos
      simp only [s214_0, lss_nat, hlt, decide_true, OX_tt, OX_some, WB_true, ia_lims hlt, ld_el1, conv64B hy, mul64 (show q * dg d j < 18446744073709551616 by omega), add64 (show c + q * dg d j < 18446744073709551616 by omega), add_nat (show k + j < 9223372036854775808 by omega), ia_ar (show k + j < U.length by omega), Nat.zero_add,
        ld_cells l0 (show k + j < O.length by omega), conv32m, v243 hx hm hb1, ext_eq, List.getElem?_cons_zero, List.getElem?_cons_succ, st_cells l0 (show k + j < O.length by omega), sset_sset, shr32, inc_nat (show Bd j by unfold Bd; omega), Qseq_normal]
      refine ⟨d.length - (j + 1), by omega, j + 1, O.set (k + j) _, _, _, a8, .top, rfl, by omega, hcq, borL_le _ _ _, by simpa using lo, lim_set hO (difL_lt _ _ _), ?_, ?_, ?_, rfl, rfl⟩
      · rw [take_set_ge (by omega)]; exact ht
      · rw [drop_set_lt (by omega)]; exact hdr
      · rw [vt_succ, ← Nat.add_assoc, Nat.pow_succ]
        exact red_step he (val_set _ (by omega)) (difL_eq hx hm hb1) rfl (Nat.pow_add _ _ _)
    · have : j = d.length := by omega
      subst this
      have hx := dg_lt hO (k + d.length)
      have hdl := difL_eq hx hc hb1
      rw [vt_full (Nat.le_refl _)] at he
      have h1 : ∀ x : Nat, decide (((x : Nat) : Int) = 1) = decide (x = 1) := fun x => by simp; omega
      simp only [s214_0, lss_nat, hlt, decide_false, OX_ff, WB_false, Qseq_exit, Qblk_same, QS_normal, e214_r0, s214_r0, len_lims, OX_some, add_nat (show k + d.length < 9223372036854775808 by omega), ia_ar (show k + d.length < U.length by omega), Nat.zero_add, ld_cells l0 (show k + d.length < O.length by omega), conv32 hc, v243 hx hc hb1, ext_eq, List.getElem?_cons_zero, List.getElem?_cons_succ,
        st_cells l0 (show k + d.length < O.length by omega), sset_sset, bin_eql, h1]
      have ht' : (O.set (k + d.length) (difL (dg O (k + d.length)) c b)).take k = U.take k := by rw [take_set_ge (by omega)]; exact ht
      have hd' : (O.set (k + d.length) (difL (dg O (k + d.length)) c b)).drop (k + (d.length + 1)) = U.drop (k + (d.length + 1)) := by rw [drop_set_lt (by omega)]; exact hdr
      have lo' : (O.set (k + d.length) (difL (dg O (k + d.length)) c b)).length = U.length := by rw [List.length_set]; exact lo
      have hO' : Lim (O.set (k + d.length) (difL (dg O (k + d.length)) c b)) := lim_set hO (difL_lt _ _ _)
      have hv := val_set (l := O) (i := k + d.length) (difL (dg O (k + d.length)) c b) (by omega)
      have hv2 : val (O.set (k + d.length) (difL (dg O (k + d.length)) c b)) + B ^ k * (q * val d) = val U + B ^ k * (B ^ (d.length + 1) * borL (dg O (k + d.length)) c b) := by
        have e1 := congrArg (B ^ (k + d.length) * ·) hdl
        simp only [Nat.mul_add] at e1 he
        have e2 : B ^ k * (B ^ (d.length + 1) * borL (dg O (k + d.length)) c b) = B ^ (k + d.length) * (B * borL (dg O (k + d.length)) c b) := by
          rw [← Nat.mul_assoc, ← Nat.pow_add, ← Nat.mul_assoc, ← Nat.pow_succ]; rfl
        omega
      have hw := win_val ht' hd' lo' hlen hv2
      have hc3 := cut3 (O.set (k + d.length) (difL (dg O (k + d.length)) c b)) k (d.length + 1)
      rw [ht', hd'] at hc3
      rw [FinK_ret1]
      refine ⟨_, _, rfl, congrArg (fun l => sset S id (Ent.box (eCells l))) hc3, ?_, lim_take _ (lim_drop _ hO'), borL_le _ _ _, hw⟩
      simp; omega)
  exact ⟨w, b, e, h⟩

/-! ### restore -/
theorem res_step {P O O' A c y t old U D k : Nat} (h : O + P * c = U + A * D) (hO : O' + P * old = O + P * (t % B)) (ht : t = old + y + c) (hP : P = A * k) : O' + P * B * (t / B) = U + A * (D + k * y) := by
  have h1 := Nat.mod_add_div t B
  have h2 := congrArg (P * ·) h1
  simp only [Nat.mul_add] at h2
  have h4 : P * t = P * old + P * y + P * c := by rw [ht, Nat.mul_add, Nat.mul_add]
  have h5 : A * (D + k * y) = A * D + P * y := by rw [hP, Nat.mul_add, Nat.mul_assoc]
  rw [Nat.mul_assoc]
  omega

def J215 (nl : Bool) (U d : List Nat) (k id : Nat) (S : Store) : Nat → List D → Store → Prop := fun m fr S' => ∃ j O c a11, m = d.length - j ∧ j ≤ d.length ∧ c ≤ 1 ∧ List.length O = U.length ∧ Lim O ∧ O.take k = U.take k ∧ O.drop (k + (d.length + 1)) = U.drop (k + (d.length + 1)) ∧
  val O + B ^ (k + j) * c = val U + B ^ k * val (d.take j) ∧ S' = sset S id (.box (eCells O)) ∧
  fr = mkf 44 [(0, .ar 1 id 0 U.length), (1, eLims nl d .ro), (2, .i .i64 k), (6, .i .u32 c), (9, .i .i64 d.length), (10, .i .i64 j), (11, a11)]

theorem v215 (nl : Bool) (U d : List Nat) (k id : Nat) (S : Store) (hS : sget S id = some (.box (eCells U))) (hU : Lim U) (hd : Lim d) (hlen : k + (d.length + 1) ≤ U.length) (hb : U.length ≤ 1000) :
    ∃ w z r, call dp 215 [.ar 1 id 0 U.length, eLims nl d .ro, .i .i64 k] S = some (r, sset S id (.box (eCells (U.take k ++ (w ++ U.drop (k + (d.length + 1))))))) ∧
      w.length = d.length + 1 ∧ Lim w ∧ val w + B ^ (d.length + 1) * z = val ((U.drop k).take (d.length + 1)) + val d := by
  have hid := sget_lt hS
  obtain ⟨r, S', e, w, z, rfl, h⟩ := f215 (.ar 1 id 0 U.length) (eLims nl d .ro) (.i .i64 k) S (fun r S' => ∃ w z, S' = sset S id (.box (eCells (U.take k ++ (w ++ U.drop (k + (d.length + 1)))))) ∧
      w.length = d.length + 1 ∧ Lim w ∧ val w + B ^ (d.length + 1) * z = val ((U.drop k).take (d.length + 1)) + val d) (by
    simp only [s215, len_lims, OX_some]
    refine W_loop (J215 nl U d k id S) ?_ d.length _ _ ⟨0, U, 0, .top, by omega, by omega, by omega, rfl, hU, rfl, rfl, by simp [val], (sset_self hS).symm, rfl⟩
    rintro m fr S' ⟨j, O, c, a11, rfl, hj, hc, lo, hO, ht, hdr, he, rfl, rfl⟩
    rw [← wp_W, e215_0]
    have l0 : sget (sset S id (.box (eCells O))) id = some (.box (eCells O)) := sget_sset _ hid
    by_cases hlt : j < d.length
    · have hx := dg_lt hO (k + j)
      have hy := dg_lt hd j
      simp only [s215_0, lss_nat, hlt, decide_true, OX_tt, OX_some, WB_true, ia_lims hlt, ld_el1, add_nat (show k + j < 9223372036854775808 by omega), ia_ar (show k + j < U.length by omega), Nat.zero_add,
        ld_cells l0 (show k + j < O.length by omega), v142 hx hy hc, ext_eq, List.getElem?_cons_zero, List.getElem?_cons_succ, st_cells l0 (show k + j < O.length by omega), sset_sset, inc_nat (show Bd j by unfold Bd; omega), Qseq_normal]
      refine ⟨d.length - (j + 1), by omega, j + 1, O.set (k + j) _, _, .top, rfl, by omega, ?_, by simpa using lo, lim_set hO (Nat.mod_lt _ B_pos), ?_, ?_, ?_, rfl, rfl⟩
      · simp only [B] at *; omega
      · rw [take_set_ge (by omega)]; exact ht
      · rw [drop_set_lt (by omega)]; exact hdr
      · rw [vt_succ, ← Nat.add_assoc, Nat.pow_succ]
        exact res_step he (val_set _ (by omega)) rfl (Nat.pow_add _ _ _)
    · have : j = d.length := by omega
      subst this
      have hx := dg_lt hO (k + d.length)
      rw [vt_full (Nat.le_refl _)] at he
      have hadd : binD .add .num (.i .u32 (dg O (k + d.length) : Nat)) (.i .u32 c) = some (.i .u32 (((dg O (k + d.length) + c) % B : Nat) : Int)) := by
        rw [bin_add, ← Int.natCast_add, wrapu32m]
      simp only [s215_0, lss_nat, hlt, decide_false, OX_ff, WB_false, Qseq_exit, Qblk_same, QS_normal, e215_r0, s215_r0, len_lims, OX_some, add_nat (show k + d.length < 9223372036854775808 by omega), ia_ar (show k + d.length < U.length by omega), Nat.zero_add, ld_cells l0 (show k + d.length < O.length by omega), hadd,
        st_cells l0 (show k + d.length < O.length by omega), sset_sset]
      have ht' : (O.set (k + d.length) ((dg O (k + d.length) + c) % B)).take k = U.take k := by rw [take_set_ge (by omega)]; exact ht
      have hd' : (O.set (k + d.length) ((dg O (k + d.length) + c) % B)).drop (k + (d.length + 1)) = U.drop (k + (d.length + 1)) := by rw [drop_set_lt (by omega)]; exact hdr
      have lo' : (O.set (k + d.length) ((dg O (k + d.length) + c) % B)).length = U.length := by rw [List.length_set]; exact lo
      have hO' : Lim (O.set (k + d.length) ((dg O (k + d.length) + c) % B)) := lim_set hO (Nat.mod_lt _ B_pos)
      have hv := val_set (l := O) (i := k + d.length) ((dg O (k + d.length) + c) % B) (by omega)
      have hv2 : val (O.set (k + d.length) ((dg O (k + d.length) + c) % B)) + B ^ k * (B ^ (d.length + 1) * ((dg O (k + d.length) + c) / B)) = val U + B ^ k * val d := by
        have h1 := Nat.mod_add_div (dg O (k + d.length) + c) B
        have e1 := congrArg (B ^ (k + d.length) * ·) h1
        simp only [Nat.mul_add] at e1
        have e2 : B ^ k * (B ^ (d.length + 1) * ((dg O (k + d.length) + c) / B)) = B ^ (k + d.length) * (B * ((dg O (k + d.length) + c) / B)) := by
          rw [← Nat.mul_assoc, ← Nat.pow_add, ← Nat.mul_assoc, ← Nat.pow_succ]; rfl
        omega
      have hw := win_val ht' hd' lo' hlen hv2
      have hc3 := cut3 (O.set (k + d.length) ((dg O (k + d.length) + c) % B)) k (d.length + 1)
      rw [ht', hd'] at hc3
      simp only [FinK, finR]
      refine ⟨_, _, congrArg (fun l => sset S id (Ent.box (eCells l))) hc3, ?_, lim_take _ (lim_drop _ hO'), hw⟩
      simp; omega)
  exact ⟨w, z, r, e, h⟩

end Go.Proofs.YtjniafcnjbbomaaGreatDoor.DE.V
